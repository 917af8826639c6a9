/- MeterSums with no number at all: the walk of the law at the empty list. -/
import Derived.Test.YtjbljdjokgamdaaMsum
import Derived.Deep.DeepCutAuto
import Derived.Laws.AppendOwnNone
namespace Go.Proofs.Ytjbljdjokgamdaa
open Go.RowKit
set_option linter.unusedVariables false

set_option maxRecDepth 100000 in
set_option maxHeartbeats 600000 in
theorem MeterSums_none (A : Option Addr) (cap : Nat) (S : Option Addr) (n scap : Nat) (w : World) (a2 : (n : Int) ≤ 100) :
    Calls Try.prog 3 #[.slice A 0 cap, .slice S n scap] w fun e w' => e = .returned (.bool true) ∧ Below w.heap.size w w' := by
  obtain ⟨i0, hi, hz0, hz1, hz2⟩ := info_parts Try.info30
  have hmk : ∀ W : World, (Instr.makeSlice 23 (.int .i64 8) (.int .i64 8)).run Try.prog W = .ok (.slice (some ⟨W.heap.size, 0, none⟩) 8 8) (W.alloc (.cells (cells (zeros 8)) 3)) := make_ints 8 (by decide)
  go_enter Try.func3, Try.ntmps3
  go_wp2_with fail
  refine (New_ok 8 _ (by decide) (by decide)).mono ?_
  rintro e w1 ⟨rfl, hm1, hs1, hb1⟩
  have HS1 := Lib.hid hs1
  go_wp2_with fail
  refine (New_ok 8 _ (by decide) (by decide)).mono ?_
  rw [hs1]
  rintro e w2 ⟨rfl, hu2, hs2, hb2⟩
  have hm2 := hm1.below hb2 (by omega) (by omega)
  have hb2' := hb1.trans (hb2.mono (by omega))
  have HS2 := Lib.hid hs2
  have hz2' : w.heap.size + 3 < w2.heap.size := hu2.st.lt
  clear hs1 hs2 hm1 hb1 hb2 HS1
  have hm3 := hm2.alloc (.cells #[] 30)
  have hu3 := hu2.alloc (.cells #[] 30)
  have hb3 := hb2'.alloc hb2'.size (.cells #[] 30)
  have hown := World.ownsRow_made (base := w2.heap.size) (size := 3) (e := 30) w2 #[] 0 (Nat.le_refl _) (by decide) rfl
  rcases A with _ | a
  · clear hown hm2 hu2 hb2'
    go_wp2_with fail
    generalize w2.alloc (.cells #[] 30) = w3 at hm3 hu3 hb3 ⊢
    refine wp_loop_rounds 1 ?_
    rw [rounds_succ]
    go_wp2_with fail
    all_goals
      have hk4 := Blk.made w3 3 (cells (zeros 8))
      have hm4 := hm3.alloc (.cells (cells (zeros 8)) 3)
      have hu4 := hu3.alloc (.cells (cells (zeros 8)) 3)
      have hb4 := hb3.alloc hb3.size (.cells (cells (zeros 8)) 3)
      have hz3 := hb3.size
      refine wp_loop_rounds 1 ?_
      rw [rounds_succ]
      go_wp2_with fail
      refine (All_any _ _ _ _ hm4 (by rw [zeros_length]; decide)).mono ?_
      rw [zeros_length]
      rintro e w5 ⟨rfl, hk5, hs5, hb5⟩
      rw [World.size_alloc] at hk5
      have HS5 := Lib.hid hs5
      clear hs5
      have hk6 := hk4.below hb5 hk4.lt
      have hu5 := hu4.below hb5 hu4.st.lt hu4.row.lt
      have hb5' := hb4.trans (hb5.mono hb4.size)
      clear hm4 hu4 hb4 hm3 hu3 hb3
      go_wp2_with fail
      refine (ints_b _ _ _ _ _ _ (zeros 8) (zeros 8) _ (zeros_length 8) (zeros_length 8) (RI_of_blk hk5) (RI_of_blk hk6) (by decide) (by decide)).mono ?_
      rintro e w6 ⟨rfl, hb6⟩
      have hk7 := hk6.below hb6 hk6.lt
      have hu6 := hu5.below hb6 hu5.st.lt hu5.row.lt
      have hb6' := hb5'.trans (hb6.mono hb5'.size)
      go_wp2_with fail
      refine (All_any _ _ _ _ hu6 (by rw [zeros_length]; decide)).mono ?_
      rw [zeros_length]
      rintro e w7 ⟨rfl, hk8, hs7, hb7⟩
      have HS7 := Lib.hid hs7
      clear hs7
      have hk9 := hk7.below hb7 hk7.lt
      have hb7' := hb6'.trans (hb7.mono hb6'.size)
      go_wp2_with fail
      refine (ints_b _ _ _ _ _ _ (zeros 8) (zeros 8) _ (zeros_length 8) (zeros_length 8) (RI_of_blk hk8) (RI_of_blk hk9) (by decide) (by decide)).mono ?_
      rintro e w8 ⟨rfl, hb8⟩
      have hb8' := hb7'.trans (hb8.mono hb7'.size)
      go_wp2_with fail
      refine (awake_any _).mono ?_
      rintro e w9 ⟨rfl, hb9⟩
      go_wp2_with fail
      go_ret
      exact ⟨rfl, hb8'.trans (hb9.mono hb8'.size)⟩
  · go_wp2_with (at_builtin; refine wpList_append_own_at _ rfl _ _ 22 rfl w2.heap.size 30 i0 (.agg #[.int .i64 0, .int .i64 0, .int .i64 0]) 3 24 Try.underlying22 hi hz0 hz1 hz2 rfl (by decide) (.slice (some ⟨w2.heap.size, 0, none⟩) 0 0) 0 [] rfl hown a 0 cap [] rfl rfl (by intro j u h; simp at h) (by intro u h; simp at h) (by decide) (by omega) (by simp) ?_)
    intro v w3 hown' hg3 hne hat
    replace hm3 := hm3.grown hg3 (by simp [Value.ownBlock]; omega) (by simp [Value.ownBlock]; omega)
    replace hu3 := hu3.grown hg3 (by simp [Value.ownBlock]; omega) (by simp [Value.ownBlock]; omega)
    replace hb3 := hb3.grown hg3 (by simp; omega) (by simp [Value.ownBlock]; omega)
    clear hown' hg3 hne hat hown hm2 hu2 hb2'
    go_wp2_with fail
    refine wp_loop_rounds 1 ?_
    rw [rounds_succ]
    go_wp2_with fail
    all_goals
      have hk4 := Blk.made w3 3 (cells (zeros 8))
      have hm4 := hm3.alloc (.cells (cells (zeros 8)) 3)
      have hu4 := hu3.alloc (.cells (cells (zeros 8)) 3)
      have hb4 := hb3.alloc hb3.size (.cells (cells (zeros 8)) 3)
      have hz3 := hb3.size
      refine wp_loop_rounds 1 ?_
      rw [rounds_succ]
      go_wp2_with fail
      refine (All_any _ _ _ _ hm4 (by rw [zeros_length]; decide)).mono ?_
      rw [zeros_length]
      rintro e w5 ⟨rfl, hk5, hs5, hb5⟩
      rw [World.size_alloc] at hk5
      have HS5 := Lib.hid hs5
      clear hs5
      have hk6 := hk4.below hb5 hk4.lt
      have hu5 := hu4.below hb5 hu4.st.lt hu4.row.lt
      have hb5' := hb4.trans (hb5.mono hb4.size)
      clear hm4 hu4 hb4 hm3 hu3 hb3
      go_wp2_with fail
      refine (ints_b _ _ _ _ _ _ (zeros 8) (zeros 8) _ (zeros_length 8) (zeros_length 8) (RI_of_blk hk5) (RI_of_blk hk6) (by decide) (by decide)).mono ?_
      rintro e w6 ⟨rfl, hb6⟩
      have hk7 := hk6.below hb6 hk6.lt
      have hu6 := hu5.below hb6 hu5.st.lt hu5.row.lt
      have hb6' := hb5'.trans (hb6.mono hb5'.size)
      go_wp2_with fail
      refine (All_any _ _ _ _ hu6 (by rw [zeros_length]; decide)).mono ?_
      rw [zeros_length]
      rintro e w7 ⟨rfl, hk8, hs7, hb7⟩
      have HS7 := Lib.hid hs7
      clear hs7
      have hk9 := hk7.below hb7 hk7.lt
      have hb7' := hb6'.trans (hb7.mono hb6'.size)
      go_wp2_with fail
      refine (ints_b _ _ _ _ _ _ (zeros 8) (zeros 8) _ (zeros_length 8) (zeros_length 8) (RI_of_blk hk8) (RI_of_blk hk9) (by decide) (by decide)).mono ?_
      rintro e w8 ⟨rfl, hb8⟩
      have hb8' := hb7'.trans (hb8.mono hb7'.size)
      go_wp2_with fail
      refine (awake_any _).mono ?_
      rintro e w9 ⟨rfl, hb9⟩
      go_wp2_with fail
      go_ret
      exact ⟨rfl, hb8'.trans (hb9.mono hb8'.size)⟩
end Go.Proofs.Ytjbljdjokgamdaa
