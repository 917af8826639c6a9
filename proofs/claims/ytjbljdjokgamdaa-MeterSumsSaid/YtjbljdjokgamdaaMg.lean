/- New, All and Reset of the meter; a slice of zeros that make lays. -/
import Derived.Test.YtjbljdjokgamdaaMe
import Derived.Laws.MakeOwn
namespace Go.Proofs.Ytjbljdjokgamdaa
open Go.RowKit
set_option linter.unusedVariables false

theorem grown_more {a w : World} {d : Nat} (h : a.grownBy w (some d)) {p : Addr} (hp : p.block = d ∨ a.heap.size ≤ p.block) (u : Value) : a.grownBy (w.setCell p u) (some d) :=
  ⟨h.os, h.tape, h.output, by simpa [World.setCell] using h.size, fun i hi hne => (Below.heap_setCell w p u i (by
    rintro rfl
    rcases hp with hp | hp
    · exact hne (by rw [hp])
    · omega)).trans (h.block i hi hne)⟩

def zeros (n : Nat) : List Int := List.replicate n 0
theorem zeros_length (n : Nat) : (zeros n).length = n := by simp [zeros]
theorem nth_zeros (n k : Nat) : nth (zeros n) k = 0 := by
  unfold nth zeros
  by_cases h : k < n <;> simp [h]

theorem Try.info3 : (Try.prog.info? 3).map (fun i => (i.zero, i.size, i.bytes)) = some (some (.int .i64 0), 1, 8) := by kernel_rfl
theorem Try.info59 : (Try.prog.info? 59).map (fun i => (i.zero, i.size, i.bytes)) = some (some (.agg #[.int .i64 0]), 1, 8) := by kernel_rfl

theorem made_zeros (n : Nat) : madeCells #[.int .i64 0] (n * 1) = cells (zeros n) := by
  apply Array.ext
  · simp [madeCells, cells, zeros]
  · intro i h1 h2
    simp [madeCells, cells, zeros, Nat.mod_one]

theorem make_ints (n : Nat) (hn : n ≤ 4398046511104) (W : World) :
    (Instr.makeSlice 23 (.int .i64 (n : Int)) (.int .i64 (n : Int))).run Try.prog W = .ok (.slice (some ⟨W.heap.size, 0, none⟩) n n) (W.alloc (.cells (cells (zeros n)) 3)) := by
  obtain ⟨i0, hi, hz0, hz1, hz2⟩ := info_parts Try.info3
  have h := run_make (P := Try.prog) W 23 3 i0 (.int .i64 0) Try.underlying23 hi hz0 .i64 .i64 (n : Int) (n : Int) (by omega) (by omega) (by rw [hz2]; omega) (by omega)
  rw [h, hz1]
  simp only [Int.toNat_natCast, Value.cells, made_zeros]

theorem make_counts (n : Nat) (hn : n ≤ 4398046511104) (W : World) :
    (Instr.makeSlice 44 (.int .i64 (n : Int)) (.int .i64 (n : Int))).run Try.prog W = .ok (.slice (some ⟨W.heap.size, 0, none⟩) n n) (W.alloc (.cells (cells (zeros n)) 59)) := by
  obtain ⟨i0, hi, hz0, hz1, hz2⟩ := info_parts Try.info59
  have h := run_make (P := Try.prog) W 44 59 i0 (.agg #[.int .i64 0]) Try.underlying44 hi hz0 .i64 .i64 (n : Int) (n : Int) (by omega) (by omega) (by rw [hz2]; omega) (by omega)
  rw [h, hz1]
  simp only [Int.toNat_natCast, Value.cells, made_zeros]

theorem New_bad (n : Int) (w : World) (hn : n < 1 ∨ 256 < n) :
    Calls Try.prog 9 #[.int .i64 n] w fun e w' => e = .returned (.tuple #[.pointer none, .int .i64 10]) ∧ w = w' := by
  by_cases h0 : n < 1
  · go_enter Try.func9, Try.ntmps9
    go_wp2
    go_ret2
    exact ⟨rfl, rfl⟩
  · have h1 : 256 < n := by omega
    have h2 : (1 : Int) ≤ n := by omega
    clear hn h0
    go_enter Try.func9, Try.ntmps9
    go_wp2
    go_ret2
    exact ⟨rfl, rfl⟩

theorem New_ok (n : Nat) (w : World) (h1 : 1 ≤ n) (h2 : n ≤ 256) :
    Calls Try.prog 9 #[.int .i64 n] w fun e w' => e = .returned (.tuple #[.pointer (some ⟨w.heap.size + 1, 0, none⟩), .int .i64 0]) ∧
      Met w' (w.heap.size + 1) w.heap.size (zeros n) ∧ w'.heap.size = w.heap.size + 2 ∧ Below w.heap.size w w' := by
  have hmk := make_counts n (by omega)
  have a1 : (1 : Int) ≤ (n : Int) := by omega
  have a2 : (n : Int) ≤ 256 := by omega
  go_enter Try.func9, Try.ntmps9
  go_wp2
  go_ret2
  refine ⟨rfl, ⟨?_, ?_⟩, by simp, ((Below.refl _ _).alloc (Nat.le_refl _) _).alloc (by simp) _⟩
  · rw [zeros_length]
    have := Blk.made (w.alloc (.cells (cells (zeros n)) 59)) 46 #[.slice (some ⟨w.heap.size, 0, none⟩) n n]
    simpa using this
  · exact (Blk.made w 59 (cells (zeros n))).alloc _

/-- What has been laid into the result after k rounds. -/
def filled (xs : List Int) (k : Nat) : List Int := xs.take k ++ zeros (xs.length - k)
theorem filled_length (xs : List Int) {k : Nat} (h : k ≤ xs.length) : (filled xs k).length = xs.length := by simp [filled, zeros]; omega
theorem filled_zero (xs : List Int) : filled xs 0 = zeros xs.length := by simp [filled]
theorem filled_all (xs : List Int) : filled xs xs.length = xs := by simp [filled, zeros]
theorem filled_step (xs : List Int) {k : Nat} (h : k < xs.length) : (filled xs k).set k (nth xs k) = filled xs (k + 1) := by
  unfold filled
  rw [List.take_succ_eq_append_getElem h, ← nth_eq h, show xs.length - k = (xs.length - (k + 1)) + 1 by omega]
  rw [List.set_append_right _ _ (by simp; omega), List.length_take, show k - min k xs.length = 0 by omega]
  simp [zeros, List.replicate_succ]

/-- What is left of the counts after k rounds of Reset. -/
def emptied (xs : List Int) (k : Nat) : List Int := zeros k ++ xs.drop k
theorem emptied_length (xs : List Int) {k : Nat} (h : k ≤ xs.length) : (emptied xs k).length = xs.length := by simp [emptied, zeros]; omega
theorem emptied_zero (xs : List Int) : emptied xs 0 = xs := by simp [emptied, zeros]
theorem emptied_all (xs : List Int) : emptied xs xs.length = zeros xs.length := by simp [emptied]
theorem emptied_nth (xs : List Int) {k : Nat} (h : k < xs.length) : nth (emptied xs k) k = nth xs k := by
  unfold nth emptied
  simp [zeros, List.getElem?_append_right]
theorem emptied_step (xs : List Int) {k : Nat} (h : k < xs.length) : (emptied xs k).set k 0 = emptied xs (k + 1) := by
  unfold emptied
  rw [List.set_append_right _ _ (by simp [zeros]), show k - (zeros k).length = 0 by simp [zeros], List.drop_eq_getElem_cons h]
  simp only [List.set_cons_zero, zeros, List.replicate_succ', List.append_assoc, List.cons_append, List.nil_append]

theorem each_nil (f : Value) (w : World) :
    Calls Try.prog 20 #[.pointer none, f] w fun e w' => e = .returned (.slice none 0 0) ∧ w = w' := by
  go_enter Try.func20, Try.ntmps20
  go_wp2
  go_ret
  exact ⟨rfl, rfl⟩

set_option maxHeartbeats 400000 in
theorem each_load (s d : Nat) (xs : List Int) (w : World) (h : Met w s d xs) (hx : xs.length ≤ 4398046511104) :
    Calls Try.prog 20 #[.pointer (some ⟨s, 0, none⟩), .func (.func 21) #[] #[]] w fun e w' =>
      e = .returned (.slice (some ⟨w.heap.size, 0, none⟩) xs.length xs.length) ∧ Blk w' w.heap.size 3 (cells xs) ∧ w'.heap.size = w.heap.size + 1 ∧ Below w.heap.size w w' := by
  have hmk := make_ints xs.length hx
  have c0 := h.c0
  have c0' : (w.alloc (.cells (cells (zeros xs.length)) 3)).cell? ⟨s, 0, none⟩ = some (.slice (some ⟨d, 0, none⟩) xs.length xs.length) := (h.alloc _).c0
  have hsl := h.st.lt
  have hdl := h.row.lt
  have HB := Lib.hid (Blk.made w 3 (cells (zeros xs.length)))
  have HM := Lib.hid h
  clear h
  go_enter Try.func20, Try.ntmps20
  go_wp2
  go_loopw [20] (fun i wr => ∃ k : Nat, k ≤ xs.length ∧ i = .int .i64 k ∧ Blk wr w.heap.size 3 (cells (filled xs k)) ∧ wr.heap.size = w.heap.size + 1 ∧ Below w.heap.size w wr) (fun i _ => xs.length - (intOf i).toNat)
  case atStart => exact ⟨0, Nat.zero_le _, rfl, by rw [filled_zero]; exact HB.out, by simp, (Below.refl _ _).alloc (Nat.le_refl _) _⟩
  case round =>
    obtain ⟨k, hk, rfl, hb, hsz, hbel⟩ := hrel
    have HSZ := Lib.hid hsz
    clear hsz
    have hm := HM.out.below hbel hsl hdl
    have c0r := hm.c0
    by_cases hlt : k < xs.length
    · have i1 : (0 : Int) ≤ (k : Int) := by omega
      have i2 : (k : Int) < (xs.length : Int) := by omega
      have hco : wr.cell? ⟨w.heap.size, k, none⟩ = some (.int .i64 (nth (filled xs k) k)) := by rw [hb.cell, cells_get (by rw [filled_length xs hk]; exact hlt)]
      have hfo := hb.frozen k
      go_wp2_with (go_at_call 21; refine (load_at d k _ _ (hm.c1 hlt)).mono ?_; rintro e w' ⟨rfl, rfl⟩)
      go_roundw
      case rel =>
        refine ⟨k + 1, by omega, by go_num, ?_, by simpa [World.setCell] using HSZ.out, hbel.setCell (Nat.le_refl _) _⟩
        have := hb.put k (.int .i64 (nth xs k))
        rwa [cells_put, filled_step xs hlt] at this
      case measure => simp [intOf]; omega
    · obtain rfl : k = xs.length := by omega
      go_wp2
      go_ret
      rw [filled_all] at hb
      exact ⟨rfl, hb, HSZ.out, hbel⟩

theorem All_nil (w : World) :
    Calls Try.prog 12 #[.pointer none] w fun e w' => e = .returned (.slice none 0 0) ∧ w = w' := by
  go_enter Try.func12, Try.ntmps12
  go_wp2_with (go_at_call 20; refine (each_nil _ _).mono ?_; rintro e w' ⟨rfl, rfl⟩)
  go_ret
  exact ⟨rfl, rfl⟩

theorem All_any (s d : Nat) (xs : List Int) (w : World) (h : Met w s d xs) (hx : xs.length ≤ 4398046511104) :
    Calls Try.prog 12 #[.pointer (some ⟨s, 0, none⟩)] w fun e w' =>
      e = .returned (.slice (some ⟨w.heap.size, 0, none⟩) xs.length xs.length) ∧ Blk w' w.heap.size 3 (cells xs) ∧ w'.heap.size = w.heap.size + 1 ∧ Below w.heap.size w w' := by
  go_enter Try.func12, Try.ntmps12
  go_wp2_with (go_at_call 20; refine (each_load s d xs _ h hx).mono ?_; rintro e w' ⟨rfl, hb, hs, hbel⟩)
  go_ret
  exact ⟨rfl, hb, hs, hbel⟩

theorem clear_at (d k : Nat) (x : Int) (w : World) (hc : w.cell? ⟨d, k, none⟩ = some (.int .i64 x)) (hz : w.frozen? ⟨d, k, none⟩ = false) :
    Calls Try.prog 22 #[.pointer (some ⟨d, k, none⟩)] w fun e w' => e = .returned (.int .i64 x) ∧ w.setCell ⟨d, k, none⟩ (.int .i64 0) = w' := by
  go_enter Try.func22, Try.ntmps22
  go_wp2_with (go_at_call 23; refine (swap_at d k x _ _ hc hz).mono ?_; rintro e w' ⟨rfl, rfl⟩)
  go_ret
  exact ⟨rfl, rfl⟩

set_option maxHeartbeats 400000 in
theorem each_reset (s d : Nat) (xs : List Int) (w : World) (h : Met w s d xs) (hx : xs.length ≤ 4398046511104) :
    Calls Try.prog 20 #[.pointer (some ⟨s, 0, none⟩), .func (.func 22) #[] #[]] w fun e w' =>
      e = .returned (.slice (some ⟨w.heap.size, 0, none⟩) xs.length xs.length) ∧ Blk w' w.heap.size 3 (cells xs) ∧ w'.heap.size = w.heap.size + 1 ∧ Met w' s d (zeros xs.length) ∧ w.grownBy w' (some d) := by
  have hmk := make_ints xs.length hx
  have c0 := h.c0
  have c0' : (w.alloc (.cells (cells (zeros xs.length)) 3)).cell? ⟨s, 0, none⟩ = some (.slice (some ⟨d, 0, none⟩) xs.length xs.length) := (h.alloc _).c0
  have hsl := h.st.lt
  have hdl := h.row.lt
  have HB := Lib.hid (Blk.made w 3 (cells (zeros xs.length)))
  have HM := Lib.hid h
  clear h
  go_enter Try.func20, Try.ntmps20
  go_wp2
  go_loopw [20] (fun i wr => ∃ k : Nat, k ≤ xs.length ∧ i = .int .i64 k ∧ Blk wr w.heap.size 3 (cells (filled xs k)) ∧ wr.heap.size = w.heap.size + 1 ∧ Met wr s d (emptied xs k) ∧ w.grownBy wr (some d)) (fun i _ => xs.length - (intOf i).toNat)
  case atStart => exact ⟨0, Nat.zero_le _, rfl, by rw [filled_zero]; exact HB.out, by simp, by rw [emptied_zero]; exact HM.out.alloc _, World.grownBy_alloc _ _ _⟩
  case round =>
    obtain ⟨k, hk, rfl, hb, hsz, hm, hgr⟩ := hrel
    have HSZ := Lib.hid hsz
    clear hsz
    have c0r := hm.c0
    rw [emptied_length xs hk] at c0r
    by_cases hlt : k < xs.length
    · have i1 : (0 : Int) ≤ (k : Int) := by omega
      have i2 : (k : Int) < (xs.length : Int) := by omega
      have hne : w.heap.size ≠ d := by omega
      have hb1 := hb.far (p := ⟨d, k, none⟩) hne (.int .i64 0)
      have hco : (wr.setCell ⟨d, k, none⟩ (.int .i64 0)).cell? ⟨w.heap.size, k, none⟩ = some (.int .i64 (nth (filled xs k) k)) := by rw [hb1.cell, cells_get (by rw [filled_length xs hk]; exact hlt)]
      have hfo := hb1.frozen k
      have hce := hm.c1 (k := k) (by rw [emptied_length xs hk]; exact hlt)
      rw [emptied_nth xs hlt] at hce
      clear hne
      go_wp2_with (go_at_call 22; refine (clear_at d k _ _ hce (hm.f1 k)).mono ?_; rintro e w' ⟨rfl, rfl⟩)
      go_roundw
      case rel =>
        refine ⟨k + 1, by omega, by go_num, ?_, by simpa [World.setCell] using HSZ.out, ?_, ?_⟩
        · have := hb1.put k (.int .i64 (nth xs k))
          rwa [cells_put, filled_step xs hlt] at this
        · have h2 := hm.put k 0
          rw [emptied_step xs hlt] at h2
          exact h2.grown (grown_put _ w.heap.size k (.int .i64 (nth xs k))) (by simp; omega) (by simp; omega)
        · exact grown_more (grown_more hgr (.inl rfl) _) (.inr (Nat.le_refl _)) _
      case measure => simp [intOf]; omega
    · obtain rfl : k = xs.length := by omega
      go_wp2
      go_ret
      rw [filled_all] at hb
      rw [emptied_all] at hm
      exact ⟨rfl, hb, HSZ.out, hm, hgr⟩

theorem Reset_nil (w : World) :
    Calls Try.prog 14 #[.pointer none] w fun e w' => e = .returned (.slice none 0 0) ∧ w = w' := by
  go_enter Try.func14, Try.ntmps14
  go_wp2_with (go_at_call 20; refine (each_nil _ _).mono ?_; rintro e w' ⟨rfl, rfl⟩)
  go_ret
  exact ⟨rfl, rfl⟩

theorem Reset_any (s d : Nat) (xs : List Int) (w : World) (h : Met w s d xs) (hx : xs.length ≤ 4398046511104) :
    Calls Try.prog 14 #[.pointer (some ⟨s, 0, none⟩)] w fun e w' =>
      e = .returned (.slice (some ⟨w.heap.size, 0, none⟩) xs.length xs.length) ∧ Blk w' w.heap.size 3 (cells xs) ∧ w'.heap.size = w.heap.size + 1 ∧ Met w' s d (zeros xs.length) ∧ w.grownBy w' (some d) := by
  go_enter Try.func14, Try.ntmps14
  go_wp2_with (go_at_call 20; refine (each_reset s d xs _ h hx).mono ?_; rintro e w' ⟨rfl, hb, hs, hm, hg⟩)
  go_ret
  exact ⟨rfl, hb, hs, hm, hg⟩
end Go.Proofs.Ytjbljdjokgamdaa
