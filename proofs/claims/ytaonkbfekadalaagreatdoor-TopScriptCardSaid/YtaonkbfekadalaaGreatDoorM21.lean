/- Joined texts: Xc, Xd, Xe, Xf. -/
import Derived.Lib.AtoiErrMem
import Derived.Test.YtaonkbfekadalaaGreatDoorM01
import Derived.Test.YtaonkbfekadalaaGreatDoorM18
import Derived.Test.YtaonkbfekadalaaGreatDoorM20
/- A command of the example's text: what number, next and command come to. -/
namespace Go.Proofs.YtaonkbfekadalaaGreatDoor
open Go.RowKit
set_option linter.unusedVariables false

theorem trim_ok (s : ByteArray) (hs : s.size ≤ 100) (w : World) : Calls Tryz.prog 194 #[.string s, .string ⟨#[48, 49, 50, 51, 52, 53, 54, 55, 56, 57]⟩] w fun e w' => e = .returned (.string ⟨(Lib.trimS s.data.toList [48, 49, 50, 51, 52, 53, 54, 55, 56, 57]).toArray⟩) ∧ Below w.heap.size w w' :=
  Any.strings_Trim_laid Tryz.lays160 (by kernel_rfl) s ⟨#[48, 49, 50, 51, 52, 53, 54, 55, 56, 57]⟩ w (by omega) (by decide) (ascii_of_all (by decide))
/-- A text that is a number of one digit, above 0. -/
structure OneD (s : ByteArray) (n : Int) : Prop where
  pre : (⟨(Lib.trimPrefix s.data.toList [45]).toArray⟩ : ByteArray) = s
  trim : (⟨(Lib.trimS s.data.toList [48, 49, 50, 51, 52, 53, 54, 55, 56, 57]).toArray⟩ : ByteArray) = ⟨#[]⟩
  ne : ¬ s = ⟨#[]⟩
  len : s.size = 1
  at0 : ∃ c : Nat, c ≠ 48 ∧ ∀ W, (Instr.index 9 (.string s) (.int .i64 0)).run Tryz.prog W = .ok (.int .u8 (c : Int)) W
  val : Lib.atoi s.data.toList = some n
theorem one_2 : OneD ⟨#[50]⟩ 2 := ⟨by decide +kernel, by decide +kernel, by decide, by decide, ⟨50, by decide, fun W => by kernel_rfl⟩, by decide +kernel⟩
theorem one_1 : OneD ⟨#[49]⟩ 1 := ⟨by decide +kernel, by decide +kernel, by decide, by decide, ⟨49, by decide, fun W => by kernel_rfl⟩, by decide +kernel⟩
set_option maxRecDepth 100000 in
set_option maxHeartbeats 4000000 in
theorem number_ok {s : ByteArray} {n : Int} (h : OneD s n) (w : World) : Calls Tryz.prog 143 #[.string s] w fun e w' => e = .returned (.tuple #[.int .i64 n, .int .i64 0]) ∧ Below w.heap.size w w' := by
  have h1 := Tryz.strings_TrimPrefix s ⟨#[45]⟩ w
  rw [show (⟨#[45]⟩ : ByteArray).data.toList = [45] from rfl, h.pre] at h1
  have h2 := trim_ok s (by have := h.len; omega) w
  rw [h.trim] at h2
  have e0 : ¬ s.toList = [] := by
    rw [ByteArray.toList_eq]
    intro q
    have q1 : s.data.toList.length = 1 := h.len
    rw [q] at q1
    cases q1
  have e1 : s.toList.isEmpty = false := by cases q : s.toList <;> simp_all
  obtain ⟨c, hc, h3⟩ := h.at0
  have e3 : ¬ ((c : Int) = 48) := by omega
  have hl := h.len
  have h5 := fun W => Tryz.strconv_Atoi s n (by omega) h.val W
  have HH := Lib.hid h
  clear h
  go_enter Tryz.func143, Tryz.ntmps143
  go_wp2_with fail
  refine h1.mono ?_
  rintro e w1 ⟨rfl, rfl⟩
  go_wp2_with fail
  refine h2.mono ?_
  rintro e w2 ⟨rfl, hB2⟩
  go_wp2_with fail
  refine (h5 w2).mono ?_
  rintro e w3 ⟨rfl, t, rfl⟩
  go_wp2_with fail
  go_ret2
  exact ⟨rfl, hB2.trans ((Lib.bytesWorld_below w2 5 t).mono hB2.size)⟩
end Go.Proofs.YtaonkbfekadalaaGreatDoor
/- A command of the example's text: what next and command come to. -/
namespace Go.Proofs.YtaonkbfekadalaaGreatDoor
open Go.RowKit
set_option linter.unusedVariables false

theorem Numbers_word {k : Nat} (hk : k < 17) {s : ByteArray} (hs : wordK k = s) (w : World) : Calls Tryz.prog 97 #[.string s] w fun e w' => e = .returned (.tuple #[.int .i64 (numK k : Nat), .bool true]) ∧ Below w.heap.size w w' := (Numbers_ok s w).mono (by
  rintro e w' ⟨⟨j, hj, hw', rfl⟩ | ⟨hno, _⟩, hB⟩
  · obtain rfl : j = k := word_uniq hj hk (hw'.trans hs.symm)
    exact ⟨rfl, hB⟩
  · exact absurd hs (hno k hk))
section
variable {w : World} {bn bw bl : Nat} {n i : Int}
/-- The number of a word, where there is none any more. -/
theorem next_skip (hn : Blk w bn 3 #[.int .i64 n]) (hi : n < i) : Calls Tryz.prog 142 #[.int .i64 i, .pointer (some ⟨bn, 0, none⟩), .pointer (some ⟨bw, 0, none⟩), .pointer (some ⟨bl, 0, none⟩)] w fun e w' => e = .returned (.int .i64 0) ∧ w' = w := by
  have c0 : w.cell? ⟨bn, 0, none⟩ = some (.int .i64 n) := by rw [hn.cell]; rfl
  go_enter Tryz.func142, Tryz.ntmps142
  go_wp2_with fail
  go_ret
  exact ⟨rfl, rfl⟩
/-- The number of a word. -/
theorem next_go {x : Int} {k len g : Nat} {s : ByteArray} (hn : Blk w bn 3 #[.int .i64 n]) (hw : Blk w bw 28 #[.int .i64 0]) (hl : Blk w bl 126 #[.slice (some ⟨g, 0, none⟩) len len]) (hi : (k : Int) ≤ n) (hk : k < len) (hlen : len ≤ 4)
    (hs : w.cell? ⟨g, k, none⟩ = some (.string s)) (hx : OneD s x) :
    Calls Tryz.prog 142 #[.int .i64 (k : Nat), .pointer (some ⟨bn, 0, none⟩), .pointer (some ⟨bw, 0, none⟩), .pointer (some ⟨bl, 0, none⟩)] w fun e w' => e = .returned (.int .i64 x) ∧ ∃ w1, Below w.heap.size w w1 ∧ w' = w1.setCell ⟨bw, 0, none⟩ (.int .i64 0) := by
  have c0 : w.cell? ⟨bn, 0, none⟩ = some (.int .i64 n) := by rw [hn.cell]; rfl
  have c1 : w.cell? ⟨bw, 0, none⟩ = some (.int .i64 0) := by rw [hw.cell]; rfl
  have c2 : w.cell? ⟨bl, 0, none⟩ = some (.slice (some ⟨g, 0, none⟩) len len) := by rw [hl.cell]; rfl
  have c3 : w.cell? ⟨g, 0 + k * 1, none⟩ = some (.string s) := by rw [Nat.mul_one, Nat.zero_add]; exact hs
  have i0 : (0 : Int) ≤ (k : Int) := by omega
  have i1 : (k : Int) < (len : Int) := by omega
  have h1 := number_ok hx w
  clear hx
  go_enter Tryz.func142, Tryz.ntmps142
  go_wp2_with fail
  refine h1.mono ?_
  rintro e w1 ⟨rfl, hB1⟩
  have d1 := (hw.below hB1 hw.lt).cell 0
  have d2 := (hw.below hB1 hw.lt).frozen 0
  go_wp2_with fail
  go_ret
  exact ⟨rfl, w1, hB1, rfl⟩
end
end Go.Proofs.YtaonkbfekadalaaGreatDoor
/- A command of the example's text: what command comes to. -/
namespace Go.Proofs.YtaonkbfekadalaaGreatDoor
open Go.RowKit
set_option linter.unusedVariables false

section
variable {w : World} {s : ByteArray} {k : Nat} {m : Int}
set_option maxRecDepth 100000 in
set_option maxHeartbeats 4000000 in
theorem command_0 (hk : k < 17) (hs : wordK k = s) (hn : numK k = 0) (hc : Lib.countB s ⟨#[32]⟩ = 0) (hsp : Lib.splitB ⟨#[32]⟩ 0 0 s = [s]) (hne : ¬ s.toList = []) (hsz : s.size ≤ 40) (hm : w.cell? ⟨0, 0, none⟩ = some (.int .i64 m)) :
    Calls Tryz.prog 85 #[.string s] w fun e w' => e = .returned (.tuple #[.agg #[.string s, .int .i64 0, .int .i64 0], .int .i64 0]) ∧ Below w.heap.size w w' := by
  have hmf : ∀ (fn : Fn) (first cap : Array Value) (w : World), (Instr.makeFunc fn first cap).run Tryz.prog w = .ok (.func fn first cap) w := fun _ _ _ _ => rfl
  have hlt : 0 < w.heap.size := by
    rcases Nat.lt_or_ge 0 w.heap.size with h | h
    · exact h
    · exfalso; simp [World.cell?, h] at hm
  have z0 := Blk.made w 24 #[.string ⟨#[]⟩, .int .i64 0, .int .i64 0]
  have hBz : Below w.heap.size w (w.alloc (.cells #[.string ⟨#[]⟩, .int .i64 0, .int .i64 0] 24)) := (Below.refl _ w).alloc (Nat.le_refl _) _
  have hz1 : (w.alloc (.cells #[.string ⟨#[]⟩, .int .i64 0, .int .i64 0] 24)).heap.size = w.heap.size + 1 := by simp
  have hm1 : (w.alloc (.cells #[.string ⟨#[]⟩, .int .i64 0, .int .i64 0] 24)).cell? ⟨0, 0, none⟩ = some (.int .i64 m) := (World.cell?_of_block (hBz.block 0 hlt)).trans hm
  generalize hW0 : w.alloc (.cells #[.string ⟨#[]⟩, .int .i64 0, .int .i64 0] 24) = W0 at *
  have hspl := Tryz.strings_Split s ⟨#[32]⟩ m W0 (by omega) hm1 (by decide)
  rw [hc, hsp, hz1, show ([s].map Value.string).toArray = #[.string s] from rfl] at hspl
  have hnw := fun W => Numbers_word hk hs W
  rw [hn, show ((0 : Nat) : Int) = 0 from rfl] at hnw
  go_enter Tryz.func85, Tryz.ntmps85
  go_wp2_with fail
  refine hspl.mono ?_
  rintro e w1 ⟨rfl, hw1⟩
  have g1 := Blk.made W0 9 #[.string s]
  rw [← hw1] at g1
  have hB1 : Below W0.heap.size W0 w1 := by rw [hw1]; exact (Below.refl _ W0).alloc (Nat.le_refl _) _
  have hs1 : w1.heap.size = w.heap.size + 2 := by rw [hw1]; simp [hz1]
  have c1 : w1.cell? ⟨w.heap.size + 1, 0, none⟩ = some (.string s) := by rw [← hz1, g1.cell]; rfl
  clear hspl hw1 hm hm1
  have b2 := Blk.made w1 126 #[.slice (some ⟨w.heap.size + 1, 0, none⟩) 1 1]
  have hB2 : Below w1.heap.size w1 (w1.alloc (.cells #[.slice (some ⟨w.heap.size + 1, 0, none⟩) 1 1] 126)) := (Below.refl _ w1).alloc (Nat.le_refl _) _
  have hs2 : (w1.alloc (.cells #[.slice (some ⟨w.heap.size + 1, 0, none⟩) 1 1] 126)).heap.size = w.heap.size + 3 := by simp [hs1]
  rw [hs1] at b2
  go_wp2_with fail
  refine (hnw _).mono ?_
  rintro e w3 ⟨rfl, hB3⟩
  have g3 := (g1.below hB2 g1.lt).below hB3 (by omega)
  rw [hz1] at g3
  have b3 := b2.below hB3 b2.lt
  have z3 := ((z0.below hB1 z0.lt).below hB2 (by omega)).below hB3 (by omega)
  have hBw : Below w.heap.size w w3 := ((hBz.trans (hB1.mono (by omega))).trans (hB2.mono (by omega))).trans (hB3.mono (by omega))
  have hs3 := hB3.size
  have n4 := Blk.made w3 3 #[.int .i64 0]
  have hB4 : Below w3.heap.size w3 (w3.alloc (.cells #[.int .i64 0] 3)) := (Below.refl _ w3).alloc (Nat.le_refl _) _
  have g4 := g3.below hB4 g3.lt
  have b4 := b3.below hB4 b3.lt
  have z4 := z3.below hB4 z3.lt
  have c4 : (w3.alloc (.cells #[.int .i64 0] 3)).cell? ⟨w.heap.size + 2, 0, none⟩ = some (.slice (some ⟨w.heap.size + 1, 0, none⟩) 1 1) := by rw [b4.cell]; rfl
  have c5 : (w3.alloc (.cells #[.int .i64 0] 3)).cell? ⟨w.heap.size + 1, 0, none⟩ = some (.string s) := by rw [g4.cell]; rfl
  have c6 : (w3.alloc (.cells #[.int .i64 0] 3)).cell? ⟨w3.heap.size, 0, none⟩ = some (.int .i64 0) := by rw [n4.cell]; rfl
  have hs4 : (w3.alloc (.cells #[.int .i64 0] 3)).heap.size = w3.heap.size + 1 := by simp
  have e1 : s.toList.isEmpty = false := by cases q : s.toList <;> simp_all
  go_wp2_with fail
  have hBw4 := hBw.trans (hB4.mono hBw.size)
  generalize hW4 : w3.alloc (.cells #[.int .i64 0] 3) = W4 at *
  have HW4 := Lib.hid hW4
  clear hW4
  go_loopw [34] (fun i wr => ∃ j : Nat, j ≤ 1 ∧ i = .int .i64 j ∧ wr = W4) (fun i _ => 1 - (intOf i).toNat)
  case atStart => refine ⟨0, by omega, ?_⟩; simp
  case round =>
    obtain ⟨j, hj, rfl, rfl⟩ := hrel
    by_cases hlt : j < 1
    · obtain rfl : j = 0 := by omega
      go_wp2_with fail
      go_roundw
      case rel => refine ⟨1, by omega, ?_⟩; simp
      case measure => simp [intOf]
    · obtain rfl : j = 1 := by omega
      have q9 := (Blk.made wr 24 #[.string s, .int .i64 0, .int .i64 0]).alloc (.cells #[.int .i64 0] 28)
      have q10 := Blk.made (wr.alloc (.cells #[.string s, .int .i64 0, .int .i64 0] 24)) 28 #[.int .i64 0]
      have hB6 : Below wr.heap.size wr ((wr.alloc (.cells #[.string s, .int .i64 0, .int .i64 0] 24)).alloc (.cells #[.int .i64 0] 28)) := ((Below.refl _ wr).alloc (Nat.le_refl _) _).alloc (by simp) _
      rw [World.size_alloc] at q10
      rw [hs4] at q9 q10
      have n6 := n4.below hB6 n4.lt
      have z6 := z4.below hB6 z4.lt
      have hx1 := next_skip (bw := w3.heap.size + 1 + 1) (bl := w.heap.size + 2) (i := 1) n6 (by omega)
      go_wp2_with fail
      refine hx1.mono ?_
      rintro e w7 ⟨rfl, rfl⟩
      generalize hW6 : (wr.alloc (.cells #[.string s, .int .i64 0, .int .i64 0] 24)).alloc (.cells #[.int .i64 0] 28) = W6 at *
      have HW6 := Lib.hid hW6
      clear hW6 hx1
      have f1 := q9.cell 1
      have f1f := q9.frozen 1
      have q9b := q9.put 1 (.int .i64 0)
      have n7 := n6.far (p := ⟨w3.heap.size + 1, 1, none⟩) (by show w3.heap.size ≠ w3.heap.size + 1; omega) (.int .i64 0)
      have hx2 := next_skip (bw := w3.heap.size + 1 + 1) (bl := w.heap.size + 2) (i := 2) n7 (by omega)
      go_wp2_with fail
      refine hx2.mono ?_
      rintro e w8 ⟨rfl, rfl⟩
      clear hx2
      have f2 := q9b.cell 2
      have f2f := q9b.frozen 2
      have q9c := q9b.put 2 (.int .i64 0)
      have t10a := q10.far (p := ⟨w3.heap.size + 1, 1, none⟩) (by show w3.heap.size + 1 + 1 ≠ w3.heap.size + 1; omega) (.int .i64 0)
      have t10b := t10a.far (p := ⟨w3.heap.size + 1, 2, none⟩) (by show w3.heap.size + 1 + 1 ≠ w3.heap.size + 1; omega) (.int .i64 0)
      have z7 := (z6.far (p := ⟨w3.heap.size + 1, 1, none⟩) (by show w.heap.size ≠ w3.heap.size + 1; omega) (.int .i64 0)).far (p := ⟨w3.heap.size + 1, 2, none⟩) (by show w.heap.size ≠ w3.heap.size + 1; omega) (.int .i64 0)
      have r0 := q9c.cell 0
      have r1 := q9c.cell 1
      have r2 := q9c.cell 2
      have r3 := t10b.cell 0
      have y0 := z7.cell 0
      have y1 := z7.cell 1
      have y2 := z7.cell 2
      have y0f := z7.frozen 0
      have y1f := z7.frozen 1
      have y2f := z7.frozen 2
      go_wp2_with fail
      refine bodyPost_ret (results_c_t rfl _ rfl (((z7.put 0 (.string s)).put 1 (.int .i64 0)).put 2 (.int .i64 0)) Tryz.underlying24 (by kernel_rfl)) rfl ?_
      have s6 := hB6.size
      exact ⟨rfl, (((((hBw4.trans (hB6.mono hBw4.size)).setCell (p := ⟨w3.heap.size + 1, 1, none⟩) (by show w.heap.size ≤ w3.heap.size + 1; omega) _).setCell (p := ⟨w3.heap.size + 1, 2, none⟩) (by show w.heap.size ≤ w3.heap.size + 1; omega) _).setCell (p := ⟨w.heap.size, 0, none⟩) (Nat.le_refl _) _).setCell (p := ⟨w.heap.size, 1, none⟩) (Nat.le_refl _) _).setCell (p := ⟨w.heap.size, 2, none⟩) (Nat.le_refl _) _⟩
end
end Go.Proofs.YtaonkbfekadalaaGreatDoor
/- A command of the example's text with two numbers: what command comes to. -/
namespace Go.Proofs.YtaonkbfekadalaaGreatDoor
open Go.RowKit
set_option linter.unusedVariables false

section
variable {w : World} {s : ByteArray} {k : Nat} {m : Int}
set_option maxRecDepth 100000 in
set_option maxHeartbeats 4000000 in
theorem command_2 (hk : k < 17) (hs : wordK k = s) (hn : numK k = 2) {u a b : ByteArray} {x y : Int} (hc : Lib.countB u ⟨#[32]⟩ = 2) (hsp : Lib.splitB ⟨#[32]⟩ 0 2 u = [s, a, b]) (hne : ¬ s.toList = []) (hna : ¬ a.toList = []) (hnb : ¬ b.toList = []) (hx : OneD a x) (hy : OneD b y) (hu : u.size ≤ 40) (hsz : s.size ≤ 40) (hm : w.cell? ⟨0, 0, none⟩ = some (.int .i64 m)) :
    Calls Tryz.prog 85 #[.string u] w fun e w' => e = .returned (.tuple #[.agg #[.string s, .int .i64 x, .int .i64 y], .int .i64 0]) ∧ Below w.heap.size w w' := by
  have hmf : ∀ (fn : Fn) (first cap : Array Value) (w : World), (Instr.makeFunc fn first cap).run Tryz.prog w = .ok (.func fn first cap) w := fun _ _ _ _ => rfl
  have hlt : 0 < w.heap.size := by
    rcases Nat.lt_or_ge 0 w.heap.size with h | h
    · exact h
    · exfalso; simp [World.cell?, h] at hm
  have z0 := Blk.made w 24 #[.string ⟨#[]⟩, .int .i64 0, .int .i64 0]
  have hBz : Below w.heap.size w (w.alloc (.cells #[.string ⟨#[]⟩, .int .i64 0, .int .i64 0] 24)) := (Below.refl _ w).alloc (Nat.le_refl _) _
  have hz1 : (w.alloc (.cells #[.string ⟨#[]⟩, .int .i64 0, .int .i64 0] 24)).heap.size = w.heap.size + 1 := by simp
  have hm1 : (w.alloc (.cells #[.string ⟨#[]⟩, .int .i64 0, .int .i64 0] 24)).cell? ⟨0, 0, none⟩ = some (.int .i64 m) := (World.cell?_of_block (hBz.block 0 hlt)).trans hm
  generalize hW0 : w.alloc (.cells #[.string ⟨#[]⟩, .int .i64 0, .int .i64 0] 24) = W0 at *
  have hspl := Tryz.strings_Split u ⟨#[32]⟩ m W0 (by omega) hm1 (by decide)
  rw [hc, hsp, hz1, show ([s, a, b].map Value.string).toArray = #[.string s, .string a, .string b] from rfl] at hspl
  have hnw := fun W => Numbers_word hk hs W
  rw [hn, show ((2 : Nat) : Int) = 2 from rfl] at hnw
  go_enter Tryz.func85, Tryz.ntmps85
  go_wp2_with fail
  refine hspl.mono ?_
  rintro e w1 ⟨rfl, hw1⟩
  have g1 := Blk.made W0 9 #[.string s, .string a, .string b]
  rw [← hw1] at g1
  have hB1 : Below W0.heap.size W0 w1 := by rw [hw1]; exact (Below.refl _ W0).alloc (Nat.le_refl _) _
  have hs1 : w1.heap.size = w.heap.size + 2 := by rw [hw1]; simp [hz1]
  have c1 : w1.cell? ⟨w.heap.size + 1, 0, none⟩ = some (.string s) := by rw [← hz1, g1.cell]; rfl
  clear hspl hw1 hm hm1
  have b2 := Blk.made w1 126 #[.slice (some ⟨w.heap.size + 1, 0, none⟩) 3 3]
  have hB2 : Below w1.heap.size w1 (w1.alloc (.cells #[.slice (some ⟨w.heap.size + 1, 0, none⟩) 3 3] 126)) := (Below.refl _ w1).alloc (Nat.le_refl _) _
  have hs2 : (w1.alloc (.cells #[.slice (some ⟨w.heap.size + 1, 0, none⟩) 3 3] 126)).heap.size = w.heap.size + 3 := by simp [hs1]
  rw [hs1] at b2
  go_wp2_with fail
  refine (hnw _).mono ?_
  rintro e w3 ⟨rfl, hB3⟩
  have g3 := (g1.below hB2 g1.lt).below hB3 (by omega)
  rw [hz1] at g3
  have b3 := b2.below hB3 b2.lt
  have z3 := ((z0.below hB1 z0.lt).below hB2 (by omega)).below hB3 (by omega)
  have hBw : Below w.heap.size w w3 := ((hBz.trans (hB1.mono (by omega))).trans (hB2.mono (by omega))).trans (hB3.mono (by omega))
  have hs3 := hB3.size
  have n4 := Blk.made w3 3 #[.int .i64 2]
  have hB4 : Below w3.heap.size w3 (w3.alloc (.cells #[.int .i64 2] 3)) := (Below.refl _ w3).alloc (Nat.le_refl _) _
  have g4 := g3.below hB4 g3.lt
  have b4 := b3.below hB4 b3.lt
  have z4 := z3.below hB4 z3.lt
  have c4 : (w3.alloc (.cells #[.int .i64 2] 3)).cell? ⟨w.heap.size + 2, 0, none⟩ = some (.slice (some ⟨w.heap.size + 1, 0, none⟩) 3 3) := by rw [b4.cell]; rfl
  have c5 : (w3.alloc (.cells #[.int .i64 2] 3)).cell? ⟨w.heap.size + 1, 0, none⟩ = some (.string s) := by rw [g4.cell]; rfl
  have c6 : (w3.alloc (.cells #[.int .i64 2] 3)).cell? ⟨w3.heap.size, 0, none⟩ = some (.int .i64 2) := by rw [n4.cell]; rfl
  have hs4 : (w3.alloc (.cells #[.int .i64 2] 3)).heap.size = w3.heap.size + 1 := by simp
  have e1 : s.toList.isEmpty = false := by cases q : s.toList <;> simp_all
  have e2 : a.toList.isEmpty = false := by cases q : a.toList <;> simp_all
  have e3 : b.toList.isEmpty = false := by cases q : b.toList <;> simp_all
  have c5a : (w3.alloc (.cells #[.int .i64 2] 3)).cell? ⟨w.heap.size + 1, 1, none⟩ = some (.string a) := by rw [g4.cell]; rfl
  have c5b : (w3.alloc (.cells #[.int .i64 2] 3)).cell? ⟨w.heap.size + 1, 2, none⟩ = some (.string b) := by rw [g4.cell]; rfl
  have HX := Lib.hid hx
  have HY := Lib.hid hy
  clear hx hy
  go_wp2_with fail
  have hBw4 := hBw.trans (hB4.mono hBw.size)
  generalize hW4 : w3.alloc (.cells #[.int .i64 2] 3) = W4 at *
  have HW4 := Lib.hid hW4
  clear hW4
  go_loopw [34] (fun i wr => ∃ j : Nat, j ≤ 3 ∧ i = .int .i64 j ∧ wr = W4) (fun i _ => 3 - (intOf i).toNat)
  case atStart => refine ⟨0, by omega, ?_⟩; simp
  case round =>
    obtain ⟨j, hj, rfl, rfl⟩ := hrel
    by_cases hlt : j < 3
    · rcases (by omega : j = 0 ∨ j = 1 ∨ j = 2) with rfl | rfl | rfl
      · go_wp2_with fail
        go_roundw
        case rel => refine ⟨1, by omega, ?_⟩; simp
        case measure => simp [intOf]
      · go_wp2_with fail
        go_roundw
        case rel => refine ⟨2, by omega, ?_⟩; simp
        case measure => simp [intOf]
      · go_wp2_with fail
        go_roundw
        case rel => refine ⟨3, by omega, ?_⟩; simp
        case measure => simp [intOf]
    · obtain rfl : j = 3 := by omega
      have q9 := (Blk.made wr 24 #[.string s, .int .i64 0, .int .i64 0]).alloc (.cells #[.int .i64 0] 28)
      have q10 := Blk.made (wr.alloc (.cells #[.string s, .int .i64 0, .int .i64 0] 24)) 28 #[.int .i64 0]
      have hB6 : Below wr.heap.size wr ((wr.alloc (.cells #[.string s, .int .i64 0, .int .i64 0] 24)).alloc (.cells #[.int .i64 0] 28)) := ((Below.refl _ wr).alloc (Nat.le_refl _) _).alloc (by simp) _
      rw [World.size_alloc] at q10
      rw [hs4] at q9 q10
      have n6 := n4.below hB6 n4.lt
      have z6 := z4.below hB6 z4.lt
      have b6 := b4.below hB6 b4.lt
      have g6 := g4.below hB6 g4.lt
      have hx1 := next_go (k := 1) n6 q10 b6 (by omega) (by omega) (by omega) (by rw [g6.cell]; rfl) HX.out
      go_wp2_with fail
      refine hx1.mono ?_
      rintro e w7 ⟨rfl, v7, hB7, rfl⟩
      clear hx1
      have s6 := hB6.size
      have hBv7 : Below w.heap.size w v7 := (hBw4.trans (hB6.mono hBw4.size)).trans (hB7.mono (by have := hBw4.size; omega))
      replace q9 := q9.below hB7 q9.lt
      replace n6 := n6.below hB7 n6.lt
      replace z6 := z6.below hB7 z6.lt
      replace b6 := b6.below hB7 b6.lt
      replace g6 := g6.below hB7 g6.lt
      replace q10 := q10.below hB7 q10.lt
      clear hB7 hB6
      obtain ⟨V7, hV7⟩ : ∃ V7, V7 = v7.setCell ⟨w3.heap.size + 1 + 1, 0, none⟩ (.int .i64 0) := ⟨_, rfl⟩
      have hBV7 : Below w.heap.size w V7 := by rw [hV7]; exact hBv7.setCell (p := ⟨w3.heap.size + 1 + 1, 0, none⟩) (by show w.heap.size ≤ w3.heap.size + 1 + 1; omega) _
      replace q9 := q9.far (p := ⟨w3.heap.size + 1 + 1, 0, none⟩) (by show w3.heap.size + 1 ≠ w3.heap.size + 1 + 1; omega) (.int .i64 0)
      replace n6 := n6.far (p := ⟨w3.heap.size + 1 + 1, 0, none⟩) (by show w3.heap.size ≠ w3.heap.size + 1 + 1; omega) (.int .i64 0)
      replace z6 := z6.far (p := ⟨w3.heap.size + 1 + 1, 0, none⟩) (by show w.heap.size ≠ w3.heap.size + 1 + 1; omega) (.int .i64 0)
      replace b6 := b6.far (p := ⟨w3.heap.size + 1 + 1, 0, none⟩) (by show w.heap.size + 2 ≠ w3.heap.size + 1 + 1; omega) (.int .i64 0)
      replace g6 := g6.far (p := ⟨w3.heap.size + 1 + 1, 0, none⟩) (by show w.heap.size + 1 ≠ w3.heap.size + 1 + 1; omega) (.int .i64 0)
      have t10 := q10.put 0 (.int .i64 0)
      rw [← hV7] at q9 n6 z6 b6 g6 t10 ⊢
      clear hV7 hBv7 q10
      have f1 := q9.cell 1
      have f1f := q9.frozen 1
      have q9b := q9.put 1 (.int .i64 x)
      have n7 := n6.far (p := ⟨w3.heap.size + 1, 1, none⟩) (by show w3.heap.size ≠ w3.heap.size + 1; omega) (.int .i64 x)
      have b7 := b6.far (p := ⟨w3.heap.size + 1, 1, none⟩) (by show w.heap.size + 2 ≠ w3.heap.size + 1; omega) (.int .i64 x)
      have g7 := g6.far (p := ⟨w3.heap.size + 1, 1, none⟩) (by show w.heap.size + 1 ≠ w3.heap.size + 1; omega) (.int .i64 x)
      have t7 := t10.far (p := ⟨w3.heap.size + 1, 1, none⟩) (by show w3.heap.size + 1 + 1 ≠ w3.heap.size + 1; omega) (.int .i64 x)
      have z7 := z6.far (p := ⟨w3.heap.size + 1, 1, none⟩) (by show w.heap.size ≠ w3.heap.size + 1; omega) (.int .i64 x)
      have hBW7 := hBV7.setCell (p := ⟨w3.heap.size + 1, 1, none⟩) (by show w.heap.size ≤ w3.heap.size + 1; omega) (.int .i64 x)
      have hx2 := next_go (k := 2) n7 t7 b7 (by omega) (by omega) (by omega) (by rw [g7.cell]; rfl) HY.out
      go_wp2_with fail
      refine hx2.mono ?_
      rintro e w8 ⟨rfl, v8, hB8, rfl⟩
      clear hx2
      replace q9 := q9b.below hB8 q9b.lt
      replace z6 := z7.below hB8 z7.lt
      replace t10 := t7.below hB8 t7.lt
      have hBv8 := hBW7.trans (hB8.mono hBW7.size)
      clear hB8
      obtain ⟨V8, hV8⟩ : ∃ V8, V8 = v8.setCell ⟨w3.heap.size + 1 + 1, 0, none⟩ (.int .i64 0) := ⟨_, rfl⟩
      have hBV8 : Below w.heap.size w V8 := by rw [hV8]; exact hBv8.setCell (p := ⟨w3.heap.size + 1 + 1, 0, none⟩) (by show w.heap.size ≤ w3.heap.size + 1 + 1; omega) _
      replace q9 := q9.far (p := ⟨w3.heap.size + 1 + 1, 0, none⟩) (by show w3.heap.size + 1 ≠ w3.heap.size + 1 + 1; omega) (.int .i64 0)
      replace z6 := z6.far (p := ⟨w3.heap.size + 1 + 1, 0, none⟩) (by show w.heap.size ≠ w3.heap.size + 1 + 1; omega) (.int .i64 0)
      replace t10 := t10.put 0 (.int .i64 0)
      rw [← hV8] at q9 z6 t10 ⊢
      clear hV8 hBv8
      have f2 := q9.cell 2
      have f2f := q9.frozen 2
      have q9c := q9.put 2 (.int .i64 y)
      have t10b := t10.far (p := ⟨w3.heap.size + 1, 2, none⟩) (by show w3.heap.size + 1 + 1 ≠ w3.heap.size + 1; omega) (.int .i64 y)
      have z8 := z6.far (p := ⟨w3.heap.size + 1, 2, none⟩) (by show w.heap.size ≠ w3.heap.size + 1; omega) (.int .i64 y)
      have r0 := q9c.cell 0
      have r1 := q9c.cell 1
      have r2 := q9c.cell 2
      have r3 := t10b.cell 0
      have y0 := z8.cell 0
      have y1 := z8.cell 1
      have y2 := z8.cell 2
      have y0f := z8.frozen 0
      have y1f := z8.frozen 1
      have y2f := z8.frozen 2
      go_wp2_with fail
      refine bodyPost_ret (results_c_t rfl _ rfl (((z8.put 0 (.string s)).put 1 (.int .i64 x)).put 2 (.int .i64 y)) Tryz.underlying24 (by kernel_rfl)) rfl ?_
      exact ⟨rfl, (((hBV8.setCell (p := ⟨w3.heap.size + 1, 2, none⟩) (by show w.heap.size ≤ w3.heap.size + 1; omega) _).setCell (p := ⟨w.heap.size, 0, none⟩) (Nat.le_refl _) _).setCell (p := ⟨w.heap.size, 1, none⟩) (Nat.le_refl _) _).setCell (p := ⟨w.heap.size, 2, none⟩) (Nat.le_refl _) _⟩
end
end Go.Proofs.YtaonkbfekadalaaGreatDoor
