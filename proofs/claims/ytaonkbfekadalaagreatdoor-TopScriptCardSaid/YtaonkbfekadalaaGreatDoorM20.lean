/- Joined texts: Pb, Pd, Pe. -/
import Derived.Lib.ItoaLen
import Derived.Test.YtaonkbfekadalaaGreatDoorM19
/- What line comes to. -/
namespace Go.Proofs.YtaonkbfekadalaaGreatDoor
open Go.RowKit
set_option linter.unusedVariables false

/-- The library's table of powers of ten is as it was laid. -/
def Tab10 (w : World) : Prop := Lib.TabIs Tryz.prog w "internal/strconv.uint64pow10" .u64 Lib.pow10Tab
theorem Tab10.below {w w' : World} {B : Nat} (h : Tab10 w) (hb : Below B w w') (hB : 1 < B) : Tab10 w' := by
  have hg : Tryz.prog.globalNamed "internal/strconv.uint64pow10" = some 1 := by kernel_rfl
  have hw := hb.block 1 hB
  unfold Tab10 Lib.TabIs World.var? at *
  rw [hg] at h ⊢
  simp only [Option.bind_some] at h ⊢
  rw [hw]; exact h
theorem below_grow (w : World) (k : Nat) (os : Array Obj) : Below w.heap.size w (Sort.grow (w.drewN k) os) :=
  ⟨rfl, rfl, rfl, by simp [Sort.grow, World.drewN], fun i hi => by
    show ((w.drewN k).heap ++ os)[i]? = w.heap[i]?
    rw [Array.getElem?_append_left (by simpa [World.drewN] using hi)]
    rfl⟩
theorem Itoa_any {n : Int} (hn : inH n) (w : World) (ht : Tab10 w) : Calls Tryz.prog 87 #[.int .i64 n] w fun e w' => (∃ s : ByteArray, e = .returned (.string s) ∧ s.size ≤ 21) ∧ Below w.heap.size w w' := by
  refine (Tryz.strconv_Itoa n hn.1 hn.2 w ht).mono ?_
  rintro e w' ⟨rfl, k, os, rfl⟩
  exact ⟨⟨_, rfl, by have := Lib.itoa_length_le n hn.1 hn.2; simpa [ByteArray.size] using this⟩, below_grow _ _ _⟩
/-- A word that there is, with the numbers that it may have. -/
def okW (s : ByteArray) (A B : Int) (k : Nat) : Prop := k < 17 ∧ wordK k = s ∧ (numK k < 1 → A = 0) ∧ (numK k < 2 → B = 0)
/-- What line comes to. -/
def LinePost (s : ByteArray) (A B : Int) (e : Ending) : Prop :=
  ∃ (str : ByteArray) (code : Int), e = .returned (.tuple #[.string str, .int .i64 code]) ∧ ((code = 0 ∧ (∃ k, okW s A B k) ∧ str.size ≤ s.size + 50) ∨ ((code = 13 ∨ code = 1) ∧ ¬ ∃ k, okW s A B k))
theorem wordK_inj : ∀ i : Fin 17, ∀ j : Fin 17, (wordK i.1).data.toList = (wordK j.1).data.toList → i = j := by decide +kernel
theorem word_uniq {i j : Nat} (hi : i < 17) (hj : j < 17) (h : wordK i = wordK j) : i = j := by
  have := wordK_inj ⟨i, hi⟩ ⟨j, hj⟩ (by rw [h])
  simpa using this
theorem numK_le (k : Nat) (hk : k < 17) : numK k ≤ 2 := by
  have : ∀ i : Fin 17, numK i.1 ≤ 2 := by decide +kernel
  exact this ⟨k, hk⟩
theorem ba_append_size (a b : ByteArray) : (a ++ b).size = a.size + b.size := ByteArray.size_append
section
variable {s : ByteArray} {A B : Int} {w : World}
set_option maxRecDepth 100000 in
set_option maxHeartbeats 2000000 in
theorem line_noword (hno : ∀ k, k < 17 → wordK k ≠ s) (hN : ∀ W, Calls Tryz.prog 97 #[.string s] W fun e w' => e = .returned (.tuple #[.int .i64 0, .bool false]) ∧ Below W.heap.size W w') :
    Calls Tryz.prog 47 #[.agg #[.string s, .int .i64 A, .int .i64 B]] w fun e w' => LinePost s A B e ∧ Below w.heap.size w w' := by
  have HNO := Lib.hid hno
  have hBa : Below w.heap.size w (w.alloc (.cells #[.string s, .int .i64 A, .int .i64 B] 24)) := (Below.refl _ w).alloc (Nat.le_refl _) _
  clear hno
  go_enter Tryz.func47, Tryz.ntmps47
  go_wp2_with fail
  refine (hN _).mono ?_
  rintro e w1 ⟨rfl, hB1⟩
  go_wp2_with fail
  go_ret2
  exact ⟨⟨⟨#[]⟩, 13, rfl, .inr ⟨.inl rfl, fun ⟨k, q1, q2, _⟩ => HNO.out k q1 q2⟩⟩, hBa.trans (hB1.mono hBa.size)⟩
set_option maxRecDepth 100000 in
set_option maxHeartbeats 2000000 in
theorem line_bad0 {k : Nat} (hk : k < 17) (hw : wordK k = s) (hn : numK k = 0) (hA : A ≠ 0) (hN : ∀ W, Calls Tryz.prog 97 #[.string s] W fun e w' => e = .returned (.tuple #[.int .i64 0, .bool true]) ∧ Below W.heap.size W w') :
    Calls Tryz.prog 47 #[.agg #[.string s, .int .i64 A, .int .i64 B]] w fun e w' => LinePost s A B e ∧ Below w.heap.size w w' := by
  have hBa : Below w.heap.size w (w.alloc (.cells #[.string s, .int .i64 A, .int .i64 B] 24)) := (Below.refl _ w).alloc (Nat.le_refl _) _
  have b0 := Blk.made w 24 #[.string s, .int .i64 A, .int .i64 B]
  have hbad : ¬ ∃ k, okW s A B k := by
    rintro ⟨j, q1, q2, q3, q4⟩
    obtain rfl : j = k := word_uniq q1 hk (q2.trans hw.symm)
    rw [hn] at q3 q4
    exact hA (q3 (by decide))
  have HB := Lib.hid hbad
  have tA : (A != 0) = true := by simp [hA]
  clear hk hw hn hbad hA
  go_enter Tryz.func47, Tryz.ntmps47
  go_wp2_with fail
  refine (hN _).mono ?_
  rintro e w1 ⟨rfl, hB1⟩
  have b1 := b0.below hB1 b0.lt
  have c0 : w1.cell? ⟨w.heap.size, 0, none⟩ = some (.string s) := by rw [b1.cell]; rfl
  have c1 : w1.cell? ⟨w.heap.size, 1, none⟩ = some (.int .i64 A) := by rw [b1.cell]; rfl
  have c2 : w1.cell? ⟨w.heap.size, 2, none⟩ = some (.int .i64 B) := by rw [b1.cell]; rfl
  go_wp2_with fail
  go_ret2
  exact ⟨⟨⟨#[]⟩, 1, rfl, .inr ⟨.inr rfl, HB.out⟩⟩, hBa.trans (hB1.mono hBa.size)⟩
set_option maxRecDepth 100000 in
set_option maxHeartbeats 2000000 in
theorem line_bad00 {k : Nat} (hk : k < 17) (hw : wordK k = s) (hn : numK k = 0) (hA : A = 0) (hB : B ≠ 0) (hN : ∀ W, Calls Tryz.prog 97 #[.string s] W fun e w' => e = .returned (.tuple #[.int .i64 0, .bool true]) ∧ Below W.heap.size W w') :
    Calls Tryz.prog 47 #[.agg #[.string s, .int .i64 A, .int .i64 B]] w fun e w' => LinePost s A B e ∧ Below w.heap.size w w' := by
  have hBa : Below w.heap.size w (w.alloc (.cells #[.string s, .int .i64 A, .int .i64 B] 24)) := (Below.refl _ w).alloc (Nat.le_refl _) _
  have b0 := Blk.made w 24 #[.string s, .int .i64 A, .int .i64 B]
  have hbad : ¬ ∃ k, okW s A B k := by
    rintro ⟨j, q1, q2, q3, q4⟩
    obtain rfl : j = k := word_uniq q1 hk (q2.trans hw.symm)
    rw [hn] at q3 q4
    exact hB (q4 (by decide))
  have HB := Lib.hid hbad
  have tA : (A != 0) = false := by simp [hA]
  have tB : (B != 0) = true := by simp [hB]
  clear hk hw hn hbad hA hB
  go_enter Tryz.func47, Tryz.ntmps47
  go_wp2_with fail
  refine (hN _).mono ?_
  rintro e w1 ⟨rfl, hB1⟩
  have b1 := b0.below hB1 b0.lt
  have c0 : w1.cell? ⟨w.heap.size, 0, none⟩ = some (.string s) := by rw [b1.cell]; rfl
  have c1 : w1.cell? ⟨w.heap.size, 1, none⟩ = some (.int .i64 A) := by rw [b1.cell]; rfl
  have c2 : w1.cell? ⟨w.heap.size, 2, none⟩ = some (.int .i64 B) := by rw [b1.cell]; rfl
  go_wp2_with fail
  go_ret2
  exact ⟨⟨⟨#[]⟩, 1, rfl, .inr ⟨.inr rfl, HB.out⟩⟩, hBa.trans (hB1.mono hBa.size)⟩
set_option maxRecDepth 100000 in
set_option maxHeartbeats 2000000 in
theorem line_bad1 {k : Nat} (hk : k < 17) (hw : wordK k = s) (hn : numK k = 1) (hB : B ≠ 0) (hN : ∀ W, Calls Tryz.prog 97 #[.string s] W fun e w' => e = .returned (.tuple #[.int .i64 1, .bool true]) ∧ Below W.heap.size W w') :
    Calls Tryz.prog 47 #[.agg #[.string s, .int .i64 A, .int .i64 B]] w fun e w' => LinePost s A B e ∧ Below w.heap.size w w' := by
  have hBa : Below w.heap.size w (w.alloc (.cells #[.string s, .int .i64 A, .int .i64 B] 24)) := (Below.refl _ w).alloc (Nat.le_refl _) _
  have b0 := Blk.made w 24 #[.string s, .int .i64 A, .int .i64 B]
  have hbad : ¬ ∃ k, okW s A B k := by
    rintro ⟨j, q1, q2, q3, q4⟩
    obtain rfl : j = k := word_uniq q1 hk (q2.trans hw.symm)
    rw [hn] at q3 q4
    exact hB (q4 (by decide))
  have HB := Lib.hid hbad
  have tB : (B != 0) = true := by simp [hB]
  clear hk hw hn hbad hB
  go_enter Tryz.func47, Tryz.ntmps47
  go_wp2_with fail
  refine (hN _).mono ?_
  rintro e w1 ⟨rfl, hB1⟩
  have b1 := b0.below hB1 b0.lt
  have c0 : w1.cell? ⟨w.heap.size, 0, none⟩ = some (.string s) := by rw [b1.cell]; rfl
  have c1 : w1.cell? ⟨w.heap.size, 1, none⟩ = some (.int .i64 A) := by rw [b1.cell]; rfl
  have c2 : w1.cell? ⟨w.heap.size, 2, none⟩ = some (.int .i64 B) := by rw [b1.cell]; rfl
  go_wp2_with fail
  go_ret2
  exact ⟨⟨⟨#[]⟩, 1, rfl, .inr ⟨.inr rfl, HB.out⟩⟩, hBa.trans (hB1.mono hBa.size)⟩
set_option maxRecDepth 100000 in
set_option maxHeartbeats 2000000 in
theorem line_good0 {k : Nat} (hk : k < 17) (hw : wordK k = s) (hn : numK k = 0) (hA : A = 0) (hB : B = 0) (hs : s.size ≤ 40) (iA : inH A) (iB : inH B) (hT : Tab10 w) (hw1 : 1 < w.heap.size) (hN : ∀ W, Calls Tryz.prog 97 #[.string s] W fun e w' => e = .returned (.tuple #[.int .i64 0, .bool true]) ∧ Below W.heap.size W w') :
    Calls Tryz.prog 47 #[.agg #[.string s, .int .i64 A, .int .i64 B]] w fun e w' => LinePost s A B e ∧ Below w.heap.size w w' := by
  have hBa : Below w.heap.size w (w.alloc (.cells #[.string s, .int .i64 A, .int .i64 B] 24)) := (Below.refl _ w).alloc (Nat.le_refl _) _
  have b0 := Blk.made w 24 #[.string s, .int .i64 A, .int .i64 B]
  have hgood : ∃ k, okW s A B k := ⟨k, hk, hw, fun q => by rw [hn] at q; first | omega | exact hA, fun q => by rw [hn] at q; first | omega | exact hB⟩
  have HB := Lib.hid hgood
  have tA : (A != 0) = false := by simp [hA]
  have tB : (B != 0) = false := by simp [hB]
  have HS := Lib.hid hs
  have HI := Lib.hid (And.intro iA iB)
  have HT := Lib.hid hT
  clear hk hw hn hgood hA hB hT
  go_enter Tryz.func47, Tryz.ntmps47
  go_wp2_with fail
  refine (hN _).mono ?_
  rintro e w1 ⟨rfl, hB1⟩
  have b1 := b0.below hB1 b0.lt
  have c0 : w1.cell? ⟨w.heap.size, 0, none⟩ = some (.string s) := by rw [b1.cell]; rfl
  have c1 : w1.cell? ⟨w.heap.size, 1, none⟩ = some (.int .i64 A) := by rw [b1.cell]; rfl
  have c2 : w1.cell? ⟨w.heap.size, 2, none⟩ = some (.int .i64 B) := by rw [b1.cell]; rfl
  have k1 := Blk.made w1 3 #[.int .i64 A, .int .i64 B]
  have hBb : Below w.heap.size w (w1.alloc (.cells #[.int .i64 A, .int .i64 B] 3)) := (hBa.trans (hB1.mono hBa.size)).alloc (by have := hBa.size; have := hB1.size; omega) _
  have HK := Lib.hid k1
  clear k1
  go_wp2_with fail
  go_loopw [6, 45] (fun o i wr => ∃ (j : Nat) (str : ByteArray), j ≤ 0 ∧ i = .int .i64 j ∧ o = .string str ∧ str.size ≤ s.size + 22 * j ∧ Blk wr w1.heap.size 3 #[.int .i64 A, .int .i64 B] ∧ Below w.heap.size w wr) (fun _ i _ => 0 - (intOf i).toNat)
  case atStart => exact ⟨0, s, Nat.zero_le _, rfl, rfl, Nat.le_refl _, HK.out, hBb⟩
  case round =>
    obtain ⟨j, str, hj, rfl, rfl, hsz, hb, hB⟩ := hrel
    by_cases hlt : j < 0
    · exact absurd hlt (by omega)
    · obtain rfl : j = 0 := by omega
      have HSZ := Lib.hid hsz
      have hs90 : str.size ≤ 90 := by have := HS.out; omega
      clear hsz
      go_wp2_with fail
      go_ret2
      refine ⟨⟨_, 0, rfl, .inl ⟨rfl, HB.out, ?_⟩⟩, hB⟩
      have q1 := HSZ.out
      rw [ba_append_size]
      have q3 : (ByteArray.mk #[10]).size = 1 := rfl
      omega
set_option maxRecDepth 100000 in
set_option maxHeartbeats 2000000 in
theorem line_good1 {k : Nat} (hk : k < 17) (hw : wordK k = s) (hn : numK k = 1) (hB : B = 0) (hs : s.size ≤ 40) (iA : inH A) (iB : inH B) (hT : Tab10 w) (hw1 : 1 < w.heap.size) (hN : ∀ W, Calls Tryz.prog 97 #[.string s] W fun e w' => e = .returned (.tuple #[.int .i64 1, .bool true]) ∧ Below W.heap.size W w') :
    Calls Tryz.prog 47 #[.agg #[.string s, .int .i64 A, .int .i64 B]] w fun e w' => LinePost s A B e ∧ Below w.heap.size w w' := by
  have hBa : Below w.heap.size w (w.alloc (.cells #[.string s, .int .i64 A, .int .i64 B] 24)) := (Below.refl _ w).alloc (Nat.le_refl _) _
  have b0 := Blk.made w 24 #[.string s, .int .i64 A, .int .i64 B]
  have hgood : ∃ k, okW s A B k := ⟨k, hk, hw, fun q => by rw [hn] at q; first | omega | exact hA, fun q => by rw [hn] at q; first | omega | exact hB⟩
  have HB := Lib.hid hgood
  have tB : (B != 0) = false := by simp [hB]
  have HS := Lib.hid hs
  have HI := Lib.hid (And.intro iA iB)
  have HT := Lib.hid hT
  clear hk hw hn hgood hB hT
  go_enter Tryz.func47, Tryz.ntmps47
  go_wp2_with fail
  refine (hN _).mono ?_
  rintro e w1 ⟨rfl, hB1⟩
  have b1 := b0.below hB1 b0.lt
  have c0 : w1.cell? ⟨w.heap.size, 0, none⟩ = some (.string s) := by rw [b1.cell]; rfl
  have c1 : w1.cell? ⟨w.heap.size, 1, none⟩ = some (.int .i64 A) := by rw [b1.cell]; rfl
  have c2 : w1.cell? ⟨w.heap.size, 2, none⟩ = some (.int .i64 B) := by rw [b1.cell]; rfl
  have k1 := Blk.made w1 3 #[.int .i64 A, .int .i64 B]
  have hBb : Below w.heap.size w (w1.alloc (.cells #[.int .i64 A, .int .i64 B] 3)) := (hBa.trans (hB1.mono hBa.size)).alloc (by have := hBa.size; have := hB1.size; omega) _
  have HK := Lib.hid k1
  clear k1
  go_wp2_with fail
  go_loopw [6, 45] (fun o i wr => ∃ (j : Nat) (str : ByteArray), j ≤ 1 ∧ i = .int .i64 j ∧ o = .string str ∧ str.size ≤ s.size + 22 * j ∧ Blk wr w1.heap.size 3 #[.int .i64 A, .int .i64 B] ∧ Below w.heap.size w wr) (fun _ i _ => 1 - (intOf i).toNat)
  case atStart => exact ⟨0, s, Nat.zero_le _, rfl, rfl, Nat.le_refl _, HK.out, hBb⟩
  case round =>
    obtain ⟨j, str, hj, rfl, rfl, hsz, hb, hB⟩ := hrel
    by_cases hlt : j < 1
    · skip
      have i0 : (0 : Int) ≤ (j : Int) := by omega
      have i1 : (j : Int) < 1 := by omega
      obtain ⟨x, hx, hxi⟩ : ∃ x : Int, wr.cell? ⟨w1.heap.size, j, none⟩ = some (.int .i64 x) ∧ inH x := by
        rcases (by omega : j = 0 ∨ j = 1) with rfl | rfl
        · exact ⟨A, by rw [hb.cell]; rfl, HI.out.1⟩
        · exact ⟨B, by rw [hb.cell]; rfl, HI.out.2⟩
      have n1 : IntKind.i64.wrap ((j : Int) + 1) = (j : Int) + 1 := IntWalk.i64_in _ (by omega)
      have hit := Itoa_any hxi wr (HT.out.below hB hw1)
      have HSZ := Lib.hid hsz
      have hs90 : str.size ≤ 90 := by have := HS.out; omega
      clear hsz
      go_wp2_with fail
      refine hit.mono ?_
      rintro e w2 ⟨⟨u, rfl, hu⟩, hB2⟩
      have hb2 := hb.below hB2 hb.lt
      have HU := Lib.hid hu
      go_wp2_with fail
      go_round
      case rel =>
        refine ⟨j + 1, _, by omega, by go_num, rfl, ?_, hb2, hB.trans (hB2.mono hB.size)⟩
        have q1 := HSZ.out
        have q2 := HU.out
        rw [ba_append_size, ba_append_size]
        have q3 : (ByteArray.mk #[32]).size = 1 := rfl
        omega
      case measure => simp [intOf]; omega
    · obtain rfl : j = 1 := by omega
      have HSZ := Lib.hid hsz
      have hs90 : str.size ≤ 90 := by have := HS.out; omega
      clear hsz
      go_wp2_with fail
      go_ret2
      refine ⟨⟨_, 0, rfl, .inl ⟨rfl, HB.out, ?_⟩⟩, hB⟩
      have q1 := HSZ.out
      rw [ba_append_size]
      have q3 : (ByteArray.mk #[10]).size = 1 := rfl
      omega
set_option maxRecDepth 100000 in
set_option maxHeartbeats 2000000 in
theorem line_good2 {k : Nat} (hk : k < 17) (hw : wordK k = s) (hn : numK k = 2)  (hs : s.size ≤ 40) (iA : inH A) (iB : inH B) (hT : Tab10 w) (hw1 : 1 < w.heap.size) (hN : ∀ W, Calls Tryz.prog 97 #[.string s] W fun e w' => e = .returned (.tuple #[.int .i64 2, .bool true]) ∧ Below W.heap.size W w') :
    Calls Tryz.prog 47 #[.agg #[.string s, .int .i64 A, .int .i64 B]] w fun e w' => LinePost s A B e ∧ Below w.heap.size w w' := by
  have hBa : Below w.heap.size w (w.alloc (.cells #[.string s, .int .i64 A, .int .i64 B] 24)) := (Below.refl _ w).alloc (Nat.le_refl _) _
  have b0 := Blk.made w 24 #[.string s, .int .i64 A, .int .i64 B]
  have hgood : ∃ k, okW s A B k := ⟨k, hk, hw, fun q => by rw [hn] at q; first | omega | exact hA, fun q => by rw [hn] at q; first | omega | exact hB⟩
  have HB := Lib.hid hgood
  skip
  have HS := Lib.hid hs
  have HI := Lib.hid (And.intro iA iB)
  have HT := Lib.hid hT
  clear hk hw hn hgood hT
  go_enter Tryz.func47, Tryz.ntmps47
  go_wp2_with fail
  refine (hN _).mono ?_
  rintro e w1 ⟨rfl, hB1⟩
  have b1 := b0.below hB1 b0.lt
  have c0 : w1.cell? ⟨w.heap.size, 0, none⟩ = some (.string s) := by rw [b1.cell]; rfl
  have c1 : w1.cell? ⟨w.heap.size, 1, none⟩ = some (.int .i64 A) := by rw [b1.cell]; rfl
  have c2 : w1.cell? ⟨w.heap.size, 2, none⟩ = some (.int .i64 B) := by rw [b1.cell]; rfl
  have k1 := Blk.made w1 3 #[.int .i64 A, .int .i64 B]
  have hBb : Below w.heap.size w (w1.alloc (.cells #[.int .i64 A, .int .i64 B] 3)) := (hBa.trans (hB1.mono hBa.size)).alloc (by have := hBa.size; have := hB1.size; omega) _
  have HK := Lib.hid k1
  clear k1
  go_wp2_with fail
  go_loopw [6, 45] (fun o i wr => ∃ (j : Nat) (str : ByteArray), j ≤ 2 ∧ i = .int .i64 j ∧ o = .string str ∧ str.size ≤ s.size + 22 * j ∧ Blk wr w1.heap.size 3 #[.int .i64 A, .int .i64 B] ∧ Below w.heap.size w wr) (fun _ i _ => 2 - (intOf i).toNat)
  case atStart => exact ⟨0, s, Nat.zero_le _, rfl, rfl, Nat.le_refl _, HK.out, hBb⟩
  case round =>
    obtain ⟨j, str, hj, rfl, rfl, hsz, hb, hB⟩ := hrel
    by_cases hlt : j < 2
    · skip
      have i0 : (0 : Int) ≤ (j : Int) := by omega
      have i1 : (j : Int) < 2 := by omega
      obtain ⟨x, hx, hxi⟩ : ∃ x : Int, wr.cell? ⟨w1.heap.size, j, none⟩ = some (.int .i64 x) ∧ inH x := by
        rcases (by omega : j = 0 ∨ j = 1) with rfl | rfl
        · exact ⟨A, by rw [hb.cell]; rfl, HI.out.1⟩
        · exact ⟨B, by rw [hb.cell]; rfl, HI.out.2⟩
      have n1 : IntKind.i64.wrap ((j : Int) + 1) = (j : Int) + 1 := IntWalk.i64_in _ (by omega)
      have hit := Itoa_any hxi wr (HT.out.below hB hw1)
      have HSZ := Lib.hid hsz
      have hs90 : str.size ≤ 90 := by have := HS.out; omega
      clear hsz
      go_wp2_with fail
      refine hit.mono ?_
      rintro e w2 ⟨⟨u, rfl, hu⟩, hB2⟩
      have hb2 := hb.below hB2 hb.lt
      have HU := Lib.hid hu
      go_wp2_with fail
      go_round
      case rel =>
        refine ⟨j + 1, _, by omega, by go_num, rfl, ?_, hb2, hB.trans (hB2.mono hB.size)⟩
        have q1 := HSZ.out
        have q2 := HU.out
        rw [ba_append_size, ba_append_size]
        have q3 : (ByteArray.mk #[32]).size = 1 := rfl
        omega
      case measure => simp [intOf]; omega
    · obtain rfl : j = 2 := by omega
      have HSZ := Lib.hid hsz
      have hs90 : str.size ≤ 90 := by have := HS.out; omega
      clear hsz
      go_wp2_with fail
      go_ret2
      refine ⟨⟨_, 0, rfl, .inl ⟨rfl, HB.out, ?_⟩⟩, hB⟩
      have q1 := HSZ.out
      rw [ba_append_size]
      have q3 : (ByteArray.mk #[10]).size = 1 := rfl
      omega
end
end Go.Proofs.YtaonkbfekadalaaGreatDoor
/- What line comes to at every command; what Print of one command comes to. -/
namespace Go.Proofs.YtaonkbfekadalaaGreatDoor
open Go.RowKit
set_option linter.unusedVariables false

theorem ba_len (a : ByteArray) : a.data.toList.length = a.size := rfl
section
variable {s : ByteArray} {A B : Int} {w w' : World}
theorem line_any (hs : s.size ≤ 40) (iA : inH A) (iB : inH B) (hT : Tab10 w) (hw1 : 1 < w.heap.size) :
    Calls Tryz.prog 47 #[.agg #[.string s, .int .i64 A, .int .i64 B]] w fun e w' => LinePost s A B e ∧ Below w.heap.size w w' := by
  by_cases h : ∃ k, k < 17 ∧ wordK k = s
  · obtain ⟨k, hk, hw⟩ := h
    have hN : ∀ W, Calls Tryz.prog 97 #[.string s] W fun e w' => e = .returned (.tuple #[.int .i64 (numK k : Nat), .bool true]) ∧ Below W.heap.size W w' := fun W => (Numbers_ok s W).mono (by
      rintro e w' ⟨⟨j, hj, hw', rfl⟩ | ⟨hno, _⟩, hB⟩
      · obtain rfl : j = k := word_uniq hj hk (hw'.trans hw.symm)
        exact ⟨rfl, hB⟩
      · exact absurd hw (hno k hk))
    have h2 := numK_le k hk
    rcases (by omega : numK k = 0 ∨ numK k = 1 ∨ numK k = 2) with hn | hn | hn <;> rw [hn] at hN
    · by_cases hA : A = 0
      · by_cases hB : B = 0
        · exact line_good0 hk hw hn hA hB hs iA iB hT hw1 hN
        · exact line_bad00 hk hw hn hA hB hN
      · exact line_bad0 hk hw hn hA hN
    · by_cases hB : B = 0
      · exact line_good1 hk hw hn hB hs iA iB hT hw1 hN
      · exact line_bad1 hk hw hn hB hN
    · exact line_good2 hk hw hn hs iA iB hT hw1 hN
  · have hno : ∀ k, k < 17 → wordK k ≠ s := fun k hk e => h ⟨k, hk, e⟩
    exact line_noword hno fun W => (Numbers_ok s W).mono (by
      rintro e w' ⟨⟨j, hj, hw', rfl⟩ | ⟨_, rfl⟩, hB⟩
      · exact absurd hw' (hno j hj)
      · exact ⟨rfl, hB⟩)
theorem builder_below {T e : TypeId} {C b : Nat} {bs : List Value} (h : Lib.IsBuilder T e C b bs w) (hb : Below w.heap.size w w') : Lib.IsBuilder T e C b bs w' := by
  have key : ∀ {p : Value}, Lib.BuilderAt T e C b p bs w → Lib.BuilderAt T e C b p bs w' := by
    rintro p ⟨h1, v, h2, h3, h4⟩
    refine ⟨h1, v, (hb.block b (Array.getElem?_eq_some_iff.1 h2).1).trans h2, World.ownsRow.kept h3 (grown_of_below hb none) ?_, h4⟩
    rcases h3.2 with ⟨hv, hn⟩ | ⟨g, cap, cur, hv, _, _, _⟩
    · exact .inl (by rw [hv]; rfl)
    · exact .inr (by rw [hv]; simp [Value.ownBlock])
  exact h.imp key key
/-- What Print of one command comes to. -/
def PrintPost (s : ByteArray) (A B : Int) (e : Ending) : Prop :=
  ∃ (str : ByteArray) (n code : Int), e = .returned (.tuple #[.string str, .int .i64 n, .int .i64 code]) ∧ ((code = 0 ∧ ∃ k, okW s A B k) ∨ ((code = 13 ∨ code = 1) ∧ ¬ ∃ k, okW s A B k))
set_option maxRecDepth 100000 in
set_option maxHeartbeats 4000000 in
theorem Print_one {g c : Nat} (hg : Blk w g 24 #[.string s, .int .i64 A, .int .i64 B]) (hs : s.size ≤ 40) (iA : inH A) (iB : inH B) (hT : Tab10 w) (hw1 : 1 < w.heap.size) :
    Calls Tryz.prog 19 #[.slice (some ⟨g, 0, none⟩) 1 c] w fun e w' => PrintPost s A B e ∧ Below w.heap.size w w' := by
  have h0 : Lib.IsBuilder 88 5 w.heap.size w.heap.size [] (w.alloc (.cells #[.pointer none, .slice none 0 0] 88)) := Lib.fresh_isBuilder 88 5 w
  have hBa : Below w.heap.size w (w.alloc (.cells #[.pointer none, .slice none 0 0] 88)) := (Below.refl _ w).alloc (Nat.le_refl _) _
  have hglt := hg.lt
  have HG := Lib.hid hg
  have HS := Lib.hid hs
  have HI := Lib.hid (And.intro iA iB)
  have HT := Lib.hid hT
  have H0 := Lib.hid h0
  clear hg hs hT h0
  go_enter Tryz.func19, Tryz.ntmps19
  go_wp2_with fail
  go_loopw [12] (fun i wr => ∃ (k : Nat) (bs : List UInt8), k ≤ 1 ∧ i = .int .i64 k ∧ bs.length ≤ 90 * k ∧ Lib.IsBuilder 88 5 w.heap.size w.heap.size (Lib.byteCells bs) wr ∧ (k = 1 → ∃ j, okW s A B j) ∧ Below w.heap.size w wr) (fun i _ => 1 - (intOf i).toNat)
  case atStart => exact ⟨0, [], by omega, rfl, by simp, H0.out, fun q => by omega, hBa⟩
  case round =>
    obtain ⟨k, bs, hk, rfl, hbs, hIs, hok, hB⟩ := hrel
    rcases (by omega : k = 0 ∨ k = 1) with rfl | rfl
    · have hg1 := HG.out.below hB hglt
      have c0 : wr.cell? ⟨g, 0, none⟩ = some (.string s) := by rw [hg1.cell]; rfl
      have c1 : wr.cell? ⟨g, 1, none⟩ = some (.int .i64 A) := by rw [hg1.cell]; rfl
      have c2 : wr.cell? ⟨g, 2, none⟩ = some (.int .i64 B) := by rw [hg1.cell]; rfl
      have b1 := Blk.made wr 24 #[.string s, .int .i64 A, .int .i64 B]
      have d0 : (wr.alloc (.cells #[.string s, .int .i64 A, .int .i64 B] 24)).cell? ⟨wr.heap.size, 0, none⟩ = some (.string s) := by rw [b1.cell]; rfl
      have d1 : (wr.alloc (.cells #[.string s, .int .i64 A, .int .i64 B] 24)).cell? ⟨wr.heap.size, 1, none⟩ = some (.int .i64 A) := by rw [b1.cell]; rfl
      have d2 : (wr.alloc (.cells #[.string s, .int .i64 A, .int .i64 B] 24)).cell? ⟨wr.heap.size, 2, none⟩ = some (.int .i64 B) := by rw [b1.cell]; rfl
      have hBb : Below wr.heap.size wr (wr.alloc (.cells #[.string s, .int .i64 A, .int .i64 B] 24)) := (Below.refl _ wr).alloc (Nat.le_refl _) _
      have hB2 := hB.trans (hBb.mono hB.size)
      have hli := line_any (s := s) (A := A) (B := B) (w := wr.alloc (.cells #[.string s, .int .i64 A, .int .i64 B] 24)) HS.out HI.out.1 HI.out.2 (HT.out.below hB2 hw1) (by have := hB2.size; omega)
      have HIS := Lib.hid (builder_below hIs hBb)
      clear hIs hok
      go_wp2_with fail
      refine hli.mono ?_
      rintro e w2 ⟨⟨str, code, rfl, hc⟩, hB3⟩
      have hB4 := hB2.trans (hB3.mono hB2.size)
      rcases hc with ⟨rfl, hk1, hsz⟩ | ⟨hcode, hno⟩
      · have hws := Tryz.Builder_WriteString w.heap.size w.heap.size (Lib.byteCells bs) str w2 (builder_below HIS.out hB3) (by rw [Lib.byteCells_length]; have := HS.out; have := hsz; omega) hB4.size
        have HK1 := Lib.hid (And.intro hk1 hsz)
        clear hk1 hsz
        go_wp2_with fail
        refine hws.mono ?_
        rintro e w3 ⟨rfl, hb3, hB5⟩
        have HB3 := Lib.hid hb3
        clear hb3
        go_wp2_with fail
        go_round
        case rel =>
          refine ⟨1, bs ++ str.data.toList, by omega, by go_num, ?_, .inr ?_, fun _ => HK1.out.1, hB4.trans hB5⟩
          · have q1 := HK1.out.2
            have q2 := HS.out
            have q3 := ba_len str
            rw [List.length_append]; omega
          · rw [Lib.byteCells_append, ← Lib.strCells_eq]; exact HB3.out
        case measure => simp [intOf]
      · have HNO := Lib.hid (And.intro hcode hno)
        have t1 : (code != 0) = true := by rcases hcode with rfl | rfl <;> rfl
        clear hcode hno
        go_wp2_with fail
        go_ret3
        exact ⟨⟨_, _, code, rfl, .inr HNO.out⟩, hB4⟩
    · have hlen := Tryz.Builder_Len w.heap.size w.heap.size (Lib.byteCells bs) wr hIs
      have hst := Tryz.Builder_String_any w.heap.size w.heap.size bs wr hIs hB.size
      rw [Lib.byteCells_length] at hlen
      have t1 : decide ((65536 : Int) < (bs.length : Int)) = false := by simp; omega
      have t1' : decide ((bs.length : Int) > 65536) = false := by simp; omega
      have HOK := Lib.hid (hok rfl)
      clear hok hIs
      go_wp2_with fail
      refine hlen.mono ?_
      rintro e w2 ⟨rfl, rfl⟩
      go_wp2_with fail
      refine hst.mono ?_
      rintro e w3 ⟨rfl, hB3⟩
      go_wp2_with fail
      go_ret3
      exact ⟨⟨_, _, 0, rfl, .inl ⟨rfl, HOK.out⟩⟩, hB.trans hB3⟩
end
end Go.Proofs.YtaonkbfekadalaaGreatDoor
/- The map of the commands: what words of the machine comes to; a look-up in it. -/
namespace Go.Proofs.YtaonkbfekadalaaGreatDoor
open Go.RowKit Go.MapKept
set_option linter.unusedVariables false

/-- What the map holds, in the order in which it is filled. -/
def mapL : List (ByteArray × Nat) := [(⟨#[105, 110, 115, 101, 114, 116]⟩, 49), (⟨#[100, 101, 108, 101, 116, 101]⟩, 50), (⟨#[104, 97, 115]⟩, 51), (⟨#[108, 101, 110]⟩, 52), (⟨#[107, 101, 121, 115]⟩, 53), (⟨#[102, 108, 111, 111, 114]⟩, 54), (⟨#[99, 101, 105, 108]⟩, 55), (⟨#[114, 97, 110, 107]⟩, 56), (⟨#[115, 101, 108, 101, 99, 116]⟩, 57), (⟨#[99, 111, 117, 110, 116]⟩, 58), (⟨#[102, 105, 114, 115, 116]⟩, 59), (⟨#[97, 102, 116, 101, 114]⟩, 60), (⟨#[97, 104, 101, 97, 100]⟩, 61), (⟨#[114, 101, 109, 111, 118, 101]⟩, 62), (⟨#[98, 101, 102, 111, 114, 101]⟩, 63), (⟨#[108, 97, 98, 101, 108]⟩, 64), (⟨#[104, 97, 110, 100, 108, 101, 115]⟩, 65)]
def entL : List (ByteArray × Nat) → Nat → List MapEntry
  | [], _ => []
  | p :: l, n => ⟨.string p.1, .func (.func p.2) #[] #[], n⟩ :: entL l (n + 1)
def entA (k : Nat) : Array MapEntry := (entL (mapL.take k) 0).toArray
/-- The function of a word. -/
def funK (k : Nat) : Nat := [49, 50, 51, 52, 53, 54, 55, 59, 60, 61, 62, 63, 64, 65, 56, 57, 58].getD k 0
theorem alloc_set (w : World) (a b : Obj) : ({ w.alloc a with heap := (w.alloc a).heap.setIfInBounds w.heap.size b } : World) = w.alloc b := by
  simp only [World.alloc]
  congr 1
  apply Array.ext_getElem?
  intro i
  rw [Array.getElem?_setIfInBounds]
  by_cases h : w.heap.size = i
  · subst h
    simp
  · have h' : ¬ i = w.heap.size := fun e => h e.symm
    simp [h, h', Array.getElem?_push]
section
variable {P : Program} {ops : Array Oper} {Q : Exit → Act → World → Prop} {a : Act} {w w' : World} {rest : List Oper} {o : Oper}
theorem wpList_new {v : Value} (hg : o.guard = none) (h : (execOp a.eval o).run P w = .ok (.value v) w') (k : wpList P ops Q rest (a.put o.dst v) w') : wpList P ops Q (o :: rest) a w :=
  wpList_plain hg fun K hK => by unfold Oper.wp; rw [h]; exact hK _ _ k
end
theorem run_upd (w : World) (es : Array MapEntry) (n : Nat) (k : ByteArray) (v : Value) (h : Instr.findNow .string (.string k) es.toList 0 = some none) :
    (Instr.mapUpdate 62 (.map (some w.heap.size)) (.string k) v).run Tryz.prog (w.alloc (.map es n)) = .ok () (w.alloc (.map (es.push ⟨.string k, v, n⟩) (n + 1))) := by
  have hb : (w.alloc (.map es n)).heap[w.heap.size]? = some (.map es n) := World.alloc_heap_new w _
  have hkey : IsKey .string (.string k) := trivial
  simp [Instr.mapUpdate, run_underlying Tryz.underlying62, MapKept.run_getObj_map hb, run_checkKey Tryz.underlying9 hkey, MapKept.run_findKey Tryz.underlying9 h, MapKept.run_setObj_map _ hb, Result.andThen]
  exact alloc_set w _ _
theorem run_insert (w : World) {k : Nat} {s : ByteArray} {f : Nat} (h : Instr.findNow .string (.string s) (entA k).toList 0 = some none) (he : (entA k).push ⟨.string s, .func (.func f) #[] #[], k⟩ = entA (k + 1)) {a : Act} {o : Oper}
    (ho : ∀ W, (execOp a.eval o).run Tryz.prog W = ((Instr.mapUpdate 62 (.map (some w.heap.size)) (.string s) (.func (.func f) #[] #[])) >>= fun _ => (pure Next.skip : Sem Next)).run Tryz.prog W) :
    (execOp a.eval o).run Tryz.prog (w.alloc (.map (entA k) k)) = .ok .skip (w.alloc (.map (entA (k + 1)) (k + 1))) := by
  rw [ho, Sem.run_bind, run_upd w (entA k) k s _ h, ← he]
  rfl
set_option maxRecDepth 100000 in
theorem mwords_ok (w : World) : Calls Tryz.prog 20 #[] w fun e w' => e = .returned (.map (some w.heap.size)) ∧ w.alloc (.map (entA 17) 17) = w' := by
  have hmm := @run_makeMap Tryz.prog
  go_enter Tryz.func20, Tryz.ntmps20
  go_upto_region 1 with (fail)
  refine wp_region_lit ?_
  refine wpList_new (v := .map (some w.heap.size)) (w' := w.alloc (.map (entA 0) 0)) rfl (Eq.trans (b := ((Instr.makeMap 62 none) >>= fun v => (pure (Next.value v) : Sem Next)).run Tryz.prog w) (by kernel_rfl) (by rw [Sem.run_bind, hmm]; rfl)) ?_
  refine wpList_did rfl (run_insert w (k := 0) (s := ⟨#[105, 110, 115, 101, 114, 116]⟩) (f := 49) (by kernel_rfl) (by kernel_rfl) (fun W => by kernel_rfl)) ?_
  refine wpList_did rfl (run_insert w (k := 1) (s := ⟨#[100, 101, 108, 101, 116, 101]⟩) (f := 50) (by kernel_rfl) (by kernel_rfl) (fun W => by kernel_rfl)) ?_
  refine wpList_did rfl (run_insert w (k := 2) (s := ⟨#[104, 97, 115]⟩) (f := 51) (by kernel_rfl) (by kernel_rfl) (fun W => by kernel_rfl)) ?_
  refine wpList_did rfl (run_insert w (k := 3) (s := ⟨#[108, 101, 110]⟩) (f := 52) (by kernel_rfl) (by kernel_rfl) (fun W => by kernel_rfl)) ?_
  refine wpList_did rfl (run_insert w (k := 4) (s := ⟨#[107, 101, 121, 115]⟩) (f := 53) (by kernel_rfl) (by kernel_rfl) (fun W => by kernel_rfl)) ?_
  refine wpList_did rfl (run_insert w (k := 5) (s := ⟨#[102, 108, 111, 111, 114]⟩) (f := 54) (by kernel_rfl) (by kernel_rfl) (fun W => by kernel_rfl)) ?_
  refine wpList_did rfl (run_insert w (k := 6) (s := ⟨#[99, 101, 105, 108]⟩) (f := 55) (by kernel_rfl) (by kernel_rfl) (fun W => by kernel_rfl)) ?_
  refine wpList_did rfl (run_insert w (k := 7) (s := ⟨#[114, 97, 110, 107]⟩) (f := 56) (by kernel_rfl) (by kernel_rfl) (fun W => by kernel_rfl)) ?_
  refine wpList_did rfl (run_insert w (k := 8) (s := ⟨#[115, 101, 108, 101, 99, 116]⟩) (f := 57) (by kernel_rfl) (by kernel_rfl) (fun W => by kernel_rfl)) ?_
  refine wpList_did rfl (run_insert w (k := 9) (s := ⟨#[99, 111, 117, 110, 116]⟩) (f := 58) (by kernel_rfl) (by kernel_rfl) (fun W => by kernel_rfl)) ?_
  refine wpList_did rfl (run_insert w (k := 10) (s := ⟨#[102, 105, 114, 115, 116]⟩) (f := 59) (by kernel_rfl) (by kernel_rfl) (fun W => by kernel_rfl)) ?_
  refine wpList_did rfl (run_insert w (k := 11) (s := ⟨#[97, 102, 116, 101, 114]⟩) (f := 60) (by kernel_rfl) (by kernel_rfl) (fun W => by kernel_rfl)) ?_
  refine wpList_did rfl (run_insert w (k := 12) (s := ⟨#[97, 104, 101, 97, 100]⟩) (f := 61) (by kernel_rfl) (by kernel_rfl) (fun W => by kernel_rfl)) ?_
  refine wpList_did rfl (run_insert w (k := 13) (s := ⟨#[114, 101, 109, 111, 118, 101]⟩) (f := 62) (by kernel_rfl) (by kernel_rfl) (fun W => by kernel_rfl)) ?_
  refine wpList_did rfl (run_insert w (k := 14) (s := ⟨#[98, 101, 102, 111, 114, 101]⟩) (f := 63) (by kernel_rfl) (by kernel_rfl) (fun W => by kernel_rfl)) ?_
  refine wpList_did rfl (run_insert w (k := 15) (s := ⟨#[108, 97, 98, 101, 108]⟩) (f := 64) (by kernel_rfl) (by kernel_rfl) (fun W => by kernel_rfl)) ?_
  refine wpList_did rfl (run_insert w (k := 16) (s := ⟨#[104, 97, 110, 100, 108, 101, 115]⟩) (f := 65) (by kernel_rfl) (by kernel_rfl) (fun W => by kernel_rfl)) ?_
  refine wpList_val (v := .map (some w.heap.size)) rfl (by kernel_rfl) ?_
  refine wpList_val (v := .map (some w.heap.size)) rfl (by kernel_rfl) ?_
  refine wpList_nil ?_
  rename_i K hK
  refine hK _ _ ?_
  refine wp_ret ?_
  refine bodyPost_ret (v := .map (some w.heap.size)) (by kernel_rfl) rfl ?_
  exact ⟨rfl, rfl⟩
end Go.Proofs.YtaonkbfekadalaaGreatDoor
