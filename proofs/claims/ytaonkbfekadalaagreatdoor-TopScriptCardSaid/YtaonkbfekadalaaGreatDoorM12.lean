/- What New, Live, Len, Taken, look, Slot, Take, Move and Free come to. -/
import Derived.StillTailTactics
import Derived.Lib.Walk
import Derived.Test.YtaonkbfekadalaaGreatDoorM11
namespace Go.Proofs.YtaonkbfekadalaaGreatDoor
open Go.RowKit Go.Maps
set_option linter.unusedVariables false

def inH (x : Int) : Prop := -9223372036854775808 ≤ x ∧ x ≤ 9223372036854775807
theorem wfI {x : Int} (h : inH x) : (Lit.int .i64 x).wf = true := by
  unfold inH at h
  simp [Lit.wf, IntKind.min, IntKind.max, IntKind.signed, IntKind.bits]; omega
theorem keyI_of {x : Int} (h : inH x) : keyOf Tryz.prog 3 (.int .i64 x) = some (.int .i64 x) := keyOf_int_mk Tryz.underlying3 (wfI h)
theorem zeroI (w : World) : (zeroValue 3).run Tryz.prog w = .ok (.int .i64 0) w := by kernel_rfl

/-- Of the world two blocks have turned. -/
structure Turn (p b : Nat) (w w' : World) : Prop where
  os : w'.os = w.os
  tape : w'.tape = w.tape
  output : w'.output = w.output
  size : w.heap.size ≤ w'.heap.size
  block : ∀ i, i < w.heap.size → i ≠ p → i ≠ b → w'.heap[i]? = w.heap[i]?
section
variable {p b : Nat} {w w' w'' : World}
theorem Turn.refl (p b : Nat) (w : World) : Turn p b w w := ⟨rfl, rfl, rfl, Nat.le_refl _, fun _ _ _ _ => rfl⟩
theorem Turn.trans (h : Turn p b w w') (k : Turn p b w' w'') : Turn p b w w'' := ⟨k.os.trans h.os, k.tape.trans h.tape, k.output.trans h.output, Nat.le_trans h.size k.size, fun i hi h1 h2 => (k.block i (Nat.lt_of_lt_of_le hi h.size) h1 h2).trans (h.block i hi h1 h2)⟩
theorem Turn.of_p (h : w.grownBy w' (some p)) : Turn p b w w' := ⟨h.os, h.tape, h.output, h.size, fun i hi h1 _ => h.block i hi (fun e => by injection e with e; exact h1 e)⟩
theorem Turn.of_b (h : w.grownBy w' (some b)) : Turn p b w w' := ⟨h.os, h.tape, h.output, h.size, fun i hi _ h2 => h.block i hi (fun e => by injection e with e; exact h2 e)⟩
theorem Turn.drewN (h : Turn p b w w') (n : Nat) : Turn p b w (w'.drewN n) := ⟨h.os, h.tape, h.output, h.size, h.block⟩
theorem Turn.box {o : Obj} (h : Turn p b (w.alloc o) w') : Turn p b w w' := ⟨h.os, h.tape, h.output, by have := h.size; simp at this; omega, fun i hi h1 h2 => (h.block i (by simp; omega) h1 h2).trans (Below.heap_alloc _ _ _ hi)⟩
theorem Turn.below {B : Nat} {a : World} (hb : Below B a w) (h : Turn p b w w') (hB : B ≤ w.heap.size) (h1 : B ≤ p) (h2 : B ≤ b) : Below B a w' :=
  ⟨h.os.trans hb.os, h.tape.trans hb.tape, h.output.trans hb.output, Nat.le_trans hb.size h.size, fun i hi => (h.block i (by omega) (by omega) (by omega)).trans (hb.block i hi)⟩
theorem Blk.turn {g : Nat} {t : TypeId} {cs : Array Value} (h : Blk w g t cs) (k : Turn p b w w') (h1 : g ≠ p) (h2 : g ≠ b) : Blk w' g t cs := (k.block g h.lt h1 h2).trans h
theorem MM.turn {g : Nat} {r : List Int} (h : MM w g r) (k : Turn p b w w') (h1 : g ≠ p) (h2 : g ≠ b) : MM w' g r := by
  have hlt := h.lt
  obtain ⟨D, ⟨es, clock, e1, e2⟩, e3⟩ := h
  exact ⟨D, ⟨es, clock, (k.block g hlt h1 h2).trans e1, e2⟩, e3⟩
theorem HM.turn {p' b' : Nat} {r : List Int} (h : HM w p' b' r) (k : Turn p b w w') (h1 : p' ≠ p) (h2 : p' ≠ b) (h3 : b' ≠ p) (h4 : b' ≠ b) : HM w' p' b' r := ⟨h.hp.turn k h1 h2, h.hm.turn k h3 h4⟩
end

/-- What the calls come to: the list then, and what they tell. -/
def takeV (r : List Int) (x : Int) : List Int × Int × Int := if 0 ≤ x ∧ x < 4096 then (r ++ [x], (r.length : Int) + 1, 0) else (r, 0, 10)
def moveV (r : List Int) (h x : Int) : List Int × Int := if live r h = true then (if 0 ≤ x ∧ x < 4096 then (r.set (h - 1).toNat x, 0) else (r, 10)) else (r, 17)
def freeV (r : List Int) (h : Int) : List Int × Int := if live r h = true then (r.set (h - 1).toNat (-1), 0) else (r, 17)
def askV (r : List Int) (h : Int) : Int × Int := if live r h = true then (slotV r h, 0) else (0, 17)


set_option maxRecDepth 1000000 in
theorem HNew_ok (w : World) : Calls Tryz.prog 45 #[] w fun e w' => e = .returned (.pointer (some ⟨w.heap.size + 1, 0, none⟩)) ∧ HM w' (w.heap.size + 1) w.heap.size [] ∧ Below w.heap.size w w' := by
  have hmm := @run_makeMap Tryz.prog
  have z0 := World.ownsMap_made (H := Unit) w Tryz.prog 3 (plainElem Tryz.prog 3)
  have z1 := Blk.made (w.alloc (.map #[] 0)) 133 #[.map (some w.heap.size), .int .i64 0]
  rw [World.size_alloc] at z1
  have z2 := z0.alloc (.cells #[.map (some w.heap.size), .int .i64 0] 133)
  go_enter Tryz.func45, Tryz.ntmps45
  go_wp2_with fail
  go_ret
  exact ⟨rfl, ⟨z1, MM.of z2 MD.empty⟩, ((Below.refl _ w).alloc (Nat.le_refl _) _).alloc (by simp) _⟩

set_option maxRecDepth 1000000 in
theorem HLive_any {w : World} {p b : Nat} {r : List Int} (h : HM w p b r) {x : Int} (hx : inH x) :
    Calls Tryz.prog 199 #[.pointer (some ⟨p, 0, none⟩), .int .i64 x] w fun e w' => e = .returned (.bool (live r x)) ∧ w = w' := by
  have c0 := h.c0
  obtain ⟨D, hown, hD⟩ := h.hm
  have hh := hD.has x
  go_enter Tryz.func199, Tryz.ntmps199
  go_wp2_with (at_lookup; refine wpList_lookup_own_ok_int _ rfl _ _ 131 rfl 3 3 .i64 (int_keyed Tryz.underlying3) Tryz.underlying131 Tryz.underlying3 (zeroI _) b _ D rfl hown _ _ rfl (keyI_of hx) ?_; intro c hat hwc; rw [hh])
  go_ret
  exact ⟨rfl, rfl⟩
set_option maxRecDepth 1000000 in
theorem Hlook_any {w : World} {p b : Nat} {r : List Int} (h : HM w p b r) {x : Int} (hx : inH x) :
    Calls Tryz.prog 153 #[.pointer (some ⟨p, 0, none⟩), .int .i64 x] w fun e w' => e = .returned (.int .i64 (if live r x then 0 else 17)) ∧ w = w' := by
  have hl := HLive_any h hx
  cases ho : live r x
  · rw [ho] at hl
    clear ho
    go_enter Tryz.func153, Tryz.ntmps153
    go_wp2_with fail
    refine hl.mono ?_
    rintro e w1 ⟨rfl, rfl⟩
    go_wp2_with fail
    go_ret
    exact ⟨rfl, rfl⟩
  · rw [ho] at hl
    clear ho
    go_enter Tryz.func153, Tryz.ntmps153
    go_wp2_with fail
    refine hl.mono ?_
    rintro e w1 ⟨rfl, rfl⟩
    go_wp2_with fail
    go_ret
    exact ⟨rfl, rfl⟩
theorem hmay_any (x : Int) (w : World) : Calls Tryz.prog 154 #[.int .i64 x] w fun e w' => e = .returned (.bool (decide (0 ≤ x ∧ x < 4096))) ∧ w = w' := by
  by_cases h0 : 0 ≤ x
  · by_cases h1 : x < 4096
    · rw [decide_eq_true ⟨h0, h1⟩]
      go_enter Tryz.func154, Tryz.ntmps154
      go_wp2_with fail
      go_ret
      exact ⟨rfl, rfl⟩
    · rw [decide_eq_false (fun h => h1 h.2)]
      have t : decide (x < 4096) = false := by simp; omega
      clear h1
      go_enter Tryz.func154, Tryz.ntmps154
      go_wp2_with fail
      go_ret
      exact ⟨rfl, rfl⟩
  · rw [decide_eq_false (fun h => h0 h.1)]
    have t : decide (0 ≤ x) = false := by simp; omega
    clear h0
    go_enter Tryz.func154, Tryz.ntmps154
    go_wp2_with fail
    go_ret
    exact ⟨rfl, rfl⟩

set_option maxRecDepth 1000000 in
theorem HSlot_any {w : World} {p b : Nat} {r : List Int} (h : HM w p b r) {x : Int} (hx : inH x) :
    Calls Tryz.prog 170 #[.pointer (some ⟨p, 0, none⟩), .int .i64 x] w fun e w' => e = .returned (.tuple #[.int .i64 (askV r x).1, .int .i64 (askV r x).2]) ∧ w = w' := by
  have hl := Hlook_any h hx
  have c0 := h.c0
  obtain ⟨D, hown, hD⟩ := h.hm
  unfold askV
  cases ho : live r x
  · rw [ho] at hl
    simp only [Bool.false_eq_true, if_false] at hl ⊢
    clear ho
    go_enter Tryz.func170, Tryz.ntmps170
    go_wp2_with fail
    refine hl.mono ?_
    rintro e w1 ⟨rfl, rfl⟩
    go_wp2_with fail
    go_ret2
    exact ⟨rfl, rfl⟩
  · rw [ho] at hl
    simp only [if_true] at hl ⊢
    obtain ⟨c, hrun, hat, hwc⟩ := hown.lookup_int (int_keyed Tryz.underlying3) Tryz.underlying131 Tryz.underlying3 (zeroI w) (keyI_of hx)
    rw [hD.at_ x ho] at hat
    have e : slotV r x = c := by injection hat with hat; injection hat with _ hat
    rw [e]
    clear ho hat e
    go_enter Tryz.func170, Tryz.ntmps170
    go_wp2_with fail
    refine hl.mono ?_
    rintro e w1 ⟨rfl, rfl⟩
    go_wp2_with fail
    go_ret2
    exact ⟨rfl, rfl⟩


set_option maxRecDepth 1000000 in
theorem HTake_any {w : World} {p b : Nat} {r : List Int} (h : HM w p b r) (hr : r.length ≤ 1000000) (x : Int) :
    Calls Tryz.prog 207 #[.pointer (some ⟨p, 0, none⟩), .int .i64 x] w fun e w' => e = .returned (.tuple #[.int .i64 (takeV r x).2.1, .int .i64 (takeV r x).2.2]) ∧ HM w' p b (takeV r x).1 ∧ Turn p b w w' := by
  have hmay := fun W => hmay_any x W
  have c1 := h.c1
  have f1 := h.hp.frozen 1
  unfold takeV
  by_cases hx : 0 ≤ x ∧ x < 4096
  · rw [decide_eq_true hx] at hmay
    simp only [if_pos hx]
    have i1 : (r.length : Int) ≤ 1000000 := by omega
    have h2 : Blk (w.setCell ⟨p, 1, none⟩ (.int .i64 ((r.length : Int) + 1))) p 133 #[.map (some b), .int .i64 ((r.length : Int) + 1)] := by
      have := h.hp.put 1 (.int .i64 ((r.length : Int) + 1))
      simpa using this
    have hm2 : MM (w.setCell ⟨p, 1, none⟩ (.int .i64 ((r.length : Int) + 1))) b r := h.hm.grown (grown_put w p 1 _) (fun e => by injection e with e; exact h.ne e)
    have ht2 : Turn p b w (w.setCell ⟨p, 1, none⟩ (.int .i64 ((r.length : Int) + 1))) := Turn.of_p (grown_put w p 1 _)
    have hne := h.ne
    go_enter Tryz.func207, Tryz.ntmps207
    go_wp2_with fail
    refine (hmay _).mono ?_
    rintro e w1 ⟨rfl, rfl⟩
    go_wp2_with fail
    generalize w.setCell ⟨p, 1, none⟩ (.int .i64 ((r.length : Int) + 1)) = w2 at *
    have d0 : w2.cell? ⟨p, 0, none⟩ = some (.map (some b)) := by rw [h2.cell]; rfl
    have d1 : w2.cell? ⟨p, 1, none⟩ = some (.int .i64 ((r.length : Int) + 1)) := by rw [h2.cell]; rfl
    go_still_tail 9, (by kernel_rfl)
    change wpList _ _ _ _ _ w2.drew
    have hdr : w2.drew = w2.drewN 1 := rfl
    rw [hdr]
    replace h2 := h2.drewN 1
    replace hm2 := hm2.drewN 1
    replace ht2 := ht2.drewN 1
    clear hdr d0 d1
    generalize w2.drewN 1 = w3 at *
    obtain ⟨D, hown, hD⟩ := hm2
    go_wp2_with (at_mapUpdate; refine wpList_mapUpdate_own _ rfl _ _ _ 131 rfl 3 3 (int_keyed Tryz.underlying3) Tryz.underlying131 _ b _ D rfl hown (by have := cntL_le r; unfold maxLen; omega) _ _ (.int .i64 ((r.length : Int) + 1)) rfl rfl (keyI_of ⟨by omega, by omega⟩) (.lit (.int .i64 x)) [] (plainElem_int Tryz.underlying3 (wfI ⟨by omega, by omega⟩)) ?_; intro w4 hown4 hg4; have h4 := h2.grown hg4 (fun e => by injection e with e; exact hne e.symm); have d1 : w4.cell? ⟨p, 1, none⟩ = some (.int .i64 ((r.length : Int) + 1)) := (by rw [h4.cell]; rfl))
    have hD4 := hD.take hx.1
    go_ret2
    refine ⟨rfl, ⟨?_, MM.of hown4 hD4⟩, ht2.trans (Turn.of_b hg4)⟩
    rw [List.length_append, List.length_singleton]
    exact h4
  · rw [decide_eq_false hx] at hmay
    simp only [if_neg hx]
    clear hx
    go_enter Tryz.func207, Tryz.ntmps207
    go_wp2_with fail
    refine (hmay _).mono ?_
    rintro e w1 ⟨rfl, rfl⟩
    go_wp2_with fail
    go_ret2
    exact ⟨rfl, h, Turn.refl _ _ _⟩

set_option maxRecDepth 1000000 in
theorem HMove_any {w : World} {p b : Nat} {r : List Int} (h : HM w p b r) (hr : r.length ≤ 1000000) {y : Int} (hy : inH y) (x : Int) :
    Calls Tryz.prog 96 #[.pointer (some ⟨p, 0, none⟩), .int .i64 y, .int .i64 x] w fun e w' => e = .returned (.int .i64 (moveV r y x).2) ∧ HM w' p b (moveV r y x).1 ∧ Turn p b w w' := by
  have hl := Hlook_any h hy
  have hmay := fun W => hmay_any x W
  have c0 := h.c0
  unfold moveV
  cases ho : live r y
  · rw [ho] at hl
    simp only [Bool.false_eq_true, if_false] at hl ⊢
    clear ho
    go_enter Tryz.func96, Tryz.ntmps96
    go_wp2_with fail
    refine hl.mono ?_
    rintro e w1 ⟨rfl, rfl⟩
    go_wp2_with fail
    go_ret
    exact ⟨rfl, h, Turn.refl _ _ _⟩
  · rw [ho] at hl
    simp only [if_true] at hl ⊢
    obtain ⟨k, hk, hk1, hk2⟩ := live_true ho
    have ek : (y - 1).toNat = k := by omega
    rw [ek]
    by_cases hx : 0 ≤ x ∧ x < 4096
    · rw [decide_eq_true hx] at hmay
      simp only [if_pos hx]
      obtain ⟨D, hown, hD⟩ := h.hm
      have hD4 := hD.move hk1 hk2 hx.1
      rw [← hk] at hD4
      have hne := h.ne
      have hp := h.hp
      have HK := Lib.hid hk
      clear ho hk ek
      go_enter Tryz.func96, Tryz.ntmps96
      go_wp2_with fail
      refine hl.mono ?_
      rintro e w1 ⟨rfl, rfl⟩
      go_wp2_with fail
      refine (hmay _).mono ?_
      rintro e w1 ⟨rfl, rfl⟩
      go_wp2_with (at_mapUpdate; refine wpList_mapUpdate_own _ rfl _ _ _ 131 rfl 3 3 (int_keyed Tryz.underlying3) Tryz.underlying131 _ b _ D rfl hown (by have := cntL_le r; unfold maxLen; omega) _ _ (.int .i64 y) rfl rfl (keyI_of hy) (.lit (.int .i64 x)) [] (plainElem_int Tryz.underlying3 (wfI ⟨by omega, by omega⟩)) ?_; intro w4 hown4 hg4)
      go_ret
      refine ⟨rfl, ⟨?_, MM.of hown4 hD4⟩, Turn.of_b hg4⟩
      rw [List.length_set]
      exact hp.grown hg4 (fun e => by injection e with e; exact hne e.symm)
    · rw [decide_eq_false hx] at hmay
      simp only [if_neg hx]
      clear ho hk ek hx
      go_enter Tryz.func96, Tryz.ntmps96
      go_wp2_with fail
      refine hl.mono ?_
      rintro e w1 ⟨rfl, rfl⟩
      go_wp2_with fail
      refine (hmay _).mono ?_
      rintro e w1 ⟨rfl, rfl⟩
      go_wp2_with fail
      go_ret
      exact ⟨rfl, h, Turn.refl _ _ _⟩

set_option maxRecDepth 1000000 in
theorem HFree_any {w : World} {p b : Nat} {r : List Int} (h : HM w p b r) {y : Int} (hy : inH y) :
    Calls Tryz.prog 169 #[.pointer (some ⟨p, 0, none⟩), .int .i64 y] w fun e w' => e = .returned (.int .i64 (freeV r y).2) ∧ HM w' p b (freeV r y).1 ∧ Turn p b w w' := by
  have hl := Hlook_any h hy
  have c0 := h.c0
  unfold freeV
  cases ho : live r y
  · rw [ho] at hl
    simp only [Bool.false_eq_true, if_false] at hl ⊢
    clear ho
    go_enter Tryz.func169, Tryz.ntmps169
    go_wp2_with fail
    refine hl.mono ?_
    rintro e w1 ⟨rfl, rfl⟩
    go_wp2_with fail
    go_ret
    exact ⟨rfl, h, Turn.refl _ _ _⟩
  · rw [ho] at hl
    simp only [if_true] at hl ⊢
    obtain ⟨k, hk, hk1, hk2⟩ := live_true ho
    have ek : (y - 1).toNat = k := by omega
    rw [ek]
    obtain ⟨D, hown, hD⟩ := h.hm
    have hD4 := hD.free hk1 hk2
    rw [← hk] at hD4
    have hne := h.ne
    have hp := h.hp
    have HK := Lib.hid hk
    clear ho hk ek
    go_enter Tryz.func169, Tryz.ntmps169
    go_wp2_with fail
    refine hl.mono ?_
    rintro e w1 ⟨rfl, rfl⟩
    go_wp2_with (at_delete; refine wpList_delete_own _ rfl _ _ 131 3 rfl 3 (int_keyed Tryz.underlying3) Tryz.underlying131 _ b _ D rfl hown _ _ rfl (keyI_of hy) ?_; intro w4 hown4 hturn4)
    go_ret
    have hg4 := hturn4.grown
    refine ⟨rfl, ⟨?_, MM.of hown4 hD4⟩, Turn.of_b hg4⟩
    rw [List.length_set]
    exact hp.grown hg4 (fun e => by injection e with e; exact hne e.symm)
end Go.Proofs.YtaonkbfekadalaaGreatDoor
