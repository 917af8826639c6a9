/- The table of handles: what it holds, said of a list of slots (-1: freed), and the map that says the same. -/
import Derived.Maps.OwnSet
import Derived.Maps.OwnOps
import Derived.Maps.Ext
import Derived.Test.YtaonkbfekadalaaGreatDoorM03
namespace Go.Proofs.YtaonkbfekadalaaGreatDoor
open Go.RowKit Go.Maps
set_option linter.unusedVariables false

/-- Is a handle live? -/
def live (r : List Int) (h : Int) : Bool := decide (1 ≤ h ∧ h ≤ (r.length : Int)) && decide (0 ≤ nth r (h - 1).toNat)
theorem live_nat (r : List Int) (k : Nat) : live r ((k : Int) + 1) = (decide (k < r.length) && decide (0 ≤ nth r k)) := by
  unfold live
  rw [show ((k : Int) + 1 - 1).toNat = k by omega]
  congr 1
  simp only [decide_eq_decide]
  omega
theorem live_true {r : List Int} {h : Int} (hl : live r h = true) : ∃ k : Nat, h = (k : Int) + 1 ∧ k < r.length ∧ 0 ≤ nth r k := by
  unfold live at hl
  simp only [Bool.and_eq_true, decide_eq_true_eq] at hl
  refine ⟨(h - 1).toNat, by omega, by omega, hl.2⟩
/-- How many are live. -/
def cntL : List Int → Nat
  | [] => 0
  | x :: xs => (if 0 ≤ x then 1 else 0) + cntL xs
theorem cntL_le (r : List Int) : cntL r ≤ r.length := by
  induction r with
  | nil => exact Nat.le_refl _
  | cons x xs ih => unfold cntL; rw [List.length_cons]; split <;> omega
theorem cntL_snoc (r : List Int) (x : Int) : cntL (r ++ [x]) = cntL r + (if 0 ≤ x then 1 else 0) := by
  induction r with
  | nil => simp [cntL]
  | cons y ys ih => rw [List.cons_append]; simp only [cntL]; rw [ih]; omega
theorem cntL_set (r : List Int) (k : Nat) (x : Int) (hk : k < r.length) : cntL (r.set k x) + (if 0 ≤ nth r k then 1 else 0) = cntL r + (if 0 ≤ x then 1 else 0) := by
  induction r generalizing k with
  | nil => simp at hk
  | cons y ys ih =>
    cases k with
    | zero =>
      have e : nth (y :: ys) 0 = y := rfl
      rw [e, List.set_cons_zero]; simp only [cntL]; omega
    | succ k =>
      have e : nth (y :: ys) (k + 1) = nth ys k := rfl
      have := ih k (by simpa using hk)
      rw [e, List.set_cons_succ]; simp only [cntL]; omega
theorem nth_snoc_lt {r : List Int} {x : Int} {k : Nat} (h : k < r.length) : nth (r ++ [x]) k = nth r k := by
  unfold nth; simp only [List.getD]; rw [List.getElem?_append_left h]
theorem nth_snoc_eq (r : List Int) (x : Int) : nth (r ++ [x]) r.length = x := by
  unfold nth; simp [List.getD]
theorem live_snoc (r : List Int) {x : Int} (hx : 0 ≤ x) (h : Int) : live (r ++ [x]) h = if h = (r.length : Int) + 1 then true else live r h := by
  by_cases e : h = (r.length : Int) + 1
  · subst e
    rw [if_pos rfl, live_nat, nth_snoc_eq]
    simp [hx]
  · rw [if_neg e]
    by_cases h1 : 1 ≤ h ∧ h ≤ (r.length : Int)
    · obtain ⟨k, rfl⟩ : ∃ k : Nat, h = (k : Int) + 1 := ⟨(h - 1).toNat, by omega⟩
      have hk : k < r.length := by omega
      rw [live_nat, live_nat, nth_snoc_lt hk]
      simp [hk, show k < r.length + 1 by omega]
    · unfold live
      rw [decide_eq_false h1, List.length_append, List.length_singleton, decide_eq_false (by omega)]
      simp
theorem live_set (r : List Int) {k : Nat} (hk : k < r.length) (x : Int) (h : Int) : live (r.set k x) h = if h = (k : Int) + 1 then decide (0 ≤ x) else live r h := by
  by_cases e : h = (k : Int) + 1
  · subst e
    rw [if_pos rfl, live_nat, nth_set_self r hk, List.length_set]
    simp [hk]
  · rw [if_neg e]
    by_cases h1 : 1 ≤ h ∧ h ≤ (r.length : Int)
    · obtain ⟨j, rfl⟩ : ∃ j : Nat, h = (j : Int) + 1 := ⟨(h - 1).toNat, by omega⟩
      rw [live_nat, live_nat, nth_set_other r (by omega), List.length_set]
    · unfold live
      rw [decide_eq_false h1, List.length_set, decide_eq_false h1]
      simp
/-- Where a handle is. -/
def slotV (r : List Int) (h : Int) : Int := nth r (h - 1).toNat
theorem slotV_nat (r : List Int) (k : Nat) : slotV r ((k : Int) + 1) = nth r k := by
  unfold slotV
  rw [show ((k : Int) + 1 - 1).toNat = k by omega]

/-- The datum says what the list says. -/
structure MD (D : DataW Unit) (r : List Int) : Prop where
  tidy : Tidy D
  has : ∀ h : Int, Maps.has D (.int .i64 h) = live r h
  at_ : ∀ h : Int, live r h = true → ∀ z, D.atKey (.int .i64 h) z = .lit (.int .i64 (slotV r h))
  size : Maps.size D = cntL r
theorem key_ne {h k : Int} (e : h ≠ k) : (Lit.int .i64 h) ≠ (Lit.int .i64 k) := fun x => by injection x with _ x; exact e x
theorem keyI (h : Int) : WideAt.IsKeyLit (Lit.int .i64 h) := trivial
theorem MD.empty : MD (.map []) [] := ⟨tidy_empty, fun h => by
  have e : live [] h = false := by
    cases hl : live [] h
    · rfl
    · obtain ⟨k, _, hk, _⟩ := live_true hl; simp at hk
  rw [e]; rfl, fun h hl => by obtain ⟨k, _, hk, _⟩ := live_true hl; simp at hk, rfl⟩
theorem not_live_next (r : List Int) : live r ((r.length : Int) + 1) = false := by
  rw [live_nat]; simp
theorem MD.take {D : DataW Unit} {r : List Int} (h : MD D r) {x : Int} (hx : 0 ≤ x) : MD (D.put (.int .i64 ((r.length : Int) + 1)) (.lit (.int .i64 x))) (r ++ [x]) := by
  refine ⟨h.tidy.put (keyI _) _, fun j => ?_, fun j hl z => ?_, ?_⟩
  · rw [live_snoc r hx]
    by_cases e : j = (r.length : Int) + 1
    · subst e; rw [if_pos rfl, has_put_same h.tidy.isMap (keyI _)]
    · rw [if_neg e, has_put_other (key_ne e), h.has]
  · by_cases e : j = (r.length : Int) + 1
    · subst e; rw [atKey_put_same h.tidy.isMap (keyI _), slotV_nat, nth_snoc_eq]
    · rw [live_snoc r hx, if_neg e] at hl
      rw [atKey_put_other (key_ne e), h.at_ j hl]
      obtain ⟨k, rfl, hk, _⟩ := live_true hl
      rw [slotV_nat, slotV_nat, nth_snoc_lt hk]
  · rw [size_put h.tidy, h.has, not_live_next, cntL_snoc, if_pos hx, h.size]; rfl
theorem MD.move {D : DataW Unit} {r : List Int} (h : MD D r) {k : Nat} (hk : k < r.length) (hl : 0 ≤ nth r k) {x : Int} (hx : 0 ≤ x) : MD (D.put (.int .i64 ((k : Int) + 1)) (.lit (.int .i64 x))) (r.set k x) := by
  have hlive : live r ((k : Int) + 1) = true := by rw [live_nat]; simp [hk, hl]
  refine ⟨h.tidy.put (keyI _) _, fun j => ?_, fun j hl2 z => ?_, ?_⟩
  · rw [live_set r hk]
    by_cases e : j = (k : Int) + 1
    · subst e; rw [if_pos rfl, has_put_same h.tidy.isMap (keyI _)]; simp [hx]
    · rw [if_neg e, has_put_other (key_ne e), h.has]
  · by_cases e : j = (k : Int) + 1
    · subst e; rw [atKey_put_same h.tidy.isMap (keyI _), slotV_nat, nth_set_self r hk]
    · rw [live_set r hk, if_neg e] at hl2
      rw [atKey_put_other (key_ne e), h.at_ j hl2]
      obtain ⟨i, rfl, hi, _⟩ := live_true hl2
      rw [slotV_nat, slotV_nat, nth_set_other r (by omega)]
  · rw [size_put h.tidy, h.has, hlive, if_pos rfl, h.size]
    have := cntL_set r k x hk
    rw [if_pos hl, if_pos hx] at this
    omega
theorem MD.free {D : DataW Unit} {r : List Int} (h : MD D r) {k : Nat} (hk : k < r.length) (hl : 0 ≤ nth r k) : MD (D.del (.int .i64 ((k : Int) + 1))) (r.set k (-1)) := by
  have hlive : live r ((k : Int) + 1) = true := by rw [live_nat]; simp [hk, hl]
  refine ⟨h.tidy.del _, fun j => ?_, fun j hl2 z => ?_, ?_⟩
  · rw [live_set r hk]
    by_cases e : j = (k : Int) + 1
    · subst e; rw [if_pos rfl, has_del_same]; rfl
    · rw [if_neg e, has_del_other (key_ne e), h.has]
  · by_cases e : j = (k : Int) + 1
    · subst e
      rw [live_set r hk, if_pos rfl] at hl2
      simp at hl2
    · rw [live_set r hk, if_neg e] at hl2
      rw [atKey_del_other (key_ne e), h.at_ j hl2]
      obtain ⟨i, rfl, hi, _⟩ := live_true hl2
      rw [slotV_nat, slotV_nat, nth_set_other r (by omega)]
  · have h1 := size_del h.tidy (k := .int .i64 ((k : Int) + 1))
    rw [h.has, hlive, if_pos rfl, h.size] at h1
    have := cntL_set r k (-1) hk
    rw [if_pos hl, if_neg (by omega)] at this
    omega

/-- The map lies at block b and says what the list says. -/
def MM (w : World) (b : Nat) (r : List Int) : Prop := ∃ D : DataW Unit, w.ownsMap Tryz.prog 3 (plainElem Tryz.prog 3) b (cntL r) D ∧ MD D r
theorem own_tight {w : World} {b n : Nat} {D : DataW Unit} {R : Value → Option (DataW Unit × List MemPlace)} (h : w.ownsMap Tryz.prog 3 R b n D) : w.ownsMap Tryz.prog 3 R b (Maps.size D) D := by
  obtain ⟨es, clock, hb, F, hs, rfl⟩ := h
  exact ⟨es, clock, hb, F, by simp [Maps.size, length_sorted], rfl⟩
theorem MM.of {w : World} {b n : Nat} {r : List Int} {D : DataW Unit} (h : w.ownsMap Tryz.prog 3 (plainElem Tryz.prog 3) b n D) (hD : MD D r) : MM w b r :=
  ⟨D, by rw [← hD.size]; exact own_tight h, hD⟩
section
variable {w w' : World} {b : Nat} {r : List Int}
theorem MM.lt (h : MM w b r) : b < w.heap.size := by obtain ⟨D, h1, _⟩ := h; exact h1.lt
theorem MM.grown {row : Option Nat} (h : MM w b r) (hg : w.grownBy w' row) (hne : some b ≠ row) : MM w' b r := by
  obtain ⟨D, h1, h2⟩ := h
  exact ⟨D, h1.kept hg hne, h2⟩
theorem MM.below {B : Nat} (h : MM w b r) (hb : Below B w w') (hlt : b < B) : MM w' b r := by
  obtain ⟨D, ⟨es, clock, h1, h2⟩, h3⟩ := h
  exact ⟨D, ⟨es, clock, (hb.block b hlt).trans h1, h2⟩, h3⟩
theorem MM.drewN (h : MM w b r) (n : Nat) : MM (w.drewN n) b r := h
theorem MM.ne_blk {g : Nat} {t : TypeId} {cs : Array Value} (h : MM w b r) (h' : Blk w g t cs) : b ≠ g := by
  rintro rfl
  obtain ⟨D, ⟨es, clock, h1, _⟩, _⟩ := h
  unfold Blk at h'
  rw [h1] at h'
  cases h'
end

/-- A table lies at p, its map in block b. -/
structure HM (w : World) (p b : Nat) (r : List Int) : Prop where
  hp : Blk w p 133 #[.map (some b), .int .i64 (r.length : Int)]
  hm : MM w b r
section
variable {w w' : World} {p b : Nat} {r : List Int}
theorem HM.c0 (h : HM w p b r) : w.cell? ⟨p, 0, none⟩ = some (.map (some b)) := by rw [h.hp.cell]; rfl
theorem HM.c1 (h : HM w p b r) : w.cell? ⟨p, 1, none⟩ = some (.int .i64 (r.length : Int)) := by rw [h.hp.cell]; rfl
theorem HM.ne (h : HM w p b r) : b ≠ p := h.hm.ne_blk h.hp
theorem HM.drewN (h : HM w p b r) (n : Nat) : HM (w.drewN n) p b r := ⟨h.hp, h.hm⟩
theorem HM.below (h : HM w p b r) (hb : Below w.heap.size w w') : HM w' p b r := ⟨h.hp.below hb h.hp.lt, h.hm.below hb h.hm.lt⟩
theorem HM.alloc (h : HM w p b r) (o : Obj) : HM (w.alloc o) p b r := h.below ((Below.refl _ w).alloc (Nat.le_refl _) _)
theorem HM.grown {row : Option Nat} (h : HM w p b r) (hg : w.grownBy w' row) (h1 : some p ≠ row) (h2 : some b ≠ row) : HM w' p b r := ⟨h.hp.grown hg h1, h.hm.grown hg h2⟩
end
end Go.Proofs.YtaonkbfekadalaaGreatDoor
