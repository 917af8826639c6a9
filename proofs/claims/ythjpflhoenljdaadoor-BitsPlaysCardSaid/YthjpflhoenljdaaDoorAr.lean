/- Arguments opened: a slice of structs of a whole number and a bool; arrays of two and of four whole numbers by value. -/
import Derived.Test.YthjpflhoenljdaaDoorK0
import Derived.ProofKit
import Derived.OpenShut
import Derived.Deep.Slices
import Derived.Deep.Fields
import Derived.ChangeSame
import Derived.Deep.Strs
namespace Go.Proofs.YthjpflhoenljdaaDoor
open Go.RowKit Go.ChangeShapes Go.WideShapes Go.Deep
set_option linter.unusedVariables false

theorem add_at_none {a : Addr} (h : a.spot = none) (i : Nat) : a.add i = ⟨a.block, a.off + i, none⟩ := by
  obtain ⟨b, o, s⟩ := a
  obtain rfl : s = none := h
  unfold Addr.add
  split
  · subst_vars; rfl
  · rfl

/-- A bit that is turned on, or off. -/
structure Act2 where
  i : Int
  b : Bool
def act (zs : List Act2) (k : Nat) : Act2 := zs.getD k ⟨0, false⟩
theorem act_eq {zs : List Act2} {k : Nat} (h : k < zs.length) : act zs k = zs[k] := by
  unfold act
  simp [h]

/-- The slice A, len is the structs zs: two cells each. -/
structure ActsIn (w : World) (A : Option Addr) (len : Nat) (zs : List Act2) : Prop where
  hl : zs.length = len
  hm : len ≤ 9223372036854775807
  hr : 0 < len → ∃ b off, A = some ⟨b, off, none⟩ ∧ ∀ k, k < len → w.cell? ⟨b, off + k * 2, none⟩ = some (.int .i64 (act zs k).i) ∧ w.cell? ⟨b, off + k * 2 + 1, none⟩ = some (.bool (act zs k).b)

section
variable {H : Type} {enc : TypeId × Value → H} {P : Program} {w : World}
theorem acts_in {t e i64 bl : TypeId} {n0 n1 : Field} {A : Option Addr} {len cap : Nat} {d : DataW H} {p : List MemPlace} (ht : P.underlying t = some (.slice e)) (he : P.underlying e = some (.struct #[n0, n1]))
    (hi : P.underlying i64 = some (.int .i64)) (hb : P.underlying bl = some .bool) (h0 : n0.type = i64) (h1 : n1.type = bl)
    (hone : oneCellFields P #[n0, n1] = true) (hC : P.cellsOf e = 2) (h : DataW.Trod enc P w 0 (fun _ => true) true t (.slice A len cap) d p) :
    (∃ zs, ActsIn w A len zs) ∧ len ≤ cap ∧ (A = none → len = 0 ∧ cap = 0) := by
  obtain ⟨fuel, hf⟩ := h
  rcases open_slice ht hf with ⟨hcs, _⟩ | ⟨a, l, c, m, n, D, Pl, hcs, _, hl, hcm, hmm, _, hel⟩
  · simp [Value.cells] at hcs
    obtain ⟨rfl, rfl, rfl⟩ := hcs
    exact ⟨⟨[], rfl, by omega, fun h => absurd h (by omega)⟩, by omega, fun _ => ⟨rfl, rfl⟩⟩
  · simp [Value.cells] at hcs
    obtain ⟨rfl, rfl, rfl⟩ := hcs
    refine ⟨?_, hl, fun h => by cases h⟩
    simp only [if_true] at hmm
    subst hmm
    have hs : 0 < len → a.spot = none := by
      intro hpos
      obtain ⟨cs, hc, htr⟩ := hel 0 (by omega)
      rw [hC] at hc
      obtain ⟨_, hcl, hat⟩ := World.cells?_some hc
      have h0 := hat 0 (by omega)
      rw [List.getElem?_eq_getElem (by omega)] at h0
      simpa [Addr.add] using World.cell?_spot h0
    have each : ∀ k, k < len → ∃ x : Act2, w.cell? ⟨a.block, a.off + k * 2, none⟩ = some (.int .i64 x.i) ∧ w.cell? ⟨a.block, a.off + k * 2 + 1, none⟩ = some (.bool x.b) := by
      intro k hk
      obtain ⟨cs, hc, htr⟩ := hel k (by omega)
      rw [hC, add_at_none (hs (by omega))] at hc
      obtain ⟨y0, y1, q, _, hlen, g0, g1⟩ := trod_struct2 he htr
      obtain ⟨o0, k0⟩ := hone_of hone 0 n0 rfl
      obtain ⟨o1, k1⟩ := hone_of hone 1 n1 rfl
      obtain ⟨_, hcl, hat⟩ := World.cells?_some hc
      rw [k0, o0, h0] at g0
      rw [k1, o1, h1] at g1
      obtain ⟨x0, s0, _, w0⟩ := DataW.trod_int hi g0
      obtain ⟨x1, s1, _⟩ := DataW.trod_bool hb g1
      match cs, hcl with
      | [c0, c1], _ =>
        simp at s0 s1
        subst s0 s1
        exact ⟨⟨x0, x1⟩, hat 0 (by omega), hat 1 (by omega)⟩
    let zs : List Act2 := (List.range len).map fun k => if hk : k < len then (each k hk).choose else ⟨0, false⟩
    have hzl : zs.length = len := by simp [zs]
    have hzk : ∀ k (hk : k < len), act zs k = (each k hk).choose := fun k hk => by
      rw [act_eq (by omega)]
      simp [zs, hk]
    refine ⟨zs, hzl, by unfold maxLen at hcm; omega, fun hpos => ?_⟩
    refine ⟨a.block, a.off, by have h1 := hs hpos; obtain ⟨b, o, s⟩ := a; obtain rfl : s = none := h1; rfl, fun k hk => ?_⟩
    rw [hzk k hk]
    exact (each k hk).choose_spec

theorem pair_in {t e : TypeId} {r : Reach} {b0 base : Nat} {spare : Nat → Bool} {held : Bool} {v : Value} {d : DataW H} {p : List MemPlace} (ht : P.underlying t = some (.array 2 e)) (hc : P.cellsOf e = 1) (hct : P.cellsOf t = 2)
    (hv : Value.okWide P w r b0 t v) (h : DataW.Trod enc P w base spare held t v d p) :
    ∃ (c0 c1 : Value) (m : Nat) (y0 y1 : DataW H × List MemPlace), v = .agg #[c0, c1] ∧ DataW.trod enc P w base spare held m e [c0] = some y0 ∧ DataW.trod enc P w base spare held m e [c1] = some y1 := by
  unfold Value.okWide at hv
  rw [ht] at hv
  obtain ⟨cs, rfl, hsz, _⟩ := hv
  rw [hct] at hsz
  obtain ⟨l⟩ := cs
  match l, hsz with
  | [c0, c1], _ =>
    obtain ⟨fuel, hf⟩ := h
    obtain ⟨xs, m, _, _, _, hl, hx⟩ := DataW.trod_array ht hf
    match xs, hl with
    | [y0, y1], _ =>
      have g0 := hx 0 (by omega)
      have g1 := hx 1 (by omega)
      rw [hc] at g0 g1
      exact ⟨c0, c1, m, y0, y1, rfl, by simpa [Value.cells] using g0, by simpa [Value.cells] using g1⟩
theorem four_in {t e : TypeId} {r : Reach} {b0 base : Nat} {spare : Nat → Bool} {held : Bool} {v : Value} {d : DataW H} {p : List MemPlace} (ht : P.underlying t = some (.array 4 e)) (hc : P.cellsOf e = 1) (hct : P.cellsOf t = 4)
    (hv : Value.okWide P w r b0 t v) (h : DataW.Trod enc P w base spare held t v d p) :
    ∃ (c0 c1 c2 c3 : Value) (m : Nat) (y0 y1 y2 y3 : DataW H × List MemPlace), v = .agg #[c0, c1, c2, c3] ∧ DataW.trod enc P w base spare held m e [c0] = some y0 ∧ DataW.trod enc P w base spare held m e [c1] = some y1 ∧
      DataW.trod enc P w base spare held m e [c2] = some y2 ∧ DataW.trod enc P w base spare held m e [c3] = some y3 := by
  unfold Value.okWide at hv
  rw [ht] at hv
  obtain ⟨cs, rfl, hsz, _⟩ := hv
  rw [hct] at hsz
  obtain ⟨l⟩ := cs
  match l, hsz with
  | [c0, c1, c2, c3], _ =>
    obtain ⟨fuel, hf⟩ := h
    obtain ⟨xs, m, _, _, _, hl, hx⟩ := DataW.trod_array ht hf
    match xs, hl with
    | [y0, y1, y2, y3], _ =>
      have g0 := hx 0 (by omega)
      have g1 := hx 1 (by omega)
      have g2 := hx 2 (by omega)
      have g3 := hx 3 (by omega)
      rw [hc] at g0 g1 g2 g3
      exact ⟨c0, c1, c2, c3, m, y0, y1, y2, y3, rfl, by simpa [Value.cells] using g0, by simpa [Value.cells] using g1, by simpa [Value.cells] using g2, by simpa [Value.cells] using g3⟩
end

theorem ActsIn.below {w w' : World} {A : Option Addr} {len : Nat} {zs : List Act2} (h : ActsIn w A len zs) (hb : Below w.heap.size w w') : ActsIn w' A len zs :=
  ⟨h.hl, h.hm, fun hp => by
    obtain ⟨b, off, e, hc⟩ := h.hr hp
    refine ⟨b, off, e, fun k hk => ?_⟩
    obtain ⟨c0, c1⟩ := hc k hk
    have hlt : b < w.heap.size := World.block_lt_of_cell? w ⟨b, off + k * 2, none⟩ c0
    exact ⟨(hb.cell (p := ⟨b, off + k * 2, none⟩) hlt).trans c0, (hb.cell (p := ⟨b, off + k * 2 + 1, none⟩) hlt).trans c1⟩⟩
theorem ActsIn.at_ {w : World} {A : Option Addr} {len : Nat} {zs : List Act2} (h : ActsIn w A len zs) {k : Nat} (hk : k < len) :
    ∃ b off, A = some ⟨b, off, none⟩ ∧ w.cell? ⟨b, off + k * 2, none⟩ = some (.int .i64 (act zs k).i) ∧ w.cell? ⟨b, off + k * 2 + 1, none⟩ = some (.bool (act zs k).b) := by
  obtain ⟨b, off, e, hr⟩ := h.hr (by omega)
  exact ⟨b, off, e, hr k hk⟩
theorem ActsIn.same {a W : World} {b off len k : Nat} {zs : List Act2} (h : ActsIn a (some ⟨b, off, none⟩) len zs) (hb : Below a.heap.size a W) (hk : k < len) :
    W.cell? ⟨b, off + k * 2, none⟩ = some (.int .i64 (act zs k).i) ∧ W.cell? ⟨b, off + k * 2 + 1, none⟩ = some (.bool (act zs k).b) := by
  obtain ⟨b', off', e, h0, h1⟩ := (h.below hb).at_ hk
  injection e with e
  injection e with e1 e2
  subst e1 e2
  exact ⟨h0, h1⟩
end Go.Proofs.YthjpflhoenljdaaDoor
