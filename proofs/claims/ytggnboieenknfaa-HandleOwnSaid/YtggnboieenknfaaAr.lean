/- Arguments opened: a slice of whole numbers, and a slice of structs of three whole numbers, as the walk reads them. -/
import Derived.Test.YtggnboieenknfaaK0
import Derived.ProofKit
import Derived.OpenShut
import Derived.Deep.Slices
import Derived.Deep.Fields
import Derived.ChangeSame
import Derived.Deep.Strs
namespace Go.Proofs.Ytggnboieenknfaa
open Go.RowKit Go.ChangeShapes Go.WideShapes Go.Deep
set_option linter.unusedVariables false

theorem add_at_none {a : Addr} (h : a.spot = none) (i : Nat) : a.add i = ⟨a.block, a.off + i, none⟩ := by
  obtain ⟨b, o, s⟩ := a
  obtain rfl : s = none := h
  unfold Addr.add
  split
  · subst_vars; rfl
  · rfl

/-- The slice A, len, cap is the numbers zs, each in int's bounds. -/
structure IntsIn (w : World) (A : Option Addr) (len : Nat) (zs : List Int) : Prop where
  hl : zs.length = len
  hm : len ≤ 9223372036854775807
  hr : RI w A zs
  hb : ∀ k, -9223372036854775808 ≤ nth zs k ∧ nth zs k ≤ 9223372036854775807

theorem nth_mem_or (zs : List Int) (k : Nat) : nth zs k ∈ zs ∨ nth zs k = 0 := by
  by_cases h : k < zs.length
  · left; rw [nth_eq h]; exact List.getElem_mem h
  · right; unfold nth; simp at h; simp [h]

section
variable {H : Type} {enc : TypeId × Value → H} {P : Program} {w : World}
theorem ints_in {t e : TypeId} {A : Option Addr} {len cap : Nat} {d : DataW H} {p : List MemPlace} (ht : P.underlying t = some (.slice e)) (he : P.underlying e = some (.int .i64)) (hc : P.cellsOf e = 1)
    (h : DataW.Trod enc P w 0 (fun _ => true) true t (.slice A len cap) d p) : ∃ zs, IntsIn w A len zs := by
  obtain ⟨fuel, hf⟩ := h
  rcases open_ints ht he hc hf with ⟨hcs, _⟩ | ⟨a, l, c, zs, hcs, _, hl, hcm, hz, _, hcell, hwz⟩
  · simp [Value.cells] at hcs
    obtain ⟨rfl, rfl, rfl⟩ := hcs
    exact ⟨[], rfl, by omega, fun h => absurd h (by simp), fun k => by simp [nth]⟩
  · simp [Value.cells] at hcs
    obtain ⟨rfl, rfl, rfl⟩ := hcs
    simp only [if_true] at hz
    have hlen : (zs.take len).length = len := by rw [List.length_take]; omega
    refine ⟨zs.take len, hlen, by unfold maxLen at hcm; omega, fun hpos => ?_, fun k => ?_⟩
    · have hs : a.spot = none := by
        have h0 := hcell 0 (by omega)
        simpa [Addr.add] using World.cell?_spot h0
      refine ⟨a.block, a.off, by obtain ⟨b, o, s⟩ := a; obtain rfl : s = none := hs; rfl, fun k hk => ?_⟩
      have h1 := hcell k (by omega)
      rw [add_at_none hs] at h1
      rw [h1]
      congr 2
      rw [nth_eq hk, List.getElem_take]
      simp [List.getD, List.getElem?_eq_getElem (show k < zs.length by omega)]
    · rcases nth_mem_or (zs.take len) k with h1 | h1
      · exact bounds_i64 (hwz _ (List.mem_of_mem_take h1))
      · rw [h1]; omega
end

theorem IntsIn.below {w w' : World} {A : Option Addr} {len : Nat} {zs : List Int} (h : IntsIn w A len zs) (hb : Below w.heap.size w w') : IntsIn w' A len zs :=
  ⟨h.hl, h.hm, h.hr.below hb (Nat.le_refl _), h.hb⟩
theorem IntsIn.at_ {w : World} {A : Option Addr} {len : Nat} {zs : List Int} (h : IntsIn w A len zs) {k : Nat} (hk : k < len) :
    ∃ b off, A = some ⟨b, off, none⟩ ∧ w.cell? ⟨b, off + k, none⟩ = some (.int .i64 (nth zs k)) := by
  obtain ⟨b, off, rfl, hr⟩ := h.hr (by rw [h.hl]; omega)
  exact ⟨b, off, rfl, hr k (by rw [h.hl]; exact hk)⟩

/-- A struct of three numbers. -/
structure Act3 where
  o : Int
  i : Int
  n : Int
def act (zs : List Act3) (k : Nat) : Act3 := zs.getD k ⟨0, 0, 0⟩
def inI (x : Int) : Prop := -9223372036854775808 ≤ x ∧ x ≤ 9223372036854775807

/-- The slice A, len is the structs zs: three cells each. -/
structure ActsIn (w : World) (A : Option Addr) (len : Nat) (zs : List Act3) : Prop where
  hl : zs.length = len
  hm : len ≤ 9223372036854775807
  hr : 0 < len → ∃ b off, A = some ⟨b, off, none⟩ ∧ ∀ k, k < len → w.cell? ⟨b, off + k * 3, none⟩ = some (.int .i64 (act zs k).o) ∧
    w.cell? ⟨b, off + k * 3 + 1, none⟩ = some (.int .i64 (act zs k).i) ∧ w.cell? ⟨b, off + k * 3 + 2, none⟩ = some (.int .i64 (act zs k).n)
  hb : ∀ k, inI (act zs k).o ∧ inI (act zs k).i ∧ inI (act zs k).n

theorem act_eq {zs : List Act3} {k : Nat} (h : k < zs.length) : act zs k = zs[k] := by
  unfold act
  simp [h]

section
variable {H : Type} {enc : TypeId × Value → H} {P : Program} {w : World}
theorem acts_in {t e i64 : TypeId} {n0 n1 n2 : Field} {A : Option Addr} {len cap : Nat} {d : DataW H} {p : List MemPlace} (ht : P.underlying t = some (.slice e)) (he : P.underlying e = some (.struct #[n0, n1, n2]))
    (hi : P.underlying i64 = some (.int .i64)) (h0 : n0.type = i64) (h1 : n1.type = i64) (h2 : n2.type = i64)
    (hone : oneCellFields P #[n0, n1, n2] = true) (hC : P.cellsOf e = 3) (h : DataW.Trod enc P w 0 (fun _ => true) true t (.slice A len cap) d p) : ∃ zs, ActsIn w A len zs := by
  obtain ⟨fuel, hf⟩ := h
  rcases open_slice ht hf with ⟨hcs, _⟩ | ⟨a, l, c, m, n, D, Pl, hcs, _, hl, hcm, hmm, _, hel⟩
  · simp [Value.cells] at hcs
    obtain ⟨rfl, rfl, rfl⟩ := hcs
    exact ⟨[], rfl, by omega, fun h => absurd h (by omega), fun k => by simp [act, inI]⟩
  · simp [Value.cells] at hcs
    obtain ⟨rfl, rfl, rfl⟩ := hcs
    simp only [if_true] at hmm
    subst hmm
    have hs : 0 < len → a.spot = none := by
      intro hpos
      obtain ⟨cs, hc, htr⟩ := hel 0 (by omega)
      rw [hC] at hc
      obtain ⟨_, hcl, hat⟩ := World.cells?_some hc
      have h0 := hat 0 (by omega)
      rw [List.getElem?_eq_getElem (by omega)] at h0
      simpa [Addr.add] using World.cell?_spot h0
    have each : ∀ k, k < len → ∃ x : Act3, (w.cell? ⟨a.block, a.off + k * 3, none⟩ = some (.int .i64 x.o) ∧ w.cell? ⟨a.block, a.off + k * 3 + 1, none⟩ = some (.int .i64 x.i) ∧
        w.cell? ⟨a.block, a.off + k * 3 + 2, none⟩ = some (.int .i64 x.n)) ∧ inI x.o ∧ inI x.i ∧ inI x.n := by
      intro k hk
      obtain ⟨cs, hc, htr⟩ := hel k (by omega)
      rw [hC, add_at_none (hs (by omega))] at hc
      obtain ⟨y0, y1, y2, q, _, hlen, g0, g1, g2⟩ := trod_struct3 he htr
      obtain ⟨o0, k0⟩ := hone_of hone 0 n0 rfl
      obtain ⟨o1, k1⟩ := hone_of hone 1 n1 rfl
      obtain ⟨o2, k2⟩ := hone_of hone 2 n2 rfl
      obtain ⟨_, hcl, hat⟩ := World.cells?_some hc
      rw [k0, o0, h0] at g0
      rw [k1, o1, h1] at g1
      rw [k2, o2, h2] at g2
      obtain ⟨x0, s0, _, w0⟩ := DataW.trod_int hi g0
      obtain ⟨x1, s1, _, w1⟩ := DataW.trod_int hi g1
      obtain ⟨x2, s2, _, w2⟩ := DataW.trod_int hi g2
      match cs, hcl with
      | [c0, c1, c2], _ =>
        simp at s0 s1 s2
        subst s0 s1 s2
        exact ⟨⟨x0, x1, x2⟩, ⟨hat 0 (by omega), hat 1 (by omega), hat 2 (by omega)⟩, bounds_i64 w0, bounds_i64 w1, bounds_i64 w2⟩
    let zs : List Act3 := (List.range len).map fun k => if hk : k < len then (each k hk).choose else ⟨0, 0, 0⟩
    have hzl : zs.length = len := by simp [zs]
    have hzk : ∀ k (hk : k < len), act zs k = (each k hk).choose := fun k hk => by
      rw [act_eq (by omega)]
      simp [zs, hk]
    refine ⟨zs, hzl, by unfold maxLen at hcm; omega, fun hpos => ?_, fun k => ?_⟩
    · refine ⟨a.block, a.off, by have h1 := hs hpos; obtain ⟨b, o, s⟩ := a; obtain rfl : s = none := h1; rfl, fun k hk => ?_⟩
      rw [hzk k hk]
      exact (each k hk).choose_spec.1
    · by_cases hk : k < len
      · rw [hzk k hk]
        have h1 := (each k hk).choose_spec
        exact h1.2
      · have : act zs k = ⟨0, 0, 0⟩ := by unfold act; simp [List.getD, List.getElem?_eq_none (show zs.length ≤ k by omega)]
        rw [this]
        simp [inI]
end

theorem ActsIn.below {w w' : World} {A : Option Addr} {len : Nat} {zs : List Act3} (h : ActsIn w A len zs) (hb : Below w.heap.size w w') : ActsIn w' A len zs :=
  ⟨h.hl, h.hm, fun hp => by
    obtain ⟨b, off, e, hc⟩ := h.hr hp
    refine ⟨b, off, e, fun k hk => ?_⟩
    obtain ⟨c0, c1, c2⟩ := hc k hk
    have hlt : b < w.heap.size := World.block_lt_of_cell? w ⟨b, off + k * 3, none⟩ c0
    exact ⟨(hb.cell (p := ⟨b, off + k * 3, none⟩) hlt).trans c0, (hb.cell (p := ⟨b, off + k * 3 + 1, none⟩) hlt).trans c1, (hb.cell (p := ⟨b, off + k * 3 + 2, none⟩) hlt).trans c2⟩, h.hb⟩
theorem ActsIn.at_ {w : World} {A : Option Addr} {len : Nat} {zs : List Act3} (h : ActsIn w A len zs) {k : Nat} (hk : k < len) :
    ∃ b off, A = some ⟨b, off, none⟩ ∧ w.cell? ⟨b, off + k * 3, none⟩ = some (.int .i64 (act zs k).o) ∧ w.cell? ⟨b, off + k * 3 + 1, none⟩ = some (.int .i64 (act zs k).i) ∧ w.cell? ⟨b, off + k * 3 + 2, none⟩ = some (.int .i64 (act zs k).n) := by
  obtain ⟨b, off, e, hr⟩ := h.hr (by omega)
  exact ⟨b, off, e, hr k hk⟩
end Go.Proofs.Ytggnboieenknfaa
