/- The argument opened: a slice of commands, as the walk reads them; and what the listed variables give. -/
import Derived.Test.YtaonkbfekadalaaGreatDoorRows
import Derived.ProofKit
import Derived.OpenShut
import Derived.Deep.Slices
import Derived.Deep.Fields
import Derived.ChangeSame
import Derived.Deep.Strs
import Derived.SizedLaws
import Derived.Shelf.Vars
import Derived.Lib.LaidTab
import Derived.ChangeOld
import Derived.Test.YtaonkbfekadalaaGreatDoorM44
import Derived.Test.YtaonkbfekadalaaGreatDoorM45
namespace Go.Proofs.YtaonkbfekadalaaGreatDoor
open Go.RowKit Go.ChangeShapes Go.WideShapes Go.Deep
set_option linter.unusedVariables false

theorem addAtNone {a : Addr} (h : a.spot = none) (i : Nat) : a.add i = ⟨a.block, a.off + i, none⟩ := by
  obtain ⟨b, o, s⟩ := a
  obtain rfl : s = none := h
  unfold Addr.add
  split
  · subst_vars; rfl
  · rfl
theorem weight_mem {H : Type} {P : Program} {e : TypeId} {d : DataW H} {n : Nat} : ∀ {l : List (DataW H)}, d ∈ l → n ∈ d.weights P e → n ∈ DataW.weightsAll P e l
  | [], h, _ => by cases h
  | x :: r, h, hn => by
    rw [DataW.weightsAll]
    rcases List.mem_cons.1 h with rfl | q
    · exact List.mem_append.2 (.inl hn)
    · exact List.mem_append.2 (.inr (weight_mem q hn))
section
variable {H : Type} {enc : TypeId × Value → H} {P : Program} {w : World}
/-- A slice of commands, opened. -/
theorem cmds_in {t e st i64 : TypeId} {n0 n1 n2 : Field} {A : Option Addr} {len cap : Nat} {d : DataW H} {p : List MemPlace} (ht : P.underlying t = some (.slice e)) (he : P.underlying e = some (.struct #[n0, n1, n2]))
    (hs : P.underlying st = some .string) (hi : P.underlying i64 = some (.int .i64)) (h0 : n0.type = st) (h1 : n1.type = i64) (h2 : n2.type = i64)
    (hone : oneCellFields P #[n0, n1, n2] = true) (hC : P.cellsOf e = 3) (hby : P.bytesOf e = 32) (h : DataW.Trod enc P w 0 (fun _ => true) true t (.slice A len cap) d p) (hw : ∀ x ∈ d.weights P t, x ≤ reachBytes) :
    ∃ cs : List Cd, cs.length = len ∧ CI w A cs ∧ (∀ (k : Nat) (c : Cd), cs[k]? = some c → inH c.a ∧ inH c.b ∧ c.s.size ≤ 4611686018427387904) ∧ len ≤ 4611686018427387904 := by
  obtain ⟨fuel, hf⟩ := h
  have hR : reachBytes ≤ 4611686018427387904 := by decide
  rcases open_slice ht hf with ⟨hcs, _⟩ | ⟨a, l, c, m, n, D, Pl, hcs, _, hl, hcm, hmm, hx, hel⟩
  · simp [Value.cells] at hcs
    obtain ⟨rfl, rfl, rfl⟩ := hcs
    exact ⟨[], rfl, fun h => absurd h (by simp), fun k c h => by simp at h, by omega⟩
  · simp [Value.cells] at hcs
    obtain ⟨rfl, rfl, rfl⟩ := hcs
    simp only [if_true] at hmm
    subst hmm
    obtain ⟨rfl, rfl⟩ := Prod.mk.inj hx
    rw [DataW.weights, ht] at hw
    simp only at hw
    have hlen : len ≤ 4611686018427387904 := by
      have := hw _ (List.mem_cons_self ..)
      rw [hby] at this
      simp at this
      omega
    have hsp : 0 < len → a.spot = none := by
      intro hpos
      obtain ⟨cs, hc, htr⟩ := hel 0 (by omega)
      rw [hC] at hc
      obtain ⟨_, hcl, hat⟩ := World.cells?_some hc
      have h0 := hat 0 (by omega)
      rw [List.getElem?_eq_getElem (by omega)] at h0
      simpa [Addr.add] using World.cell?_spot h0
    have each : ∀ k, k < len → ∃ x : Cd, (w.cell? ⟨a.block, a.off + k * 3, none⟩ = some (.string x.s) ∧ w.cell? ⟨a.block, a.off + k * 3 + 1, none⟩ = some (.int .i64 x.a) ∧
        w.cell? ⟨a.block, a.off + k * 3 + 2, none⟩ = some (.int .i64 x.b)) ∧ inH x.a ∧ inH x.b ∧ x.s.size ≤ 4611686018427387904 := by
      intro k hk
      obtain ⟨cs, hc, htr⟩ := hel k (by omega)
      rw [hC, addAtNone (hsp (by omega))] at hc
      obtain ⟨y0, y1, y2, q, hD, hlen, g0, g1, g2⟩ := trod_struct3 he htr
      obtain ⟨o0, k0⟩ := hone_of hone 0 n0 rfl
      obtain ⟨o1, k1⟩ := hone_of hone 1 n1 rfl
      obtain ⟨o2, k2⟩ := hone_of hone 2 n2 rfl
      obtain ⟨_, hcl, hat⟩ := World.cells?_some hc
      rw [k0, o0, h0] at g0
      rw [k1, o1, h1] at g1
      rw [k2, o2, h2] at g2
      obtain ⟨x0, s0, z0, w0⟩ := DataW.trod_string hs g0
      obtain ⟨x1, s1, _, w1⟩ := DataW.trod_int hi g1
      obtain ⟨x2, s2, _, w2⟩ := DataW.trod_int hi g2
      have hDk : D k = .agg [y0.1, y1.1, y2.1] := (Prod.mk.inj hD).1
      have hz : x0.size ≤ 4611686018427387904 := by
        have m1 : x0.size ∈ (D k).weights P e := by
          rw [hDk, DataW.weights, he]
          simp only
          refine DataW.weights_mem_each (j := 0) (t := n0.type) (d := y0.1) rfl rfl _ ?_
          rw [z0]
          simp only [DataW.weights]
          exact List.mem_singleton.2 (ba_len x0).symm
        have m2 := weight_mem (List.mem_map.2 ⟨k, List.mem_range.2 hk, rfl⟩ : D k ∈ (List.range len).map D) m1
        have := hw _ (List.mem_cons_of_mem _ (List.mem_append.2 (.inl m2)))
        omega
      match cs, hcl with
      | [c0, c1, c2], _ =>
        simp at s0 s1 s2
        subst s0 s1 s2
        exact ⟨⟨x0, x1, x2⟩, ⟨hat 0 (by omega), hat 1 (by omega), hat 2 (by omega)⟩, bounds_i64 w1, bounds_i64 w2, hz⟩
    let zs : List Cd := (List.range len).map fun k => if hk : k < len then (each k hk).choose else ⟨⟨#[]⟩, 0, 0⟩
    have hzl : zs.length = len := by simp [zs]
    have hzk : ∀ (k : Nat) (c : Cd), zs[k]? = some c → ∃ hk : k < len, c = (each k hk).choose := fun k c hc => by
      have hk : k < len := by rw [← hzl]; exact (List.getElem?_eq_some_iff.1 hc).1
      refine ⟨hk, ?_⟩
      simp [zs, hk] at hc
      exact hc.symm
    refine ⟨zs, hzl, fun hpos => ?_, fun k c hc => ?_, hlen⟩
    · refine ⟨a.block, a.off, by have h1 := hsp (by omega); obtain ⟨b, o, s⟩ := a; obtain rfl : s = none := h1; rfl, fun k c hc => ?_⟩
      obtain ⟨hk, rfl⟩ := hzk k c hc
      exact (each k hk).choose_spec.1
    · obtain ⟨hk, rfl⟩ := hzk k c hc
      exact (each k hk).choose_spec.2
end
end Go.Proofs.YtaonkbfekadalaaGreatDoor
