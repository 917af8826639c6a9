/- Arguments opened: an array of two structs of three whole numbers, by value. -/
import Derived.Test.YtggnboieenknfaaAr2
namespace Go.Proofs.Ytggnboieenknfaa
open Go.RowKit Go.ChangeShapes Go.WideShapes Go.Deep
set_option linter.unusedVariables false

section
variable {H : Type} {enc : TypeId × Value → H} {P : Program} {w : World}
theorem three_in {e i64 : TypeId} {n0 n1 n2 : Field} {base : Nat} {spare : Nat → Bool} {held : Bool} {m : Nat} {c0 c1 c2 : Value} {y : DataW H × List MemPlace} (he : P.underlying e = some (.struct #[n0, n1, n2]))
    (hi : P.underlying i64 = some (.int .i64)) (h0 : n0.type = i64) (h1 : n1.type = i64) (h2 : n2.type = i64) (hone : oneCellFields P #[n0, n1, n2] = true)
    (h : DataW.trod enc P w base spare held m e [c0, c1, c2] = some y) : ∃ x0 x1 x2 : Int, c0 = .int .i64 x0 ∧ c1 = .int .i64 x1 ∧ c2 = .int .i64 x2 ∧ inI x0 ∧ inI x1 ∧ inI x2 := by
  obtain ⟨y0, y1, y2, q, _, hlen, g0, g1, g2⟩ := trod_struct3 he h
  obtain ⟨o0, k0⟩ := hone_of hone 0 n0 rfl
  obtain ⟨o1, k1⟩ := hone_of hone 1 n1 rfl
  obtain ⟨o2, k2⟩ := hone_of hone 2 n2 rfl
  rw [k0, o0, h0] at g0
  rw [k1, o1, h1] at g1
  rw [k2, o2, h2] at g2
  obtain ⟨x0, s0, _, w0⟩ := DataW.trod_int hi g0
  obtain ⟨x1, s1, _, w1⟩ := DataW.trod_int hi g1
  obtain ⟨x2, s2, _, w2⟩ := DataW.trod_int hi g2
  simp at s0 s1 s2
  exact ⟨x0, x1, x2, s0, s1, s2, bounds_i64 w0, bounds_i64 w1, bounds_i64 w2⟩
theorem pair3_in {t e i64 : TypeId} {n0 n1 n2 : Field} {r : Reach} {b0 base : Nat} {spare : Nat → Bool} {held : Bool} {v : Value} {d : DataW H} {p : List MemPlace} (ht : P.underlying t = some (.array 2 e)) (he : P.underlying e = some (.struct #[n0, n1, n2]))
    (hi : P.underlying i64 = some (.int .i64)) (h0 : n0.type = i64) (h1 : n1.type = i64) (h2 : n2.type = i64) (hone : oneCellFields P #[n0, n1, n2] = true) (hc : P.cellsOf e = 3) (hct : P.cellsOf t = 6)
    (hv : Value.okWide P w r b0 t v) (h : DataW.Trod enc P w base spare held t v d p) :
    ∃ x0 x1 x2 x3 x4 x5 : Int, v = .agg #[.int .i64 x0, .int .i64 x1, .int .i64 x2, .int .i64 x3, .int .i64 x4, .int .i64 x5] ∧ inI x1 ∧ inI x4 := by
  unfold Value.okWide at hv
  rw [ht] at hv
  obtain ⟨cs, rfl, hsz, _⟩ := hv
  rw [hct] at hsz
  obtain ⟨l⟩ := cs
  match l, hsz with
  | [c0, c1, c2, c3, c4, c5], _ =>
    obtain ⟨fuel, hf⟩ := h
    obtain ⟨xs, m, _, _, _, hl, hx⟩ := DataW.trod_array ht hf
    match xs, hl with
    | [y0, y1], _ =>
      have g0 := hx 0 (by omega)
      have g1 := hx 1 (by omega)
      rw [hc] at g0 g1
      simp [Value.cells] at g0 g1
      obtain ⟨x0, x1, x2, rfl, rfl, rfl, _, i1, _⟩ := three_in he hi h0 h1 h2 hone g0
      obtain ⟨x3, x4, x5, rfl, rfl, rfl, _, i4, _⟩ := three_in he hi h0 h1 h2 hone g1
      exact ⟨x0, x1, x2, x3, x4, x5, rfl, i1, i4⟩
end
end Go.Proofs.Ytggnboieenknfaa
