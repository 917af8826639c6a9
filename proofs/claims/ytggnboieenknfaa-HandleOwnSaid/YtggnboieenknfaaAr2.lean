/- Arguments opened: an array of two by value (two whole numbers; two slices of structs of three whole numbers). -/
import Derived.Test.YtggnboieenknfaaAr
namespace Go.Proofs.Ytggnboieenknfaa
open Go.RowKit Go.ChangeShapes Go.WideShapes Go.Deep
set_option linter.unusedVariables false

section
variable {H : Type} {enc : TypeId × Value → H} {P : Program} {w : World}
theorem pair_in {t e : TypeId} {r : Reach} {b0 base : Nat} {spare : Nat → Bool} {held : Bool} {v : Value} {d : DataW H} {p : List MemPlace} (ht : P.underlying t = some (.array 2 e)) (hc : P.cellsOf e = 1) (hct : P.cellsOf t = 2)
    (hv : Value.okWide P w r b0 t v) (h : DataW.Trod enc P w base spare held t v d p) :
    ∃ (c0 c1 : Value) (m : Nat) (y0 y1 : DataW H × List MemPlace), v = .agg #[c0, c1] ∧ DataW.trod enc P w base spare held m e [c0] = some y0 ∧ DataW.trod enc P w base spare held m e [c1] = some y1 := by
  unfold Value.okWide at hv
  rw [ht] at hv
  obtain ⟨cs, rfl, hsz, _⟩ := hv
  rw [hct] at hsz
  obtain ⟨l⟩ := cs
  match l, hsz with
  | [c0, c1], _ =>
    obtain ⟨fuel, hf⟩ := h
    obtain ⟨xs, m, _, _, _, hl, hx⟩ := DataW.trod_array ht hf
    match xs, hl with
    | [y0, y1], _ =>
      have g0 := hx 0 (by omega)
      have g1 := hx 1 (by omega)
      rw [hc] at g0 g1
      exact ⟨c0, c1, m, y0, y1, rfl, by simpa [Value.cells] using g0, by simpa [Value.cells] using g1⟩

theorem acts_cell {t e i64 : TypeId} {n0 n1 n2 : Field} {m : Nat} {c : Value} {x : DataW H × List MemPlace} (ht : P.underlying t = some (.slice e)) (he : P.underlying e = some (.struct #[n0, n1, n2]))
    (hi : P.underlying i64 = some (.int .i64)) (h0 : n0.type = i64) (h1 : n1.type = i64) (h2 : n2.type = i64)
    (hone : oneCellFields P #[n0, n1, n2] = true) (hC : P.cellsOf e = 3) (h : DataW.trod enc P w 0 (fun _ => true) true m t [c] = some x) :
    ∃ A len cap zs, c = .slice A len cap ∧ ActsIn w A len zs := by
  obtain ⟨A, len, cap, rfl⟩ : ∃ A len cap, c = .slice A len cap := by
    rcases open_slice ht h with ⟨hcs, _⟩ | ⟨a, l, cp, _, _, _, _, hcs, _⟩
    · exact ⟨_, _, _, by simpa using hcs⟩
    · exact ⟨_, _, _, by simpa using hcs⟩
  obtain ⟨zs, hz⟩ := acts_in (enc := enc) (d := x.1) (p := x.2) (cap := cap) ht he hi h0 h1 h2 hone hC ⟨m, by simpa [Value.cells] using h⟩
  exact ⟨A, len, cap, zs, rfl, hz⟩
end
end Go.Proofs.Ytggnboieenknfaa
