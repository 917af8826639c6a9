/- The table and the document's table beside each other; what a list of calls comes to. -/
import Derived.Test.YtggnboieenknfaaHh
import Derived.Test.YtggnboieenknfaaAr
namespace Go.Proofs.Ytggnboieenknfaa
open Go.RowKit Go.Maps
set_option linter.unusedVariables false

theorem takeV_len (r : List Int) (x : Int) : (takeV r x).1.length ≤ r.length + 1 := by unfold takeV; split <;> simp
theorem moveV_len (r : List Int) (y x : Int) : (moveV r y x).1.length = r.length := by unfold moveV; split <;> (try split) <;> simp
theorem freeV_len (r : List Int) (y : Int) : (freeV r y).1.length = r.length := by unfold freeV; split <;> simp
theorem actH_len (r : List Int) (o y s : Int) : (actH r o y s).1.length ≤ r.length + 1 := by
  have h1 := takeV_len r s
  have h2 := moveV_len r y s
  have h3 := freeV_len r y
  unfold actH
  split
  · exact h1
  · split
    · simp only; omega
    · split
      · simp only; omega
      · simp only; omega
/-- The list behind the first k calls, from r on. -/
def playF (r : List Int) (zs : List Act3) : Nat → List Int
  | 0 => r
  | k + 1 => (actH (playF r zs k) (act zs k).o (act zs k).i (act zs k).n).1
theorem playF_len (r : List Int) (zs : List Act3) (k : Nat) : (playF r zs k).length ≤ r.length + k := by
  induction k with
  | zero => exact Nat.le_refl _
  | succ k ih => have := actH_len (playF r zs k) (act zs k).o (act zs k).i (act zs k).n; unfold playF; omega

theorem TM.belowB {w w' : World} {p b B : Nat} {r : List Int} (h : TM w p b r) (hb : Below B w w') (h1 : p < B) (h2 : b < B) : TM w' p b r := ⟨h.hp.below hb h1, h.hm.below hb h2⟩
/-- The table and the document's table: what a call of either leaves. -/
structure Two (a : World) (P b g base : Nat) (x y : List Int) (W : World) : Prop where
  tm : TM W P b x
  rm : RM W g base y
  be : Below a.heap.size a W
theorem Two.drewN {a : World} {P b g base : Nat} {x y : List Int} {W : World} (h : Two a P b g base x y W) (n : Nat) : Two a P b g base x y (W.drewN n) := ⟨h.tm.drewN n, h.rm.drewN n, below_drewN h.be n⟩
theorem Two.below {a : World} {P b g base : Nat} {x y : List Int} {W W' : World} (h : Two a P b g base x y W) (hb : Below W.heap.size W W') : Two a P b g base x y W' :=
  ⟨h.tm.below hb, h.rm.below hb, h.be.trans (hb.mono h.be.size)⟩
theorem Two.acts {a : World} {P b g base len k ab off : Nat} {x y : List Int} {zs : List Act3} {W : World} (h : Two a P b g base x y W) (hz : ActsIn a (some ⟨ab, off, none⟩) len zs) (hk : k < len) :
    W.cell? ⟨ab, off + k * 3, none⟩ = some (.int .i64 (act zs k).o) ∧ W.cell? ⟨ab, off + k * 3 + 1, none⟩ = some (.int .i64 (act zs k).i) ∧ W.cell? ⟨ab, off + k * 3 + 2, none⟩ = some (.int .i64 (act zs k).n) := by
  obtain ⟨b', off', e, h0, h1, h2⟩ := (hz.below h.be).at_ hk
  injection e with e
  injection e with e1 e2
  subst e1 e2
  exact ⟨h0, h1, h2⟩
theorem two_does {a : World} {P b g base : Nat} {x y : List Int} {W : World} (h : Two a P b g base x y W) (hx : x.length ≤ 1000000) (h1 : P < base) (h2 : b < base) (h3 : a.heap.size ≤ P) (h4 : a.heap.size ≤ b) (o : Int) {i : Int} (hi : inB i) (n : Int) :
    Calls Try.prog 10 #[.pointer (some ⟨P, 0, none⟩), .agg #[.int .i64 o, .int .i64 i, .int .i64 n]] W fun e w' =>
      e = .returned (.tuple #[.int .i64 (actH x o i n).2.1, .int .i64 (actH x o i n).2.2]) ∧ Two a P b g base (actH x o i n).1 y w' := by
  obtain ⟨ht, hr, hb⟩ := h
  refine (does_any ht hx o hi n).mono ?_
  rintro e w' ⟨rfl, ht', hk⟩
  exact ⟨rfl, ht', hr.turn hk h1 h2, hk.below hb hb.size h3 h4⟩
theorem two_plays {a : World} {P b g base : Nat} {x y : List Int} {W : World} (h : Two a P b g base x y W) (hy : y.length ≤ 1000000) (h1 : P < base) (h2 : b < base) (h3 : a.heap.size ≤ base) (o i n : Int) :
    Calls Try.prog 11 #[.pointer (some ⟨g, 0, none⟩), .agg #[.int .i64 o, .int .i64 i, .int .i64 n]] W fun e w' =>
      e = .returned (.tuple #[.int .i64 (actH y o i n).2.1, .int .i64 (actH y o i n).2.2]) ∧ Two a P b g base x (actH y o i n).1 w' := by
  obtain ⟨ht, hr, hb⟩ := h
  refine (plays_any hr hy o i n).mono ?_
  rintro e w' ⟨rfl, hr', hk⟩
  exact ⟨rfl, ht.belowB hk h1 h2, hr', hb.trans (hk.mono h3)⟩
theorem RAll_n {w : World} {g base : Nat} {r : List Int} (h : RM w g base r) (hr : r.length ≤ 1000000) :
    Calls Try.prog 15 #[.pointer (some ⟨g, 0, none⟩)] w fun e w' => (∃ A cap, e = .returned (.slice A (cntL r) cap) ∧ RI w' A (liveL r)) ∧ Below w.heap.size w w' := by
  refine (RAll_ok h hr).mono ?_
  rintro e w' ⟨⟨v, rfl, ho⟩, hb⟩
  obtain ⟨A, cap, rfl, hR⟩ := ho.form
  rw [liveL_length]
  exact ⟨⟨A, cap, rfl, hR⟩, hb⟩
theorem HAll_n {w : World} {p b : Nat} {r : List Int} (h : TM w p b r) (hr : r.length ≤ 1000000) :
    Calls Try.prog 18 #[.pointer (some ⟨p, 0, none⟩)] w fun e w' => (∃ A cap, e = .returned (.slice A (cntL r) cap) ∧ RI w' A (liveL r)) ∧ Below w.heap.size w w' := by
  refine (HAll_ok h hr).mono ?_
  rintro e w' ⟨⟨v, rfl, ho⟩, hb⟩
  obtain ⟨A, cap, rfl, hR⟩ := ho.form
  rw [liveL_length]
  exact ⟨⟨A, cap, rfl, hR⟩, hb⟩
theorem RM.at_ {w : World} {g base : Nat} {r : List Int} (h : RM w g base r) : ∃ A cap, w.cell? ⟨g, 0, none⟩ = some (.slice A r.length cap) := by
  obtain ⟨_, v, hv, ho⟩ := h
  obtain ⟨A, cap, rfl, _⟩ := ho.form
  exact ⟨A, cap, hv.cell⟩
end Go.Proofs.Ytggnboieenknfaa
