/- A nil table; three tables beside each other. -/
import Derived.Test.YtggnboieenknfaaHl
namespace Go.Proofs.Ytggnboieenknfaa
open Go.RowKit Go.Maps
set_option linter.unusedVariables false

theorem HLive_nil (x : Int) (w : World) : Calls Try.prog 12 #[.pointer none, .int .i64 x] w fun e w' => e = .returned (.bool false) ∧ w = w' := by
  go_enter Try.func12, Try.ntmps12
  go_wp2_with fail
  go_ret
  exact ⟨rfl, rfl⟩
theorem HLen_nil (w : World) : Calls Try.prog 14 #[.pointer none] w fun e w' => e = .returned (.int .i64 0) ∧ w = w' := by
  go_enter Try.func14, Try.ntmps14
  go_wp2_with fail
  go_ret
  exact ⟨rfl, rfl⟩
theorem HTaken_nil (w : World) : Calls Try.prog 16 #[.pointer none] w fun e w' => e = .returned (.int .i64 0) ∧ w = w' := by
  go_enter Try.func16, Try.ntmps16
  go_wp2_with fail
  go_ret
  exact ⟨rfl, rfl⟩
theorem HAll_nil (w : World) : Calls Try.prog 18 #[.pointer none] w fun e w' => e = .returned (.slice none 0 0) ∧ w = w' := by
  refine (callsIn_wide (n := 3)).1 ?_
  refine callsIn_of_wp_marks Try.func18 rfl trivial ?_ rfl
  simp only [Try.ntmps18, List.size_toArray, List.length_cons, List.length_nil, Nat.reduceAdd, Nat.reduceSub, Array.replicate_succ, Array.replicate_zero, List.push_toArray, List.append_toArray, List.nil_append, List.cons_append]
  gi_wp2_with fail
  exact ⟨_, results_tmp rfl _ _ _, rfl, rfl⟩
theorem HClone_nil (w : World) : Calls Try.prog 19 #[.pointer none] w fun e w' => e = .returned (.pointer none) ∧ w = w' := by
  go_enter Try.func19, Try.ntmps19
  go_wp2_with fail
  go_ret
  exact ⟨rfl, rfl⟩
theorem Hlook_nil (x : Int) (w : World) : Calls Try.prog 31 #[.pointer none, .int .i64 x] w fun e w' => e = .returned (.int .i64 2) ∧ w = w' := by
  go_enter Try.func31, Try.ntmps31
  go_wp2_with fail
  go_ret
  exact ⟨rfl, rfl⟩
theorem HSlot_nil (x : Int) (w : World) : Calls Try.prog 20 #[.pointer none, .int .i64 x] w fun e w' => e = .returned (.tuple #[.int .i64 0, .int .i64 2]) ∧ w = w' := by
  have hl := Hlook_nil x w
  go_enter Try.func20, Try.ntmps20
  go_wp2_with fail
  refine hl.mono ?_
  rintro e w1 ⟨rfl, rfl⟩
  go_wp2_with fail
  go_ret2
  exact ⟨rfl, rfl⟩
theorem HTake_nil (x : Int) (w : World) : Calls Try.prog 21 #[.pointer none, .int .i64 x] w fun e w' => e = .returned (.tuple #[.int .i64 0, .int .i64 2]) ∧ w = w' := by
  go_enter Try.func21, Try.ntmps21
  go_wp2_with fail
  go_ret2
  exact ⟨rfl, rfl⟩
theorem HMove_nil (x s : Int) (w : World) : Calls Try.prog 22 #[.pointer none, .int .i64 x, .int .i64 s] w fun e w' => e = .returned (.int .i64 2) ∧ w = w' := by
  have hl := Hlook_nil x w
  go_enter Try.func22, Try.ntmps22
  go_wp2_with fail
  refine hl.mono ?_
  rintro e w1 ⟨rfl, rfl⟩
  go_wp2_with fail
  go_ret
  exact ⟨rfl, rfl⟩
theorem HFree_nil (x : Int) (w : World) : Calls Try.prog 23 #[.pointer none, .int .i64 x] w fun e w' => e = .returned (.int .i64 2) ∧ w = w' := by
  have hl := Hlook_nil x w
  go_enter Try.func23, Try.ntmps23
  go_wp2_with fail
  refine hl.mono ?_
  rintro e w1 ⟨rfl, rfl⟩
  go_wp2_with fail
  go_ret
  exact ⟨rfl, rfl⟩

theorem OL.ri {w : World} {base n cap : Nat} {A : Option Addr} {r : List Int} (h : OL w base (.slice A n cap) r) : RI w A r := by
  obtain ⟨A', c', e, hr⟩ := h.form
  injection e with e1 e2 e3
  rw [e1]; exact hr
/-- Two tables. -/
structure Bi (a : World) (P b P2 b2 : Nat) (x y : List Int) (W : World) : Prop where
  t1 : TM W P b x
  t2 : TM W P2 b2 y
  be : Below a.heap.size a W
/-- Three tables, and a list of its own. -/
structure Tri (a : World) (P b P2 b2 P3 b3 base : Nat) (x y z : List Int) (v : Value) (l : List Int) (W : World) : Prop where
  t1 : TM W P b x
  t2 : TM W P2 b2 y
  t3 : TM W P3 b3 z
  ol : OL W base v l
  be : Below a.heap.size a W
section
variable {a : World} {P b P2 b2 P3 b3 base : Nat} {x y z l : List Int} {v : Value} {W W' : World}
theorem Bi.acts {len k ab off : Nat} {zs : List Act3} (h : Bi a P b P2 b2 x y W) (hz : ActsIn a (some ⟨ab, off, none⟩) len zs) (hk : k < len) :
    W.cell? ⟨ab, off + k * 3, none⟩ = some (.int .i64 (act zs k).o) ∧ W.cell? ⟨ab, off + k * 3 + 1, none⟩ = some (.int .i64 (act zs k).i) ∧ W.cell? ⟨ab, off + k * 3 + 2, none⟩ = some (.int .i64 (act zs k).n) := by
  obtain ⟨b', off', e, h0, h1, h2⟩ := (hz.below h.be).at_ hk
  injection e with e
  injection e with e1 e2
  subst e1 e2
  exact ⟨h0, h1, h2⟩
theorem Bi.does1 (h : Bi a P b P2 b2 x y W) (hx : x.length ≤ 1000000) (h1 : a.heap.size ≤ b) (h2 : b < P) (h3 : P < b2) (h4 : b2 < P2) (o : Int) {i : Int} (hi : inB i) (n : Int) :
    Calls Try.prog 10 #[.pointer (some ⟨P, 0, none⟩), .agg #[.int .i64 o, .int .i64 i, .int .i64 n]] W fun e w' =>
      e = .returned (.tuple #[.int .i64 (actH x o i n).2.1, .int .i64 (actH x o i n).2.2]) ∧ Bi a P b P2 b2 (actH x o i n).1 y w' := by
  obtain ⟨ht, hu, hbe⟩ := h
  refine (does_any ht hx o hi n).mono ?_
  rintro e w' ⟨rfl, ht', hk⟩
  exact ⟨rfl, ht', hu.turn hk (by omega) (by omega) (by omega) (by omega), hk.below hbe hbe.size (by omega) (by omega)⟩
theorem Bi.does2 (h : Bi a P b P2 b2 x y W) (hy : y.length ≤ 1000000) (h1 : a.heap.size ≤ b) (h2 : b < P) (h3 : P < b2) (h4 : b2 < P2) (o : Int) {i : Int} (hi : inB i) (n : Int) :
    Calls Try.prog 10 #[.pointer (some ⟨P2, 0, none⟩), .agg #[.int .i64 o, .int .i64 i, .int .i64 n]] W fun e w' =>
      e = .returned (.tuple #[.int .i64 (actH y o i n).2.1, .int .i64 (actH y o i n).2.2]) ∧ Bi a P b P2 b2 x (actH y o i n).1 w' := by
  obtain ⟨ht, hu, hbe⟩ := h
  refine (does_any hu hy o hi n).mono ?_
  rintro e w' ⟨rfl, ht', hk⟩
  exact ⟨rfl, ht.turn hk (by omega) (by omega) (by omega) (by omega), ht', hk.below hbe hbe.size (by omega) (by omega)⟩
theorem Tri.below (h : Tri a P b P2 b2 P3 b3 base x y z v l W) (hb : Below W.heap.size W W') : Tri a P b P2 b2 P3 b3 base x y z v l W' :=
  ⟨h.t1.below hb, h.t2.below hb, h.t3.below hb, h.ol.below hb, h.be.trans (hb.mono h.be.size)⟩
theorem Tri.does3 (h : Tri a P b P2 b2 P3 b3 base x y z v l W) (hz : z.length ≤ 1000000) (h1 : a.heap.size ≤ b) (h2 : b < P) (h3 : P < b2) (h4 : b2 < P2) (h5 : P2 < b3) (h6 : b3 < P3) (h7 : P3 < base) (o : Int) {i : Int} (hi : inB i) (n : Int) :
    Calls Try.prog 10 #[.pointer (some ⟨P3, 0, none⟩), .agg #[.int .i64 o, .int .i64 i, .int .i64 n]] W fun e w' =>
      e = .returned (.tuple #[.int .i64 (actH z o i n).2.1, .int .i64 (actH z o i n).2.2]) ∧ Tri a P b P2 b2 P3 b3 base x y (actH z o i n).1 v l w' := by
  obtain ⟨ht, hu, hv, hl, hbe⟩ := h
  refine (does_any hv hz o hi n).mono ?_
  rintro e w' ⟨rfl, ht', hk⟩
  exact ⟨rfl, ht.turn hk (by omega) (by omega) (by omega) (by omega), hu.turn hk (by omega) (by omega) (by omega) (by omega), ht', hl.turn hk h7 (by omega), hk.below hbe hbe.size (by omega) (by omega)⟩
end
end Go.Proofs.Ytggnboieenknfaa
