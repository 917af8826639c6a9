/- Two tables beside each other. -/
import Derived.Test.YtggnboieenknfaaHk
namespace Go.Proofs.Ytggnboieenknfaa
open Go.RowKit Go.Maps
set_option linter.unusedVariables false

/-- A table, and a block of the caller's. -/
structure Solo (a : World) (X : Nat) (t : TypeId) (cs : Array Value) (P b : Nat) (x : List Int) (W : World) : Prop where
  bx : Blk W X t cs
  tm : TM W P b x
  be : Below a.heap.size a W
theorem Solo.does {a : World} {X : Nat} {t : TypeId} {cs : Array Value} {P b : Nat} {x : List Int} {W : World} (h : Solo a X t cs P b x W) (hx : x.length ≤ 1000000) (h0 : a.heap.size ≤ X) (h1 : X < b) (h2 : b < P) (o : Int) {i : Int} (hi : inB i) (n : Int) :
    Calls Try.prog 10 #[.pointer (some ⟨P, 0, none⟩), .agg #[.int .i64 o, .int .i64 i, .int .i64 n]] W fun e w' =>
      e = .returned (.tuple #[.int .i64 (actH x o i n).2.1, .int .i64 (actH x o i n).2.2]) ∧ Solo a X t cs P b (actH x o i n).1 w' := by
  obtain ⟨hb, ht, hbe⟩ := h
  refine (does_any ht hx o hi n).mono ?_
  rintro e w' ⟨rfl, ht', hk⟩
  exact ⟨rfl, hb.turn hk (by omega) (by omega), ht', hk.below hbe hbe.size (by omega) (by omega)⟩
theorem Solo.acts {a : World} {X : Nat} {t : TypeId} {cs : Array Value} {P b len k ab off : Nat} {x : List Int} {zs : List Act3} {W : World} (h : Solo a X t cs P b x W) (hz : ActsIn a (some ⟨ab, off, none⟩) len zs) (hk : k < len) :
    W.cell? ⟨ab, off + k * 3, none⟩ = some (.int .i64 (act zs k).o) ∧ W.cell? ⟨ab, off + k * 3 + 1, none⟩ = some (.int .i64 (act zs k).i) ∧ W.cell? ⟨ab, off + k * 3 + 2, none⟩ = some (.int .i64 (act zs k).n) := by
  obtain ⟨b', off', e, h0, h1, h2⟩ := (hz.below h.be).at_ hk
  injection e with e
  injection e with e1 e2
  subst e1 e2
  exact ⟨h0, h1, h2⟩
/-- A table, another one, and a block of the caller's. -/
structure Duo (a : World) (X : Nat) (t : TypeId) (cs : Array Value) (P b P2 b2 : Nat) (x y : List Int) (W : World) : Prop where
  bx : Blk W X t cs
  t1 : TM W P b x
  t2 : TM W P2 b2 y
  be : Below a.heap.size a W
section
variable {a : World} {X : Nat} {t : TypeId} {cs : Array Value} {P b P2 b2 : Nat} {x y : List Int} {W W' : World}
theorem Duo.below (h : Duo a X t cs P b P2 b2 x y W) (hb : Below W.heap.size W W') : Duo a X t cs P b P2 b2 x y W' := ⟨h.bx.below hb h.bx.lt, h.t1.below hb, h.t2.below hb, h.be.trans (hb.mono h.be.size)⟩
theorem Duo.drewN (h : Duo a X t cs P b P2 b2 x y W) (n : Nat) : Duo a X t cs P b P2 b2 x y (W.drewN n) := ⟨h.bx.drewN n, h.t1.drewN n, h.t2.drewN n, below_drewN h.be n⟩
theorem Duo.does1 (h : Duo a X t cs P b P2 b2 x y W) (hx : x.length ≤ 1000000) (h0 : a.heap.size ≤ X) (h1 : X < b) (h2 : b < P) (h3 : P < b2) (h4 : b2 < P2) (o : Int) {i : Int} (hi : inB i) (n : Int) :
    Calls Try.prog 10 #[.pointer (some ⟨P, 0, none⟩), .agg #[.int .i64 o, .int .i64 i, .int .i64 n]] W fun e w' =>
      e = .returned (.tuple #[.int .i64 (actH x o i n).2.1, .int .i64 (actH x o i n).2.2]) ∧ Duo a X t cs P b P2 b2 (actH x o i n).1 y w' := by
  obtain ⟨hb, ht, hu, hbe⟩ := h
  refine (does_any ht hx o hi n).mono ?_
  rintro e w' ⟨rfl, ht', hk⟩
  exact ⟨rfl, hb.turn hk (by omega) (by omega), ht', hu.turn hk (by omega) (by omega) (by omega) (by omega), hk.below hbe hbe.size (by omega) (by omega)⟩
theorem Duo.does2 (h : Duo a X t cs P b P2 b2 x y W) (hy : y.length ≤ 1000000) (h0 : a.heap.size ≤ X) (h1 : X < b) (h2 : b < P) (h3 : P < b2) (h4 : b2 < P2) (o : Int) {i : Int} (hi : inB i) (n : Int) :
    Calls Try.prog 10 #[.pointer (some ⟨P2, 0, none⟩), .agg #[.int .i64 o, .int .i64 i, .int .i64 n]] W fun e w' =>
      e = .returned (.tuple #[.int .i64 (actH y o i n).2.1, .int .i64 (actH y o i n).2.2]) ∧ Duo a X t cs P b P2 b2 x (actH y o i n).1 w' := by
  obtain ⟨hb, ht, hu, hbe⟩ := h
  refine (does_any hu hy o hi n).mono ?_
  rintro e w' ⟨rfl, ht', hk⟩
  exact ⟨rfl, hb.turn hk (by omega) (by omega), ht.turn hk (by omega) (by omega) (by omega) (by omega), ht', hk.below hbe hbe.size (by omega) (by omega)⟩
theorem Duo.acts {len k ab off : Nat} {zs : List Act3} (h : Duo a X t cs P b P2 b2 x y W) (hz : ActsIn a (some ⟨ab, off, none⟩) len zs) (hk : k < len) :
    W.cell? ⟨ab, off + k * 3, none⟩ = some (.int .i64 (act zs k).o) ∧ W.cell? ⟨ab, off + k * 3 + 1, none⟩ = some (.int .i64 (act zs k).i) ∧ W.cell? ⟨ab, off + k * 3 + 2, none⟩ = some (.int .i64 (act zs k).n) := by
  obtain ⟨b', off', e, h0, h1, h2⟩ := (hz.below h.be).at_ hk
  injection e with e
  injection e with e1 e2
  subst e1 e2
  exact ⟨h0, h1, h2⟩
theorem Solo.clone {P' b' : Nat} (h : Solo a X t cs P b x W) (hb : Below W.heap.size W W') (hu : TM W' P' b' x) : Duo a X t cs P b P' b' x x W' :=
  ⟨h.bx.below hb h.bx.lt, h.tm.below hb, hu, h.be.trans (hb.mono h.be.size)⟩
end
/-- The handles on the list of the live ones are live. -/
theorem liveL_at {q : List Int} (hq : q.length ≤ 1000000) {k : Nat} (h : k < cntL q) : live q (nth (liveL q) k) = true ∧ inB (nth (liveL q) k) := by
  have h' : k < (liveL q).length := by rw [liveL_length]; exact h
  have hm : nth (liveL q) k ∈ liveL q := by rw [nth_eq h']; exact List.getElem_mem h'
  have hl := liveL_mem.1 hm
  refine ⟨hl, ?_⟩
  obtain ⟨j, e, hj, _⟩ := live_true hl
  rw [e]
  exact ⟨by omega, by omega⟩
end Go.Proofs.Ytggnboieenknfaa
