/- MeterSums: each count is the sum of what was added to it, in whichever order: the walk of the law. -/
import Derived.Test.YtjbljdjokgamdaaPs
import Derived.Maps.AppendAt
import Derived.Deep.CutBlock
namespace Go.Proofs.Ytjbljdjokgamdaa
open Go.RowKit
set_option linter.unusedVariables false

/-- Block g holds the structs ys, three cells each; none of its cells is frozen. -/
structure Row3 (W : World) (g : Nat) (ys : List Act3) : Prop where
  c : ∀ k, k < ys.length → W.cell? ⟨g, k * 3, none⟩ = some (.int .i64 (act ys k).o) ∧ W.cell? ⟨g, k * 3 + 1, none⟩ = some (.int .i64 (act ys k).i) ∧ W.cell? ⟨g, k * 3 + 2, none⟩ = some (.int .i64 (act ys k).n)
  f : ∀ j, W.frozen? ⟨g, j, none⟩ = false
  lt : g < W.heap.size
section
variable {w w' : World} {g : Nat} {ys : List Act3}
theorem Row3.grown {row : Option Nat} (h : Row3 w g ys) (hg : w.grownBy w' row) (hne : some g ≠ row) : Row3 w' g ys :=
  have hb := hg.block g h.lt hne
  ⟨fun k hk => by
    obtain ⟨a, b, c⟩ := h.c k hk
    exact ⟨(World.cell?_of_block (a := ⟨g, k * 3, none⟩) hb).trans a, (World.cell?_of_block (a := ⟨g, k * 3 + 1, none⟩) hb).trans b, (World.cell?_of_block (a := ⟨g, k * 3 + 2, none⟩) hb).trans c⟩,
   fun j => (World.frozen?_of_block (a := ⟨g, j, none⟩) hb).trans (h.f j), Nat.lt_of_lt_of_le h.lt hg.size⟩
theorem Row3.below {B : Nat} (h : Row3 w g ys) (hb : Below B w w') (hB : g < B) : Row3 w' g ys :=
  have hb' := hb.block g hB
  ⟨fun k hk => by
    obtain ⟨a, b, c⟩ := h.c k hk
    exact ⟨(World.cell?_of_block (a := ⟨g, k * 3, none⟩) hb').trans a, (World.cell?_of_block (a := ⟨g, k * 3 + 1, none⟩) hb').trans b, (World.cell?_of_block (a := ⟨g, k * 3 + 2, none⟩) hb').trans c⟩,
   fun j => (World.frozen?_of_block (a := ⟨g, j, none⟩) hb').trans (h.f j), Nat.lt_of_lt_of_le h.lt hb.size⟩
end

/-- The cells of the structs zs. -/
def cells3 (zs : List Act3) : List Value := zs.flatMap fun a => [.int .i64 a.o, .int .i64 a.i, .int .i64 a.n]
theorem cells3_length (zs : List Act3) : (cells3 zs).length = zs.length * 3 := by
  induction zs with
  | nil => rfl
  | cons a l ih => simp only [cells3, List.flatMap_cons, List.length_append, List.length_cons, List.length_nil] at *; omega
theorem cells3_get (zs : List Act3) : ∀ k, k < zs.length → (cells3 zs)[k * 3]? = some (.int .i64 (act zs k).o) ∧ (cells3 zs)[k * 3 + 1]? = some (.int .i64 (act zs k).i) ∧ (cells3 zs)[k * 3 + 2]? = some (.int .i64 (act zs k).n) := by
  induction zs with
  | nil => intro k hk; simp at hk
  | cons a l ih =>
    intro k hk
    have e : cells3 (a :: l) = .int .i64 a.o :: .int .i64 a.i :: .int .i64 a.n :: cells3 l := rfl
    cases k with
    | zero => rw [e]; exact ⟨rfl, rfl, rfl⟩
    | succ k =>
      have h := ih k (by simpa using hk)
      have ea : act (a :: l) (k + 1) = act l k := rfl
      rw [e, ea, show (k + 1) * 3 = k * 3 + 3 by omega]
      exact h
theorem cells3_at (zs : List Act3) (j : Nat) (u : Value) (h : (cells3 zs)[j]? = some u) : ∃ k, k < zs.length ∧ ((j = k * 3 ∧ u = .int .i64 (act zs k).o) ∨ (j = k * 3 + 1 ∧ u = .int .i64 (act zs k).i) ∨ (j = k * 3 + 2 ∧ u = .int .i64 (act zs k).n)) := by
  have hl : j < (cells3 zs).length := (List.getElem?_eq_some_iff.1 h).1
  rw [cells3_length] at hl
  have hk : j / 3 < zs.length := by omega
  obtain ⟨a, b, c⟩ := cells3_get zs (j / 3) hk
  refine ⟨j / 3, hk, ?_⟩
  have h3 : j = j / 3 * 3 ∨ j = j / 3 * 3 + 1 ∨ j = j / 3 * 3 + 2 := by omega
  rcases h3 with e | e | e
  · left; refine ⟨e, ?_⟩; rw [e] at h; rw [a] at h; injection h with h; exact h.symm
  · right; left; refine ⟨e, ?_⟩; rw [e] at h; rw [b] at h; injection h with h; exact h.symm
  · right; right; refine ⟨e, ?_⟩; rw [e] at h; rw [c] at h; injection h with h; exact h.symm
theorem cells3_one (zs : List Act3) : ∀ u ∈ cells3 zs, u.oneCell' = true := by
  intro u hu
  obtain ⟨a, _, hu⟩ := List.mem_flatMap.1 hu
  simp at hu
  rcases hu with rfl | rfl | rfl <;> rfl
theorem Row3_of_own {w : World} {base n : Nat} {v : Value} {zs : List Act3} (h : w.ownsRow base 30 3 v n (cells3 zs)) (hp : 0 < zs.length) (hn : n = zs.length) :
    ∃ g cap, v = .slice (some ⟨g, 0, none⟩) n cap ∧ base ≤ g ∧ Row3 w g zs := by
  rcases h.2 with ⟨_, rfl⟩ | ⟨g, cap, cur, rfl, hb, hh, hnc, hm, hs, ht⟩
  · omega
  · refine ⟨g, cap, rfl, hb, fun k hk => ?_, fun j => by simp [World.frozen?, hh], (Array.getElem?_eq_some_iff.1 hh).1⟩
    obtain ⟨a, b, c⟩ := cells3_get zs k hk
    rw [← ht, List.getElem?_take_of_lt (by omega)] at a b c
    refine ⟨?_, ?_, ?_⟩ <;> rw [cell_of_row w g _ cur 30 (0, 0) hh]
    · simpa using a
    · simpa using b
    · simpa using c

/-- A struct is stored at place k of block g. -/
theorem cell_put {W : World} {p q : Addr} {u v : Value} (h : W.cell? q = some v) (hne : p ≠ q) : (W.setCell p u).cell? q = some v := (World.cell?_setCell_other W p q u hne).trans h
theorem addr_ne {g i j : Nat} (h : i ≠ j) : (⟨g, i, none⟩ : Addr) ≠ ⟨g, j, none⟩ := fun e => h (by injection e)
theorem Row3.put3 {W : World} {g : Nat} {ys : List Act3} (h : Row3 W g ys) {k : Nat} (hk : k < ys.length) (a : Act3) :
    Row3 (((W.setCell ⟨g, k * 3, none⟩ (.int .i64 a.o)).setCell ⟨g, k * 3 + 1, none⟩ (.int .i64 a.i)).setCell ⟨g, k * 3 + 2, none⟩ (.int .i64 a.n)) g (ys.set k a) := by
  refine ⟨fun j hj => ?_, fun j => ?_, ?_⟩
  · rw [List.length_set] at hj
    rw [act_set ys hk]
    obtain ⟨c0, c1, c2⟩ := h.c k hk
    by_cases e : k = j
    · subst e
      rw [if_pos rfl]
      have s0 := World.cell?_setCell_same' W ⟨g, k * 3, none⟩ (.int .i64 a.o) (by rw [c0]; rfl)
      have s1 := World.cell?_setCell_same' (W.setCell ⟨g, k * 3, none⟩ (.int .i64 a.o)) ⟨g, k * 3 + 1, none⟩ (.int .i64 a.i) (by rw [cell_put c1 (addr_ne (by omega))]; rfl)
      have s2 := World.cell?_setCell_same' ((W.setCell ⟨g, k * 3, none⟩ (.int .i64 a.o)).setCell ⟨g, k * 3 + 1, none⟩ (.int .i64 a.i)) ⟨g, k * 3 + 2, none⟩ (.int .i64 a.n) (by rw [cell_put (cell_put c2 (addr_ne (by omega))) (addr_ne (by omega))]; rfl)
      exact ⟨cell_put (cell_put s0 (addr_ne (by omega))) (addr_ne (by omega)), cell_put s1 (addr_ne (by omega)), s2⟩
    · rw [if_neg e]
      obtain ⟨d0, d1, d2⟩ := h.c j hj
      exact ⟨cell_put (cell_put (cell_put d0 (addr_ne (by omega))) (addr_ne (by omega))) (addr_ne (by omega)), cell_put (cell_put (cell_put d1 (addr_ne (by omega))) (addr_ne (by omega))) (addr_ne (by omega)),
        cell_put (cell_put (cell_put d2 (addr_ne (by omega))) (addr_ne (by omega))) (addr_ne (by omega))⟩
  · rw [World.frozen?_setCell, World.frozen?_setCell, World.frozen?_setCell]; exact h.f j
  · have := h.lt; simpa [World.setCell] using this
theorem Row3.drew {W : World} {g : Nat} {ys : List Act3} (h : Row3 W g ys) : Row3 W.drew g ys := ⟨h.c, h.f, h.lt⟩
theorem grown_put3 (W : World) (g i j k : Nat) (a b c : Value) : W.grownBy (((W.setCell ⟨g, i, none⟩ a).setCell ⟨g, j, none⟩ b).setCell ⟨g, k, none⟩ c) (some g) :=
  grown_more (grown_more (grown_put W g i a) (.inl rfl) b) (.inl rfl) c
theorem grown_trans {a b c : World} {r : Option Nat} (h : a.grownBy b r) (k : b.grownBy c r) : a.grownBy c r :=
  ⟨k.os.trans h.os, k.tape.trans h.tape, k.output.trans h.output, Nat.le_trans h.size k.size, fun i hi hne => (k.block i (Nat.lt_of_lt_of_le hi h.size) hne).trans (h.block i hi hne)⟩
theorem grown_drew {a b : World} {r : Option Nat} (h : a.grownBy b r) : a.grownBy b.drew r := ⟨h.os, h.tape, h.output, h.size, h.block⟩

theorem Try.info30 : (Try.prog.info? 30).map (fun i => (i.zero, i.size, i.bytes)) = some (some (.agg #[.int .i64 0, .int .i64 0, .int .i64 0]), 3, 24) := by kernel_rfl
end Go.Proofs.Ytjbljdjokgamdaa
