/- What each method of the meter does to the two blocks of a meter: the struct and its counts. -/
import Derived.Test.YtjbljdjokgamdaaKa
import Derived.Laws.LoneSync
import Derived.WalkSpells
import Derived.OwnWalk
import Derived.Laws.NewBlocks
namespace Go.Proofs.Ytjbljdjokgamdaa
open Go.RowKit
set_option linter.unusedVariables false

/-- Block g is just the cells cs of element type t, none of them frozen. -/
def Blk (w : World) (g : Nat) (t : TypeId) (cs : Array Value) : Prop := w.heap[g]? = some (.cells cs t (0, 0))

section
variable {w w' : World} {g : Nat} {t : TypeId} {cs : Array Value}
theorem Blk.lt (h : Blk w g t cs) : g < w.heap.size := (Array.getElem?_eq_some_iff.1 h).1
theorem Blk.cell (h : Blk w g t cs) (i : Nat) : w.cell? ⟨g, i, none⟩ = cs[i]? := cell_of_row w g i cs t (0, 0) h
theorem Blk.frozen (h : Blk w g t cs) (i : Nat) : w.frozen? ⟨g, i, none⟩ = false := by
  unfold Blk at h
  simp [World.frozen?, h]
theorem Blk.made (w : World) (t : TypeId) (cs : Array Value) : Blk (w.alloc (.cells cs t)) w.heap.size t cs := heap_alloc_new w _
theorem Blk.drewN (h : Blk w g t cs) (n : Nat) : Blk (w.drewN n) g t cs := h
theorem Blk.alloc (h : Blk w g t cs) (o : Obj) : Blk (w.alloc o) g t cs := (Below.heap_alloc w o g h.lt).trans h
theorem Blk.put (h : Blk w g t cs) (i : Nat) (u : Value) : Blk (w.setCell ⟨g, i, none⟩ u) g t (cs.setIfInBounds i u) := by
  unfold Blk at h ⊢
  simp [World.setCell, Array.getElem?_modify, h]
theorem Blk.far (h : Blk w g t cs) {p : Addr} (hp : g ≠ p.block) (u : Value) : Blk (w.setCell p u) g t cs := (Below.heap_setCell w p u g hp).trans h
theorem Blk.below {B : Nat} (h : Blk w g t cs) (hb : Below B w w') (hg : g < B) : Blk w' g t cs := (hb.block g hg).trans h
theorem Blk.grown {row : Option Nat} (h : Blk w g t cs) (hb : w.grownBy w' row) (hg : some g ≠ row) : Blk w' g t cs := (hb.block g h.lt hg).trans h
end

/-- A list of numbers as the cells of a block. -/
def cells (xs : List Int) : Array Value := (xs.map (Value.int .i64)).toArray
theorem cells_get {xs : List Int} {k : Nat} (h : k < xs.length) : (cells xs)[k]? = some (.int .i64 (nth xs k)) := by
  simp [cells, h, nth_eq h]
theorem cells_put (xs : List Int) (k : Nat) (x : Int) : (cells xs).setIfInBounds k (.int .i64 x) = cells (xs.set k x) := by
  simp [cells, List.map_set]

/-- A meter: its struct lies in block s, its counts are block d. -/
structure Met (w : World) (s d : Nat) (xs : List Int) : Prop where
  st : Blk w s 46 #[.slice (some ⟨d, 0, none⟩) xs.length xs.length]
  row : Blk w d 59 (cells xs)

section
variable {w w' : World} {s d : Nat} {xs : List Int}
theorem Met.ne (h : Met w s d xs) : s ≠ d := by
  rintro rfl
  have a := h.st
  have b := h.row
  unfold Blk at a b
  rw [a] at b
  injection b with b
  injection b with _ ht
  cases ht
theorem Met.c0 (h : Met w s d xs) : w.cell? ⟨s, 0, none⟩ = some (.slice (some ⟨d, 0, none⟩) xs.length xs.length) := by rw [h.st.cell]; rfl
theorem Met.c1 (h : Met w s d xs) {k : Nat} (hk : k < xs.length) : w.cell? ⟨d, k, none⟩ = some (.int .i64 (nth xs k)) := by rw [h.row.cell, cells_get hk]
theorem Met.f1 (h : Met w s d xs) (k : Nat) : w.frozen? ⟨d, k, none⟩ = false := h.row.frozen k
theorem Met.grown {row : Option Nat} (h : Met w s d xs) (hg : w.grownBy w' row) (hs : some s ≠ row) (hd : some d ≠ row) : Met w' s d xs := ⟨h.st.grown hg hs, h.row.grown hg hd⟩
theorem Met.below {B : Nat} (h : Met w s d xs) (hb : Below B w w') (hs : s < B) (hd : d < B) : Met w' s d xs := ⟨h.st.below hb hs, h.row.below hb hd⟩
theorem Met.put (h : Met w s d xs) (k : Nat) (x : Int) : Met (w.setCell ⟨d, k, none⟩ (.int .i64 x)) s d (xs.set k x) :=
  ⟨by have := h.st.far (p := ⟨d, k, none⟩) h.ne (.int .i64 x); simpa using this, by have := h.row.put k (.int .i64 x); rwa [cells_put] at this⟩
theorem Met.drewN (h : Met w s d xs) (n : Nat) : Met (w.drewN n) s d xs := ⟨h.st, h.row⟩
theorem Met.alloc (h : Met w s d xs) (o : Obj) : Met (w.alloc o) s d xs := ⟨h.st.alloc o, h.row.alloc o⟩
end

theorem grown_put (w : World) (d k : Nat) (u : Value) : w.grownBy (w.setCell ⟨d, k, none⟩ u) (some d) :=
  ⟨rfl, rfl, rfl, by simp [World.setCell], fun i _ hne => Below.heap_setCell _ _ _ _ (by rintro rfl; exact hne rfl)⟩

theorem at_nil (i : Int) (w : World) :
    Calls Try.prog 18 #[.pointer none, .int .i64 i] w fun e w' => e = .returned (.tuple #[.pointer none, .int .i64 2]) ∧ w = w' := by
  go_enter Try.func18, Try.ntmps18
  go_wp2
  go_ret2
  exact ⟨rfl, rfl⟩

theorem at_out (s d : Nat) (xs : List Int) (i : Int) (w : World) (h : Met w s d xs) (hi : i < 0 ∨ (xs.length : Int) ≤ i) :
    Calls Try.prog 18 #[.pointer (some ⟨s, 0, none⟩), .int .i64 i] w fun e w' => e = .returned (.tuple #[.pointer none, .int .i64 10]) ∧ w = w' := by
  have c0 := h.c0
  by_cases h0 : i < 0
  · go_enter Try.func18, Try.ntmps18
    go_wp2
    go_ret2
    exact ⟨rfl, rfl⟩
  · have h1 : (xs.length : Int) ≤ i := by omega
    clear hi
    go_enter Try.func18, Try.ntmps18
    go_wp2
    go_ret2
    exact ⟨rfl, rfl⟩

theorem at_in (s d : Nat) (xs : List Int) (k : Nat) (w : World) (h : Met w s d xs) (hk : k < xs.length) :
    Calls Try.prog 18 #[.pointer (some ⟨s, 0, none⟩), .int .i64 k] w fun e w' => e = .returned (.tuple #[.pointer (some ⟨d, k, none⟩), .int .i64 0]) ∧ w = w' := by
  have c0 := h.c0
  have h0 : (0 : Int) ≤ (k : Int) := by omega
  have h1 : (k : Int) < (xs.length : Int) := by omega
  go_enter Try.func18, Try.ntmps18
  go_wp2
  go_ret2
  exact ⟨rfl, rfl⟩

theorem run_call_swap {P : Program} {f : FuncId} {fn : Func} (hf : P.funcs[f]? = some fn) (hname : (fn.name == "runtime.NumGoroutine") = false) (hb : fn.body.isNone = true) (hn : Extern.findNext fn = none) (k : IntKind)
    (he : Extern.find fn = some (Extern.Atomic.swapT (.int k))) {a : Addr} {x y : Int} {w : World} (hc : w.cell? a = some (.int k x)) (hz : w.frozen? a = false) :
    (callFunc f #[.pointer (some a), .int k y]).run P w = .ok (.value (.int k x)) (w.setCell a (.int k y)) := by
  rw [run_callFunc_extern hf hname hb hn he]
  change (Sem.run P (do
    let a' ← asAddr (.pointer (some a))
    let old ← Extern.Atomic.read (.int k) a'
    store a' (.int k y) .atomic
    pure old) w).andThen _ = _
  simp [Extern.Atomic.read, asAddr, hc, hz, run_store P w a (.int k y) .atomic rfl, Result.andThen]

theorem add_at (d k : Nat) (x n : Int) (w : World) (hc : w.cell? ⟨d, k, none⟩ = some (.int .i64 x)) (hz : w.frozen? ⟨d, k, none⟩ = false) :
    Calls Try.prog 19 #[.pointer (some ⟨d, k, none⟩), .int .i64 n] w fun e w' => e = .returned (.int .i64 (wrap64 (x + n))) ∧ w.setCell ⟨d, k, none⟩ (.int .i64 (wrap64 (x + n))) = w' := by
  have hd := run_call_add (P := Try.prog) Try.func25 (by kernel_rfl) (by kernel_rfl) (by kernel_rfl) .i64 (by kernel_rfl) (y := n) (s := wrap64 (x + n)) hc hz (by simp [go_sem, wrap64, IntKind.wrap_i64])
  go_enter Try.func19, Try.ntmps19
  go_wp2
  go_ret
  exact ⟨rfl, rfl⟩

theorem load_at (d k : Nat) (x : Int) (w : World) (hc : w.cell? ⟨d, k, none⟩ = some (.int .i64 x)) :
    Calls Try.prog 21 #[.pointer (some ⟨d, k, none⟩)] w fun e w' => e = .returned (.int .i64 x) ∧ w = w' := by
  have hd := run_call_load (P := Try.prog) Try.func26 (by kernel_rfl) (by kernel_rfl) (by kernel_rfl) .i64 (by kernel_rfl) hc
  go_enter Try.func21, Try.ntmps21
  go_wp2
  go_ret
  exact ⟨rfl, rfl⟩

theorem swap_at (d k : Nat) (x n : Int) (w : World) (hc : w.cell? ⟨d, k, none⟩ = some (.int .i64 x)) (hz : w.frozen? ⟨d, k, none⟩ = false) :
    Calls Try.prog 23 #[.pointer (some ⟨d, k, none⟩), .int .i64 n] w fun e w' => e = .returned (.int .i64 x) ∧ w.setCell ⟨d, k, none⟩ (.int .i64 n) = w' := by
  have hd := run_call_swap (P := Try.prog) Try.func27 (by kernel_rfl) (by kernel_rfl) (by kernel_rfl) .i64 (by kernel_rfl) (y := n) hc hz
  go_enter Try.func23, Try.ntmps23
  go_wp2
  go_ret
  exact ⟨rfl, rfl⟩

theorem cas_at (d k : Nat) (x n : Int) (w : World) (hc : w.cell? ⟨d, k, none⟩ = some (.int .i64 x)) (hz : w.frozen? ⟨d, k, none⟩ = false) :
    Calls Try.prog 24 #[.pointer (some ⟨d, k, none⟩), .int .i64 x, .int .i64 n] w fun e w' => e = .returned (.bool true) ∧ w.setCell ⟨d, k, none⟩ (.int .i64 n) = w' := by
  have hd := run_call_cas_hit (P := Try.prog) Try.func28 (by kernel_rfl) (by kernel_rfl) (by kernel_rfl) .i64 (by kernel_rfl) (y := n) hc hz
  go_enter Try.func24, Try.ntmps24
  go_wp2
  go_ret
  exact ⟨rfl, rfl⟩

/-- What Add tells and leaves. -/
theorem Add_nil (i n : Int) (w : World) :
    Calls Try.prog 10 #[.pointer none, .int .i64 i, .int .i64 n] w fun e w' => e = .returned (.tuple #[.int .i64 0, .int .i64 2]) ∧ w = w' := by
  go_enter Try.func10, Try.ntmps10
  go_wp2_with (go_at_call 18; refine (at_nil _ _).mono ?_; rintro e w' ⟨rfl, rfl⟩)
  go_ret2
  exact ⟨rfl, rfl⟩

theorem Add_out (s d : Nat) (xs : List Int) (i n : Int) (w : World) (h : Met w s d xs) (hi : i < 0 ∨ (xs.length : Int) ≤ i) :
    Calls Try.prog 10 #[.pointer (some ⟨s, 0, none⟩), .int .i64 i, .int .i64 n] w fun e w' => e = .returned (.tuple #[.int .i64 0, .int .i64 10]) ∧ w = w' := by
  go_enter Try.func10, Try.ntmps10
  go_wp2_with (go_at_call 18; refine (at_out s d xs _ _ h hi).mono ?_; rintro e w' ⟨rfl, rfl⟩)
  go_ret2
  exact ⟨rfl, rfl⟩

theorem Add_in (s d : Nat) (xs : List Int) (k : Nat) (n : Int) (w : World) (h : Met w s d xs) (hk : k < xs.length) :
    Calls Try.prog 10 #[.pointer (some ⟨s, 0, none⟩), .int .i64 k, .int .i64 n] w fun e w' => e = .returned (.tuple #[.int .i64 (wrap64 (nth xs k + n)), .int .i64 0]) ∧
      Met w' s d (xs.set k (wrap64 (nth xs k + n))) ∧ w.grownBy w' (some d) := by
  go_enter Try.func10, Try.ntmps10
  go_wp2_with (first
    | (go_at_call 18; refine (at_in s d xs k _ h hk).mono ?_; rintro e w' ⟨rfl, rfl⟩)
    | (go_at_call 19; refine (add_at d k _ _ _ (h.c1 hk) (h.f1 k)).mono ?_; rintro e w' ⟨rfl, rfl⟩))
  go_ret2
  exact ⟨rfl, h.put _ _, grown_put _ _ _ _⟩

theorem Get_nil (i : Int) (w : World) :
    Calls Try.prog 17 #[.pointer none, .int .i64 i] w fun e w' => e = .returned (.tuple #[.int .i64 0, .int .i64 2]) ∧ w = w' := by
  go_enter Try.func17, Try.ntmps17
  go_wp2_with (go_at_call 18; refine (at_nil _ _).mono ?_; rintro e w' ⟨rfl, rfl⟩)
  go_ret2
  exact ⟨rfl, rfl⟩

theorem Get_out (s d : Nat) (xs : List Int) (i : Int) (w : World) (h : Met w s d xs) (hi : i < 0 ∨ (xs.length : Int) ≤ i) :
    Calls Try.prog 17 #[.pointer (some ⟨s, 0, none⟩), .int .i64 i] w fun e w' => e = .returned (.tuple #[.int .i64 0, .int .i64 10]) ∧ w = w' := by
  go_enter Try.func17, Try.ntmps17
  go_wp2_with (go_at_call 18; refine (at_out s d xs _ _ h hi).mono ?_; rintro e w' ⟨rfl, rfl⟩)
  go_ret2
  exact ⟨rfl, rfl⟩

theorem Get_in (s d : Nat) (xs : List Int) (k : Nat) (w : World) (h : Met w s d xs) (hk : k < xs.length) :
    Calls Try.prog 17 #[.pointer (some ⟨s, 0, none⟩), .int .i64 k] w fun e w' => e = .returned (.tuple #[.int .i64 (nth xs k), .int .i64 0]) ∧ w = w' := by
  go_enter Try.func17, Try.ntmps17
  go_wp2_with (first
    | (go_at_call 18; refine (at_in s d xs k _ h hk).mono ?_; rintro e w' ⟨rfl, rfl⟩)
    | (go_at_call 21; refine (load_at d k _ _ (h.c1 hk)).mono ?_; rintro e w' ⟨rfl, rfl⟩))
  go_ret2
  exact ⟨rfl, rfl⟩

theorem Peak_nil (i n : Int) (w : World) :
    Calls Try.prog 16 #[.pointer none, .int .i64 i, .int .i64 n] w fun e w' => e = .returned (.tuple #[.int .i64 0, .int .i64 2]) ∧ w = w' := by
  go_enter Try.func16, Try.ntmps16
  go_wp2_with (go_at_call 18; refine (at_nil _ _).mono ?_; rintro e w' ⟨rfl, rfl⟩)
  go_ret2
  exact ⟨rfl, rfl⟩

theorem Peak_out (s d : Nat) (xs : List Int) (i n : Int) (w : World) (h : Met w s d xs) (hi : i < 0 ∨ (xs.length : Int) ≤ i) :
    Calls Try.prog 16 #[.pointer (some ⟨s, 0, none⟩), .int .i64 i, .int .i64 n] w fun e w' => e = .returned (.tuple #[.int .i64 0, .int .i64 10]) ∧ w = w' := by
  go_enter Try.func16, Try.ntmps16
  go_wp2_with (go_at_call 18; refine (at_out s d xs _ _ h hi).mono ?_; rintro e w' ⟨rfl, rfl⟩)
  go_ret2
  exact ⟨rfl, rfl⟩

theorem Peak_low (s d : Nat) (xs : List Int) (k : Nat) (n : Int) (w : World) (h : Met w s d xs) (hk : k < xs.length) (hn : n ≤ nth xs k) :
    Calls Try.prog 16 #[.pointer (some ⟨s, 0, none⟩), .int .i64 k, .int .i64 n] w fun e w' => e = .returned (.tuple #[.int .i64 (nth xs k), .int .i64 0]) ∧ w = w' := by
  go_enter Try.func16, Try.ntmps16
  go_wp2_with (first
    | (go_at_call 18; refine (at_in s d xs k _ h hk).mono ?_; rintro e w' ⟨rfl, rfl⟩)
    | (go_at_call 21; refine (load_at d k _ _ (h.c1 hk)).mono ?_; rintro e w' ⟨rfl, rfl⟩))
  refine wp_loop_rounds 1 ?_
  rw [rounds_succ]
  go_wp2_with (first
    | (go_at_call 21; refine (load_at d k _ _ (h.c1 hk)).mono ?_; rintro e w' ⟨rfl, rfl⟩))
  go_ret2
  exact ⟨rfl, rfl⟩

theorem Peak_high (s d : Nat) (xs : List Int) (k : Nat) (n : Int) (w : World) (h : Met w s d xs) (hk : k < xs.length) (hn : nth xs k < n) :
    Calls Try.prog 16 #[.pointer (some ⟨s, 0, none⟩), .int .i64 k, .int .i64 n] w fun e w' => e = .returned (.tuple #[.int .i64 n, .int .i64 0]) ∧
      Met w' s d (xs.set k n) ∧ w.grownBy w' (some d) := by
  go_enter Try.func16, Try.ntmps16
  go_wp2_with (first
    | (go_at_call 18; refine (at_in s d xs k _ h hk).mono ?_; rintro e w' ⟨rfl, rfl⟩)
    | (go_at_call 21; refine (load_at d k _ _ (h.c1 hk)).mono ?_; rintro e w' ⟨rfl, rfl⟩))
  refine wp_loop_rounds 1 ?_
  rw [rounds_succ]
  go_wp2_with (first
    | (go_at_call 24; refine (cas_at d k _ _ _ (h.c1 hk) (h.f1 k)).mono ?_; rintro e w' ⟨rfl, rfl⟩))
  go_ret2
  exact ⟨rfl, h.put _ _, grown_put _ _ _ _⟩
end Go.Proofs.Ytjbljdjokgamdaa
