/- The memory words that all laws of this seat use: a block that is known whole, a slice that reads as a list of numbers, worlds of which but one block has turned; and the function ints that compares two slices. -/
import Derived.Test.YtggnboieenknfaaProg
import Derived.WalkKit
import Derived.BigQuiet
import Derived.BigRegion
import Derived.Deep.QuietTactic
import Derived.Deep.RegionHeld3
import Derived.Deep.DeepCutAuto
import Derived.Deep.CutBlock
import Derived.Outline
import Derived.KernelRfl
import Derived.Deep.Draws
import Derived.Laws.OwnMore
import Derived.Laws.Rows
import Derived.Laws.MakeOwn
import Derived.Laws.NewBlocks
import Derived.WalkSpells
import Derived.OwnWalk
import Derived.Below
import Derived.IntWalk
import Derived.Lib.Hide
namespace Go.Proofs.Ytggnboieenknfaa
open Go.RowKit
set_option linter.unusedVariables false

theorem ret_bool {a b : Bool} (h : a = b) : Ending.returned (.bool a) = .returned (.bool b) := by rw [h]
theorem ret_int {a b : Int} (h : a = b) : Ending.returned (.int .i64 a) = .returned (.int .i64 b) := by rw [h]

/-- The k-th number of a list (0 beyond its end); simp does not open it. -/
def nth (xs : List Int) (k : Nat) : Int := xs.getD k 0
theorem nth_eq {xs : List Int} {k : Nat} (h : k < xs.length) : nth xs k = xs[k] := by
  unfold nth
  simp [h]
theorem nth_ext {xs ys : List Int} (hl : xs.length = ys.length) (h : ∀ k, k < xs.length → nth xs k = nth ys k) : xs = ys := by
  apply List.ext_getElem hl
  intro k h1 h2
  rw [← nth_eq h1, ← nth_eq h2, h k h1]
theorem nth_set_self (S : List Int) {k : Nat} (h : k < S.length) (x : Int) : nth (S.set k x) k = x := by
  unfold nth; simp [h]
theorem nth_set_other (S : List Int) {k j : Nat} (h : k ≠ j) (x : Int) : nth (S.set k x) j = nth S j := by
  unfold nth; simp only [List.getD]; rw [List.getElem?_set_ne h]

/-- A slice of xs.length numbers at address A reads as xs. -/
def RI (w : World) (A : Option Addr) (xs : List Int) : Prop :=
  0 < xs.length → ∃ b off, A = some ⟨b, off, none⟩ ∧ ∀ k, k < xs.length → w.cell? ⟨b, off + k, none⟩ = some (.int .i64 (nth xs k))
theorem RI_nil (w : World) (A : Option Addr) : RI w A [] := fun h => absurd h (by simp)
theorem RI.below {w w' : World} {A : Option Addr} {xs : List Int} (h : RI w A xs) {B : Nat} (hb : Below B w w') (hB : w.heap.size ≤ B) : RI w' A xs := fun hx => by
  obtain ⟨b, off, rfl, hr⟩ := h hx
  exact ⟨b, off, rfl, fun k hk => by
    have h1 := hr k hk
    have : b < w.heap.size := World.block_lt_of_cell? w ⟨b, off + k, none⟩ h1
    rw [hb.cell (p := ⟨b, off + k, none⟩) (by simp; omega), h1]⟩
theorem RI.drewN {w : World} {A : Option Addr} {xs : List Int} (h : RI w A xs) (n : Nat) : RI (w.drewN n) A xs := h
theorem RI.at_ {w : World} {A : Option Addr} {xs : List Int} (h : RI w A xs) {k : Nat} (hk : k < xs.length) : ∃ b off, A = some ⟨b, off, none⟩ ∧ w.cell? ⟨b, off + k, none⟩ = some (.int .i64 (nth xs k)) := by
  obtain ⟨b, off, rfl, hr⟩ := h (by omega)
  exact ⟨b, off, rfl, hr k hk⟩

/-- Block g is just the cells cs of element type t, none of them frozen. -/
def Blk (w : World) (g : Nat) (t : TypeId) (cs : Array Value) : Prop := w.heap[g]? = some (.cells cs t (0, 0))
section
variable {w w' : World} {g : Nat} {t : TypeId} {cs : Array Value}
theorem Blk.lt (h : Blk w g t cs) : g < w.heap.size := (Array.getElem?_eq_some_iff.1 h).1
theorem Blk.cell (h : Blk w g t cs) (i : Nat) : w.cell? ⟨g, i, none⟩ = cs[i]? := cell_of_row w g i cs t (0, 0) h
theorem Blk.frozen (h : Blk w g t cs) (i : Nat) : w.frozen? ⟨g, i, none⟩ = false := by
  unfold Blk at h
  simp [World.frozen?, h]
theorem Blk.made (w : World) (t : TypeId) (cs : Array Value) : Blk (w.alloc (.cells cs t)) w.heap.size t cs := heap_alloc_new w _
theorem Blk.drewN (h : Blk w g t cs) (n : Nat) : Blk (w.drewN n) g t cs := h
theorem Blk.drew (h : Blk w g t cs) : Blk w.drew g t cs := h
theorem Blk.alloc (h : Blk w g t cs) (o : Obj) : Blk (w.alloc o) g t cs := (Below.heap_alloc w o g h.lt).trans h
theorem Blk.put (h : Blk w g t cs) (i : Nat) (u : Value) : Blk (w.setCell ⟨g, i, none⟩ u) g t (cs.setIfInBounds i u) := by
  unfold Blk at h ⊢
  simp [World.setCell, Array.getElem?_modify, h]
theorem Blk.far (h : Blk w g t cs) {p : Addr} (hp : g ≠ p.block) (u : Value) : Blk (w.setCell p u) g t cs := (Below.heap_setCell w p u g hp).trans h
theorem Blk.below {B : Nat} (h : Blk w g t cs) (hb : Below B w w') (hg : g < B) : Blk w' g t cs := (hb.block g hg).trans h
theorem Blk.grown {row : Option Nat} (h : Blk w g t cs) (hb : w.grownBy w' row) (hg : some g ≠ row) : Blk w' g t cs := (hb.block g h.lt hg).trans h
theorem Blk.ne_ {g' : Nat} {t' : TypeId} {cs' : Array Value} (h : Blk w g t cs) (h' : Blk w g' t' cs') (hne : t ≠ t') : g ≠ g' := by
  rintro rfl
  unfold Blk at h h'
  rw [h] at h'
  injection h' with h'
  injection h' with _ ht
  exact hne ht
end

/-- A list of numbers as the cells of a block. -/
def cells (xs : List Int) : Array Value := (xs.map (Value.int .i64)).toArray
theorem cells_get {xs : List Int} {k : Nat} (h : k < xs.length) : (cells xs)[k]? = some (.int .i64 (nth xs k)) := by
  simp [cells, h, nth_eq h]
theorem cells_put (xs : List Int) (k : Nat) (x : Int) : (cells xs).setIfInBounds k (.int .i64 x) = cells (xs.set k x) := by
  simp [cells, List.map_set]
theorem RI_of_blk {w : World} {g : Nat} {t : TypeId} {xs : List Int} (h : Blk w g t (cells xs)) : RI w (some ⟨g, 0, none⟩) xs :=
  fun _ => ⟨g, 0, rfl, fun k hk => by rw [Nat.zero_add, h.cell, cells_get hk]⟩

theorem grown_put (w : World) (d k : Nat) (u : Value) : w.grownBy (w.setCell ⟨d, k, none⟩ u) (some d) :=
  ⟨rfl, rfl, rfl, by simp [World.setCell], fun i _ hne => Below.heap_setCell _ _ _ _ (by rintro rfl; exact hne rfl)⟩
theorem grown_more {a w : World} {d : Nat} (h : a.grownBy w (some d)) {p : Addr} (hp : p.block = d ∨ a.heap.size ≤ p.block) (u : Value) : a.grownBy (w.setCell p u) (some d) :=
  ⟨h.os, h.tape, h.output, by simpa [World.setCell] using h.size, fun i hi hne => (Below.heap_setCell w p u i (by
    rintro rfl
    rcases hp with hp | hp
    · exact hne (by rw [hp])
    · omega)).trans (h.block i hi hne)⟩
theorem grown_drewN {a w : World} {row : Option Nat} (h : a.grownBy w row) (n : Nat) : a.grownBy (w.drewN n) row := ⟨h.os, h.tape, h.output, h.size, h.block⟩
theorem grown_drew {a b : World} {r : Option Nat} (h : a.grownBy b r) : a.grownBy b.drew r := ⟨h.os, h.tape, h.output, h.size, h.block⟩
theorem grown_trans {a b c : World} {r : Option Nat} (h : a.grownBy b r) (k : b.grownBy c r) : a.grownBy c r :=
  ⟨k.os.trans h.os, k.tape.trans h.tape, k.output.trans h.output, Nat.le_trans h.size k.size, fun i hi hne => (k.block i (Nat.lt_of_lt_of_le hi h.size) hne).trans (h.block i hi hne)⟩
theorem grown_of_below {a w : World} (h : Below a.heap.size a w) (row : Option Nat) : a.grownBy w row := ⟨h.os, h.tape, h.output, h.size, fun i hi _ => h.block i hi⟩
theorem grown_alloc {a w : World} {row : Option Nat} (h : a.grownBy w row) (o : Obj) : a.grownBy (w.alloc o) row :=
  ⟨h.os, h.tape, h.output, Nat.le_trans h.size (by simp), fun i hi hne => (Below.heap_alloc w o i (Nat.lt_of_lt_of_le hi h.size)).trans (h.block i hi hne)⟩
theorem grown_box {w w' : World} {o : Obj} {d : Nat} (h : (w.alloc o).grownBy w' (some d)) : w.grownBy w' (some d) :=
  ⟨h.os, h.tape, h.output, by have := h.size; simp at this; omega, fun i hi hne => (h.block i (by simp; omega) hne).trans (Below.heap_alloc _ _ _ hi)⟩
theorem row_some {d B : Nat} (h : B ≤ d) : ∀ k, some d = some k → B ≤ k := fun k e => by cases e; exact h
theorem below_drewN {B : Nat} {a w : World} (h : Below B a w) (n : Nat) : Below B a (w.drewN n) := ⟨h.os, h.tape, h.output, h.size, h.block⟩
theorem below_of {w w' : World} (h : ∃ n, w' = w.drewN n) : Below w.heap.size w w' := by
  obtain ⟨n, rfl⟩ := h
  exact below_drewN (Below.refl _ _) n
theorem below_ge {a b c : World} {B : Nat} (h : Below B a b) (k : Below b.heap.size b c) (hB : B ≤ a.heap.size) : Below B a c := h.trans (k.mono (Nat.le_trans hB h.size))

def zeros (n : Nat) : List Int := List.replicate n 0
theorem zeros_length (n : Nat) : (zeros n).length = n := by simp [zeros]
theorem nth_zeros (n k : Nat) : nth (zeros n) k = 0 := by
  unfold nth zeros
  by_cases h : k < n <;> simp [h]
theorem made_zeros (n : Nat) : madeCells #[.int .i64 0] (n * 1) = cells (zeros n) := by
  apply Array.ext
  · simp [madeCells, cells, zeros]
  · intro i h1 h2
    simp [madeCells, cells, zeros, Nat.mod_one]
theorem Try.infoI : (Try.prog.info? 3).map (fun i => (i.zero, i.size, i.bytes)) = some (some (.int .i64 0), 1, 8) := by kernel_rfl
theorem make_ints (n : Nat) (hn : n ≤ 4398046511104) (W : World) :
    (Instr.makeSlice 27 (.int .i64 (n : Int)) (.int .i64 (n : Int))).run Try.prog W = .ok (.slice (some ⟨W.heap.size, 0, none⟩) n n) (W.alloc (.cells (cells (zeros n)) 3)) := by
  obtain ⟨i0, hi, hz0, hz1, hz2⟩ := info_parts Try.infoI
  have h := run_make (P := Try.prog) W 27 3 i0 (.int .i64 0) Try.underlying27 hi hz0 .i64 .i64 (n : Int) (n : Int) (by omega) (by omega) (by rw [hz2]; omega) (by omega)
  rw [h, hz1]
  simp only [Int.toNat_natCast, Value.cells, made_zeros]

theorem take_eq_snoc {xs ys : List Int} {k : Nat} (h : xs.take k = ys.take k) (hx : k < xs.length) (hy : k < ys.length) (e : nth xs k = nth ys k) :
    xs.take (k + 1) = ys.take (k + 1) := by
  rw [List.take_succ_eq_append_getElem hx, List.take_succ_eq_append_getElem hy, h, ← nth_eq hx, ← nth_eq hy, e]
theorem ne_of_nth {xs ys : List Int} {k : Nat} (e : ¬ nth xs k = nth ys k) : ¬ xs = ys := fun h => e (by rw [h])
theorem eq_of_take {xs ys : List Int} {k : Nat} (h : xs.take k = ys.take k) (hx : xs.length ≤ k) (hy : ys.length ≤ k) : xs = ys := by
  rwa [List.take_of_length_le hx, List.take_of_length_le hy] at h

set_option maxHeartbeats 400000 in
theorem ints_any (A B : Option Addr) (ca cb : Nat) (xs ys : List Int) (w : World) (hA : RI w A xs) (hB : RI w B ys) (hx : xs.length ≤ 4611686018427387904) :
    Calls Try.prog 17 #[.slice A xs.length ca, .slice B ys.length cb] w fun e w' => e = .returned (.bool (decide (xs = ys))) ∧ ∃ n, w' = w.drewN n := by
  by_cases hl : xs.length = ys.length
  · have HL := Lib.hid hl
    have hl1 : xs.length ≤ ys.length := by omega
    have hl2 : ys.length ≤ xs.length := by omega
    have hne : (((xs.length : Nat) : Int) != ((ys.length : Nat) : Int)) = false := by simp [hl]
    clear hl
    go_enter Try.func17, Try.ntmps17
    go_wp2
    clear hne
    go_loopw [5] (fun i wr => ∃ k d : Nat, k ≤ xs.length ∧ i = .int .i64 k ∧ xs.take k = ys.take k ∧ wr = w.drewN d) (fun i _ => xs.length - (intOf i).toNat)
    case atStart => exact ⟨0, 0, Nat.zero_le _, rfl, rfl, by simp [World.drewN]⟩
    case round =>
      obtain ⟨k, d, hk, rfl, ht, rfl⟩ := hrel
      have HT := Lib.hid ht
      clear ht
      by_cases hlt : k < xs.length
      · obtain ⟨b, off, rfl, hc⟩ := hA (by omega)
        obtain ⟨b', off', rfl, hc'⟩ := hB (by omega)
        have h1 := hc k hlt
        have h2 := hc' k (by omega)
        clear hc hc'
        have i1 : (0 : Int) ≤ (k : Int) := by omega
        have i2 : (k : Int) < (xs.length : Int) := by omega
        have i3 : (k : Int) < (ys.length : Int) := by omega
        by_cases he : nth xs k = nth ys k
        · have hne : (nth xs k != nth ys k) = false := by simp [he]
          have HE := Lib.hid he
          clear he
          go_wp2
          go_quiet (fail)
          go_wp2
          go_roundw
          case rel => exact ⟨k + 1, d + nq, by omega, by go_num, take_eq_snoc HT.out hlt (by omega) HE.out, rfl⟩
          case measure => simp [intOf]; omega
        · have hne : (nth xs k != nth ys k) = true := by simp [he]
          have HE := Lib.hid he
          clear he
          go_wp2
          go_quiet (fail)
          go_wp2
          go_ret
          exact ⟨ret_bool (by rw [decide_eq_false (ne_of_nth HE.out)]), d + nq, by rw [World.drewN_drewN]⟩
      · go_wp2
        go_ret
        exact ⟨ret_bool (by rw [decide_eq_true (eq_of_take HT.out (by omega) (by omega))]), _, rfl⟩
  · have hne : (((xs.length : Nat) : Int) != ((ys.length : Nat) : Int)) = true := by simp; omega
    have HL := Lib.hid hl
    clear hl
    go_enter Try.func17, Try.ntmps17
    go_wp2
    go_ret
    have := HL.out
    exact ⟨ret_bool (by rw [decide_eq_false (fun e => this (by rw [e]))]), 0, by simp [World.drewN]⟩
theorem ints_n (A B : Option Addr) (n m ca cb : Nat) (xs ys : List Int) (w : World) (hn : xs.length = n) (hm : ys.length = m) (hA : RI w A xs) (hB : RI w B ys)
    (hx : n ≤ 4611686018427387904) :
    Calls Try.prog 17 #[.slice A n ca, .slice B m cb] w fun e w' => e = .returned (.bool (decide (xs = ys))) ∧ ∃ n, w' = w.drewN n := by
  subst hn hm
  exact ints_any A B ca cb xs ys w hA hB hx
theorem ints_b (A B : Option Addr) (n m ca cb : Nat) (xs ys : List Int) (w : World) (hn : xs.length = n) (hm : ys.length = m) (hA : RI w A xs) (hB : RI w B ys)
    (hx : n ≤ 4611686018427387904) :
    Calls Try.prog 17 #[.slice A n ca, .slice B m cb] w fun e w' => e = .returned (.bool (decide (xs = ys))) ∧ Below w.heap.size w w' :=
  (ints_n A B n m ca cb xs ys w hn hm hA hB hx).mono fun _ _ ⟨he, hw⟩ => ⟨he, below_of hw⟩
end Go.Proofs.Ytggnboieenknfaa
