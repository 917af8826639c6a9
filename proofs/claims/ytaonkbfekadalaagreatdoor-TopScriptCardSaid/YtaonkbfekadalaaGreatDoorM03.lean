/- Joined texts: K0, Ta, Tb, Tc, Te, Tf. -/
import Derived.Test.YtaonkbfekadalaaGreatDoorProg
import Derived.WalkKit
import Derived.BigQuiet
import Derived.BigRegion
import Derived.Deep.QuietTactic
import Derived.Deep.RegionHeld3
import Derived.Deep.DeepCutAuto
import Derived.Deep.CutBlock
import Derived.Outline
import Derived.KernelRfl
import Derived.Deep.Draws
import Derived.Laws.OwnMore
import Derived.Laws.Rows
import Derived.Laws.MakeOwn
import Derived.Laws.NewBlocks
import Derived.WalkSpells
import Derived.OwnWalk
import Derived.Below
import Derived.IntWalk
import Derived.Lib.Hide
import Derived.WalkMore
import Derived.ScopeJumps
/- The memory words that all laws of this seat use: a block that is known whole, a slice that reads as a list of numbers, worlds of which but one block has turned; and the function ints that compares two slices. -/
namespace Go.Proofs.YtaonkbfekadalaaGreatDoor
open Go.RowKit
set_option linter.unusedVariables false

/-- The k-th number of a list (0 beyond its end); simp does not open it. -/
def nth (xs : List Int) (k : Nat) : Int := xs.getD k 0
theorem nth_eq {xs : List Int} {k : Nat} (h : k < xs.length) : nth xs k = xs[k] := by
  unfold nth
  simp [h]
theorem nth_ext {xs ys : List Int} (hl : xs.length = ys.length) (h : ∀ k, k < xs.length → nth xs k = nth ys k) : xs = ys := by
  apply List.ext_getElem hl
  intro k h1 h2
  rw [← nth_eq h1, ← nth_eq h2, h k h1]
theorem nth_set_self (S : List Int) {k : Nat} (h : k < S.length) (x : Int) : nth (S.set k x) k = x := by
  unfold nth; simp [h]
theorem nth_set_other (S : List Int) {k j : Nat} (h : k ≠ j) (x : Int) : nth (S.set k x) j = nth S j := by
  unfold nth; simp only [List.getD]; rw [List.getElem?_set_ne h]

/-- A slice of xs.length numbers at address A reads as xs. -/
def RI (w : World) (A : Option Addr) (xs : List Int) : Prop :=
  0 < xs.length → ∃ b off, A = some ⟨b, off, none⟩ ∧ ∀ k, k < xs.length → w.cell? ⟨b, off + k, none⟩ = some (.int .i64 (nth xs k))
theorem RI_nil (w : World) (A : Option Addr) : RI w A [] := fun h => absurd h (by simp)
theorem RI.below {w w' : World} {A : Option Addr} {xs : List Int} (h : RI w A xs) {B : Nat} (hb : Below B w w') (hB : w.heap.size ≤ B) : RI w' A xs := fun hx => by
  obtain ⟨b, off, rfl, hr⟩ := h hx
  exact ⟨b, off, rfl, fun k hk => by
    have h1 := hr k hk
    have : b < w.heap.size := World.block_lt_of_cell? w ⟨b, off + k, none⟩ h1
    rw [hb.cell (p := ⟨b, off + k, none⟩) (by simp; omega), h1]⟩
theorem RI.drewN {w : World} {A : Option Addr} {xs : List Int} (h : RI w A xs) (n : Nat) : RI (w.drewN n) A xs := h
theorem RI.at_ {w : World} {A : Option Addr} {xs : List Int} (h : RI w A xs) {k : Nat} (hk : k < xs.length) : ∃ b off, A = some ⟨b, off, none⟩ ∧ w.cell? ⟨b, off + k, none⟩ = some (.int .i64 (nth xs k)) := by
  obtain ⟨b, off, rfl, hr⟩ := h (by omega)
  exact ⟨b, off, rfl, hr k hk⟩

/-- Block g is just the cells cs of element type t, none of them frozen. -/
def Blk (w : World) (g : Nat) (t : TypeId) (cs : Array Value) : Prop := w.heap[g]? = some (.cells cs t (0, 0))
section
variable {w w' : World} {g : Nat} {t : TypeId} {cs : Array Value}
theorem Blk.lt (h : Blk w g t cs) : g < w.heap.size := (Array.getElem?_eq_some_iff.1 h).1
theorem Blk.cell (h : Blk w g t cs) (i : Nat) : w.cell? ⟨g, i, none⟩ = cs[i]? := cell_of_row w g i cs t (0, 0) h
theorem Blk.frozen (h : Blk w g t cs) (i : Nat) : w.frozen? ⟨g, i, none⟩ = false := by
  unfold Blk at h
  simp [World.frozen?, h]
theorem Blk.made (w : World) (t : TypeId) (cs : Array Value) : Blk (w.alloc (.cells cs t)) w.heap.size t cs := heap_alloc_new w _
theorem Blk.drewN (h : Blk w g t cs) (n : Nat) : Blk (w.drewN n) g t cs := h
theorem Blk.drew (h : Blk w g t cs) : Blk w.drew g t cs := h
theorem Blk.alloc (h : Blk w g t cs) (o : Obj) : Blk (w.alloc o) g t cs := (Below.heap_alloc w o g h.lt).trans h
theorem Blk.put (h : Blk w g t cs) (i : Nat) (u : Value) : Blk (w.setCell ⟨g, i, none⟩ u) g t (cs.setIfInBounds i u) := by
  unfold Blk at h ⊢
  simp [World.setCell, Array.getElem?_modify, h]
theorem Blk.far (h : Blk w g t cs) {p : Addr} (hp : g ≠ p.block) (u : Value) : Blk (w.setCell p u) g t cs := (Below.heap_setCell w p u g hp).trans h
theorem Blk.below {B : Nat} (h : Blk w g t cs) (hb : Below B w w') (hg : g < B) : Blk w' g t cs := (hb.block g hg).trans h
theorem Blk.grown {row : Option Nat} (h : Blk w g t cs) (hb : w.grownBy w' row) (hg : some g ≠ row) : Blk w' g t cs := (hb.block g h.lt hg).trans h
theorem Blk.ne_ {g' : Nat} {t' : TypeId} {cs' : Array Value} (h : Blk w g t cs) (h' : Blk w g' t' cs') (hne : t ≠ t') : g ≠ g' := by
  rintro rfl
  unfold Blk at h h'
  rw [h] at h'
  injection h' with h'
  injection h' with _ ht
  exact hne ht
end

/-- A list of numbers as the cells of a block. -/
def cells (xs : List Int) : Array Value := (xs.map (Value.int .i64)).toArray
theorem cells_get {xs : List Int} {k : Nat} (h : k < xs.length) : (cells xs)[k]? = some (.int .i64 (nth xs k)) := by
  simp [cells, h, nth_eq h]
theorem cells_put (xs : List Int) (k : Nat) (x : Int) : (cells xs).setIfInBounds k (.int .i64 x) = cells (xs.set k x) := by
  simp [cells, List.map_set]
theorem RI_of_blk {w : World} {g : Nat} {t : TypeId} {xs : List Int} (h : Blk w g t (cells xs)) : RI w (some ⟨g, 0, none⟩) xs :=
  fun _ => ⟨g, 0, rfl, fun k hk => by rw [Nat.zero_add, h.cell, cells_get hk]⟩

theorem grown_put (w : World) (d k : Nat) (u : Value) : w.grownBy (w.setCell ⟨d, k, none⟩ u) (some d) :=
  ⟨rfl, rfl, rfl, by simp [World.setCell], fun i _ hne => Below.heap_setCell _ _ _ _ (by rintro rfl; exact hne rfl)⟩
theorem grown_more {a w : World} {d : Nat} (h : a.grownBy w (some d)) {p : Addr} (hp : p.block = d ∨ a.heap.size ≤ p.block) (u : Value) : a.grownBy (w.setCell p u) (some d) :=
  ⟨h.os, h.tape, h.output, by simpa [World.setCell] using h.size, fun i hi hne => (Below.heap_setCell w p u i (by
    rintro rfl
    rcases hp with hp | hp
    · exact hne (by rw [hp])
    · omega)).trans (h.block i hi hne)⟩
theorem grown_drewN {a w : World} {row : Option Nat} (h : a.grownBy w row) (n : Nat) : a.grownBy (w.drewN n) row := ⟨h.os, h.tape, h.output, h.size, h.block⟩
theorem grown_drew {a b : World} {r : Option Nat} (h : a.grownBy b r) : a.grownBy b.drew r := ⟨h.os, h.tape, h.output, h.size, h.block⟩
theorem grown_trans {a b c : World} {r : Option Nat} (h : a.grownBy b r) (k : b.grownBy c r) : a.grownBy c r :=
  ⟨k.os.trans h.os, k.tape.trans h.tape, k.output.trans h.output, Nat.le_trans h.size k.size, fun i hi hne => (k.block i (Nat.lt_of_lt_of_le hi h.size) hne).trans (h.block i hi hne)⟩
theorem grown_of_below {a w : World} (h : Below a.heap.size a w) (row : Option Nat) : a.grownBy w row := ⟨h.os, h.tape, h.output, h.size, fun i hi _ => h.block i hi⟩
theorem row_some {d B : Nat} (h : B ≤ d) : ∀ k, some d = some k → B ≤ k := fun k e => by cases e; exact h
theorem below_drewN {B : Nat} {a w : World} (h : Below B a w) (n : Nat) : Below B a (w.drewN n) := ⟨h.os, h.tape, h.output, h.size, h.block⟩
theorem below_ge {a b c : World} {B : Nat} (h : Below B a b) (k : Below b.heap.size b c) (hB : B ≤ a.heap.size) : Below B a c := h.trans (k.mono (Nat.le_trans hB h.size))

def zeros (n : Nat) : List Int := List.replicate n 0
theorem zeros_length (n : Nat) : (zeros n).length = n := by simp [zeros]
theorem nth_zeros (n k : Nat) : nth (zeros n) k = 0 := by
  unfold nth zeros
  by_cases h : k < n <;> simp [h]
theorem made_zeros (n : Nat) : madeCells #[.int .i64 0] (n * 1) = cells (zeros n) := by
  apply Array.ext
  · simp [madeCells, cells, zeros]
  · intro i h1 h2
    simp [madeCells, cells, zeros, Nat.mod_one]
theorem Tryz.infoI : (Tryz.prog.info? 3).map (fun i => (i.zero, i.size, i.bytes)) = some (some (.int .i64 0), 1, 8) := by kernel_rfl
theorem make_ints (n : Nat) (hn : n ≤ 4398046511104) (W : World) :
    (Instr.makeSlice 31 (.int .i64 (n : Int)) (.int .i64 (n : Int))).run Tryz.prog W = .ok (.slice (some ⟨W.heap.size, 0, none⟩) n n) (W.alloc (.cells (cells (zeros n)) 3)) := by
  obtain ⟨i0, hi, hz0, hz1, hz2⟩ := info_parts Tryz.infoI
  have h := run_make (P := Tryz.prog) W 31 3 i0 (.int .i64 0) Tryz.underlying31 hi hz0 .i64 .i64 (n : Int) (n : Int) (by omega) (by omega) (by rw [hz2]; omega) (by omega)
  rw [h, hz1]
  simp only [Int.toNat_natCast, Value.cells, made_zeros]

end Go.Proofs.YtaonkbfekadalaaGreatDoor
/- Plain: the counts of all windows of a row of segments: a tree in an array. -/
namespace Go.Proofs.YtaonkbfekadalaaGreatDoor
open Go.RowKit
set_option linter.unusedVariables false

/-- So many numbers, from one on, together. -/
def sumR (r : List Int) (a : Nat) : Nat → Int
  | 0 => 0
  | n + 1 => sumR r a n + nth r (a + n)
theorem sumR_succ (r : List Int) (a n : Nat) : sumR r a (n + 1) = sumR r a n + nth r (a + n) := rfl
theorem sumR_zero (r : List Int) (a : Nat) : sumR r a 0 = 0 := rfl
theorem sumR_add (r : List Int) (a m n : Nat) : sumR r a (m + n) = sumR r a m + sumR r (a + m) n := by
  induction n with
  | zero => simp [sumR]
  | succ n ih => rw [← Nat.add_assoc, sumR_succ, ih, sumR_succ, Nat.add_assoc a m n]; omega

/-- Right counts: a power of two of them, none below 0, none above 8. -/
structure Rt (r : List Int) (L : Nat) : Prop where
  le : L ≤ 9
  pow : r.length = 2 ^ L
  small : ∀ j, j < r.length → 0 ≤ nth r j ∧ nth r j ≤ 8
theorem pow_le {L : Nat} (h : L ≤ 9) : 2 ^ L ≤ 512 := Nat.pow_le_pow_right (n := 2) (by decide) h
theorem pow_pos2 (L : Nat) : 1 ≤ 2 ^ L := Nat.one_le_two_pow
theorem Rt.len_le {r : List Int} {L : Nat} (h : Rt r L) : r.length ≤ 512 := by rw [h.pow]; exact pow_le h.le
theorem Rt.len_pos {r : List Int} {L : Nat} (h : Rt r L) : 1 ≤ r.length := by rw [h.pow]; exact pow_pos2 L

theorem sumR_bd {r : List Int} {L : Nat} (h : Rt r L) (a n : Nat) (hl : a + n ≤ r.length) : 0 ≤ sumR r a n ∧ sumR r a n ≤ 8 * n := by
  induction n with
  | zero => simp [sumR]
  | succ n ih =>
    have h1 := ih (by omega)
    have h2 := h.small (a + n) (by omega)
    rw [sumR_succ]; push_cast; omega
theorem sumR_mono {r : List Int} {L : Nat} (h : Rt r L) {a b : Nat} (hab : a ≤ b) (hb : b ≤ r.length) : sumR r 0 a ≤ sumR r 0 b := by
  obtain ⟨c, rfl⟩ := Nat.le.dest hab
  rw [sumR_add]
  have := (sumR_bd h (0 + a) c (by omega)).1
  omega

/-- t holds the counts of all windows of the segments' counts r. -/
structure TI (r t : List Int) : Prop where
  len : t.length = 2 * r.length
  leaf : ∀ j, j < r.length → nth t (r.length + j) = nth r j
  node : ∀ i, 1 ≤ i → i < r.length → nth t i = nth t (2 * i) + nth t (2 * i + 1)

/-- A WINDOW's NODE HAS WHAT ITS SEGMENTS HAVE, TOGETHER. -/
theorem win {r t : List Int} (h : TI r t) : ∀ (l m k : Nat), r.length = m * 2 ^ l → k < m → nth t (m + k) = sumR r (k * 2 ^ l) (2 ^ l)
  | 0, m, k, hm, hk => by
    have e : m = r.length := by rw [hm]; simp
    subst e
    rw [h.leaf k hk]
    simp [sumR]
  | l + 1, m, k, hm, hk => by
    have h2 : 2 ^ (l + 1) = 2 * 2 ^ l := by rw [Nat.pow_succ, Nat.mul_comm]
    have hm2 : r.length = (2 * m) * 2 ^ l := by rw [hm, h2, Nat.mul_comm 2 m, Nat.mul_assoc]
    have hlt : m + k < r.length := by
      have : 2 * m * 1 ≤ 2 * m * 2 ^ l := Nat.mul_le_mul_left _ (pow_pos2 l)
      omega
    rw [h.node (m + k) (by omega) hlt]
    have a := win h l (2 * m) (2 * k) hm2 (by omega)
    have b := win h l (2 * m) (2 * k + 1) hm2 (by omega)
    rw [show 2 * (m + k) = 2 * m + 2 * k by omega, show 2 * m + 2 * k + 1 = 2 * m + (2 * k + 1) by omega, a, b]
    rw [show k * 2 ^ (l + 1) = 2 * k * 2 ^ l by rw [h2, Nat.mul_comm 2 k, Nat.mul_assoc], h2, Nat.two_mul (2 ^ l), sumR_add]
    congr 2
    rw [Nat.add_mul, Nat.one_mul]

/-- The level of a node. -/
theorem lvl : ∀ (L i : Nat), 1 ≤ i → i < 2 * 2 ^ L → ∃ e l, e + l = L ∧ 2 ^ e ≤ i ∧ i < 2 * 2 ^ e
  | 0, i, h1, h2 => ⟨0, 0, rfl, by simpa using h1, by simpa using h2⟩
  | L + 1, i, h1, h2 => by
    by_cases hc : 2 ^ (L + 1) ≤ i
    · exact ⟨L + 1, 0, rfl, hc, h2⟩
    · obtain ⟨e, l, he, ha, hb⟩ := lvl L i h1 (by rw [Nat.pow_succ] at hc; omega)
      exact ⟨e, l + 1, by omega, ha, hb⟩
theorem pow_split {e l L : Nat} (h : e + l = L) : 2 ^ L = 2 ^ e * 2 ^ l := by rw [← h, Nat.pow_add]
/-- A node, by its level. -/
theorem winL {r t : List Int} {L : Nat} (h : TI r t) (hr : Rt r L) {e l k : Nat} (he : e + l = L) (hk : k < 2 ^ e) : nth t (2 ^ e + k) = sumR r (k * 2 ^ l) (2 ^ l) :=
  win h l (2 ^ e) k (by rw [hr.pow, pow_split he]) hk
theorem win_in {L e l k : Nat} (he : e + l = L) (hk : k < 2 ^ e) : k * 2 ^ l + 2 ^ l ≤ 2 ^ L := by
  rw [pow_split he]
  have : (k + 1) * 2 ^ l ≤ 2 ^ e * 2 ^ l := Nat.mul_le_mul_right _ hk
  rwa [Nat.add_mul, Nat.one_mul] at this
theorem node_bd {r t : List Int} {L : Nat} (h : TI r t) (hr : Rt r L) {i : Nat} (h1 : 1 ≤ i) (h2 : i < 2 * r.length) : 0 ≤ nth t i ∧ nth t i ≤ 4096 := by
  obtain ⟨e, l, he, ha, hb⟩ := lvl L i h1 (by rw [← hr.pow]; exact h2)
  obtain ⟨k, rfl⟩ := Nat.le.dest ha
  rw [winL h hr he (by omega)]
  have hin := win_in he (k := k) (by omega)
  have := sumR_bd hr (k * 2 ^ l) (2 ^ l) (by rw [hr.pow]; exact hin)
  have hp : 2 ^ l ≤ 512 := Nat.le_trans (by have := win_in he (k := k) (by omega); omega) (pow_le hr.le)
  have hp' : ((2 ^ l : Nat) : Int) ≤ 512 := Int.ofNat_le.2 hp
  omega
theorem root {r t : List Int} {L : Nat} (h : TI r t) (hr : Rt r L) : nth t 1 = sumR r 0 r.length := by
  have := winL h hr (e := 0) (l := L) (k := 0) (by omega) (by decide)
  rw [hr.pow]
  simpa using this

/-! ### Ahead -/
/-- What is ahead of a node's window, by its level. -/
def leftOf (r : List Int) (e l i : Nat) : Int := sumR r 0 ((i - 2 ^ e) * 2 ^ l)
theorem left_even {r : List Int} {e l i : Nat} (he : 2 ^ (e + 1) ≤ i) (h : i % 2 = 0) : leftOf r (e + 1) l i = leftOf r e (l + 1) (i / 2) := by
  unfold leftOf
  rw [Nat.pow_succ] at he
  rw [Nat.pow_succ, Nat.pow_succ, show i - 2 ^ e * 2 = (i / 2 - 2 ^ e) * 2 by omega, Nat.mul_assoc, Nat.mul_comm 2]
theorem left_odd {r t : List Int} {L e l i : Nat} (ht : TI r t) (hr : Rt r L) (hL : e + 1 + l = L) (he : 2 ^ (e + 1) ≤ i) (hi : i < 2 * 2 ^ (e + 1)) (h : i % 2 = 1) : leftOf r (e + 1) l i = leftOf r e (l + 1) (i / 2) + nth t (i - 1) := by
  have hp : 2 ^ (e + 1) = 2 ^ e * 2 := Nat.pow_succ ..
  have hw := winL ht hr (k := i - 1 - 2 ^ (e + 1)) hL (by omega)
  rw [show 2 ^ (e + 1) + (i - 1 - 2 ^ (e + 1)) = i - 1 by omega] at hw
  rw [hw]
  unfold leftOf
  have h1 : (i / 2 - 2 ^ e) * 2 ^ (l + 1) = (i - 1 - 2 ^ (e + 1)) * 2 ^ l := by
    rw [Nat.pow_succ 2 l, hp, show i - 1 - 2 ^ e * 2 = (i / 2 - 2 ^ e) * 2 by omega, Nat.mul_assoc, Nat.mul_comm 2]
  have h2 : (i - 2 ^ (e + 1)) * 2 ^ l = (i - 1 - 2 ^ (e + 1)) * 2 ^ l + 2 ^ l := by
    rw [show i - 2 ^ (e + 1) = (i - 1 - 2 ^ (e + 1)) + 1 by omega, Nat.add_mul, Nat.one_mul]
  rw [h1, h2, sumR_add, Nat.zero_add]

/-! ### Find -/
/-- The n-th element is the k-th one of segment s. -/
structure At (r : List Int) (n : Int) (s : Nat) (k : Int) : Prop where
  lt : s < r.length
  eq : k = n - sumR r 0 s
  ge : 0 ≤ k
  own : k < nth r s
theorem At.uniq {r : List Int} {L : Nat} (hr : Rt r L) {n : Int} {s s' : Nat} {k k' : Int} (h : At r n s k) (h' : At r n s' k') : s = s' ∧ k = k' := by
  have key : ∀ {a b : Nat} {x y : Int}, At r n a x → At r n b y → ¬ a < b := fun {a b x y} ha hb hlt => by
    have h1 := sumR_mono hr (show a + 1 ≤ b from hlt) (by have := hb.lt; omega)
    rw [sumR_succ, Nat.zero_add] at h1
    have := ha.eq; have := ha.own; have := hb.eq; have := hb.ge
    omega
  have e : s = s' := by
    have := key h h'; have := key h' h; omega
  subst e
  exact ⟨rfl, by rw [h.eq, h'.eq]⟩

/-! ### Add -/
/-- The tree on its way: all nodes above i, i among them, have yet to grow by n. -/
structure Up (r t : List Int) (i : Nat) (n : Int) : Prop where
  len : t.length = 2 * r.length
  lt : i < r.length
  leaf : ∀ j, j < r.length → nth t (r.length + j) = nth r j
  node : ∀ k, 1 ≤ k → k < r.length → nth t k + (if k = i then n else 0) = nth t (2 * k) + nth t (2 * k + 1)
  bd : ∀ k, 1 ≤ k → k ≤ i → 0 ≤ nth t k ∧ nth t k ≤ 4096
theorem Up.done {r t : List Int} {n : Int} (h : Up r t 0 n) : TI r t :=
  ⟨h.len, h.leaf, fun i h1 h2 => by have := h.node i h1 h2; rw [if_neg (by omega)] at this; omega⟩
theorem Up.start {r t : List Int} {L : Nat} (h : TI r t) (hr : Rt r L) {s : Nat} (hs : s < r.length) (n : Int) :
    Up (r.set s (nth r s + n)) (t.set (r.length + s) (nth t (r.length + s) + n)) ((r.length + s) / 2) n := by
  have hp := hr.len_pos
  have hl := h.len
  refine ⟨by simp [h.len], by simp; omega, fun j hj => ?_, fun k h1 h2 => ?_, fun k h1 h2 => ?_⟩
  · rw [List.length_set] at hj ⊢
    by_cases e : j = s
    · subst e
      rw [nth_set_self _ (by omega), nth_set_self _ hj, h.leaf j hj]
    · rw [nth_set_other _ (by omega), nth_set_other _ (by omega), h.leaf j hj]
  · rw [List.length_set] at h2
    rw [nth_set_other _ (by omega), h.node k h1 h2]
    by_cases e : k = (r.length + s) / 2
    · rw [if_pos e]
      by_cases ev : (r.length + s) % 2 = 0
      · rw [show 2 * k = r.length + s by omega, nth_set_self _ (by omega), nth_set_other _ (by omega)]; omega
      · rw [show 2 * k + 1 = r.length + s by omega, nth_set_self _ (by omega), nth_set_other _ (by omega)]; omega
    · rw [if_neg e, nth_set_other _ (by omega), nth_set_other _ (by omega)]; omega
  · rw [nth_set_other _ (by omega)]
    exact node_bd h hr h1 (by omega)
theorem Up.step {r t : List Int} {i : Nat} {n : Int} (h : Up r t i n) (h1 : 1 ≤ i) : Up r (t.set i (nth t i + n)) (i / 2) n := by
  have hl := h.len
  have hlt := h.lt
  refine ⟨by simp [h.len], by omega, fun j hj => ?_, fun k k1 k2 => ?_, fun k k1 k2 => ?_⟩
  · rw [nth_set_other _ (by omega), h.leaf j hj]
  · have hn := h.node k k1 k2
    by_cases e : k = i
    · subst e
      rw [if_pos rfl] at hn
      rw [nth_set_self _ (by omega), nth_set_other _ (by omega), nth_set_other _ (by omega), if_neg (by omega)]; omega
    · rw [if_neg e] at hn
      rw [nth_set_other (k := i) (j := k) _ (by omega)]
      by_cases e2 : k = i / 2
      · rw [if_pos e2]
        by_cases ev : i % 2 = 0
        · rw [show 2 * k = i by omega] at hn ⊢
          rw [nth_set_self _ (by omega), nth_set_other _ (by omega)]; omega
        · rw [show 2 * k + 1 = i by omega] at hn ⊢
          rw [nth_set_self _ (by omega), nth_set_other _ (by omega)]; omega
      · rw [if_neg e2, nth_set_other _ (by omega), nth_set_other _ (by omega)]; omega
  · rw [nth_set_other _ (by omega)]
    exact h.bd k k1 (by omega)
theorem Rt.set {r : List Int} {L : Nat} (hr : Rt r L) (s : Nat) {x : Int} (h0 : 0 ≤ x) (h8 : x ≤ 8) : Rt (r.set s x) L := by
  refine ⟨hr.le, by simp [hr.pow], fun j hj => ?_⟩
  rw [List.length_set] at hj
  by_cases e : s = j
  · subst e
    rw [nth_set_self _ hj]; omega
  · rw [nth_set_other _ e]; exact hr.small j hj

/-! ### New -/
/-- The tree half made: nodes above i are right. -/
structure Half (r t : List Int) (i : Nat) : Prop where
  len : t.length = 2 * r.length
  leaf : ∀ j, j < r.length → nth t (r.length + j) = nth r j
  node : ∀ k, i < k → k < r.length → nth t k = nth t (2 * k) + nth t (2 * k + 1)
theorem Half.done {r t : List Int} (h : Half r t 0) : TI r t := ⟨h.len, h.leaf, fun i h1 h2 => h.node i (by omega) h2⟩
theorem Half.step {r t : List Int} {i : Nat} (h : Half r t (i + 1)) (hi : i + 1 < r.length) : Half r (t.set (i + 1) (nth t (2 * (i + 1)) + nth t (2 * (i + 1) + 1))) i := by
  have hl := h.len
  refine ⟨by simp [h.len], fun j hj => ?_, fun k k1 k2 => ?_⟩
  · rw [nth_set_other _ (by omega), h.leaf j hj]
  · by_cases e : k = i + 1
    · subst e
      rw [nth_set_self _ (by omega), nth_set_other _ (by omega), nth_set_other _ (by omega)]
    · rw [nth_set_other (k := i + 1) (j := k) _ (by omega), nth_set_other _ (by omega), nth_set_other _ (by omega)]
      exact h.node k (by omega) k2
end Go.Proofs.YtaonkbfekadalaaGreatDoor
/- A tree in memory; what Segs, Total, Ahead and Find come to. -/
namespace Go.Proofs.YtaonkbfekadalaaGreatDoor
open Go.RowKit
set_option linter.unusedVariables false

/-- A block of whole numbers that begins with the numbers xs. -/
def BI (w : World) (g : Nat) (xs : List Int) : Prop := ∃ cs, Blk w g 3 cs ∧ ∀ k, k < xs.length → cs[k]? = some (.int .i64 (nth xs k))
section
variable {w w' : World} {g : Nat} {xs : List Int}
theorem BI.of_blk (h : Blk w g 3 (cells xs)) : BI w g xs := ⟨_, h, fun k hk => cells_get hk⟩
theorem BI.cell (h : BI w g xs) {k : Nat} (hk : k < xs.length) : w.cell? ⟨g, k, none⟩ = some (.int .i64 (nth xs k)) := by
  obtain ⟨cs, hb, hc⟩ := h
  rw [hb.cell, hc k hk]
theorem BI.frozen (h : BI w g xs) (k : Nat) : w.frozen? ⟨g, k, none⟩ = false := by
  obtain ⟨cs, hb, hc⟩ := h
  exact hb.frozen k
theorem BI.lt (h : BI w g xs) : g < w.heap.size := by
  obtain ⟨cs, hb, hc⟩ := h
  exact hb.lt
theorem BI.put (h : BI w g xs) (i : Nat) (x : Int) : BI (w.setCell ⟨g, i, none⟩ (.int .i64 x)) g (xs.set i x) := by
  obtain ⟨cs, hb, hc⟩ := h
  refine ⟨_, hb.put i _, fun k hk => ?_⟩
  rw [List.length_set] at hk
  by_cases e : i = k
  · subst e
    rw [nth_set_self _ hk]
    have := hc i hk
    have hlt : i < cs.size := (Array.getElem?_eq_some_iff.1 this).1
    simp [hlt]
  · rw [nth_set_other _ e, ← hc k hk]
    simp [e]
theorem BI.far (h : BI w g xs) {p : Addr} (hp : g ≠ p.block) (u : Value) : BI (w.setCell p u) g xs := by
  obtain ⟨cs, hb, hc⟩ := h
  exact ⟨cs, hb.far hp u, hc⟩
theorem BI.alloc (h : BI w g xs) (o : Obj) : BI (w.alloc o) g xs := by
  obtain ⟨cs, hb, hc⟩ := h
  exact ⟨cs, hb.alloc o, hc⟩
theorem BI.drewN (h : BI w g xs) (n : Nat) : BI (w.drewN n) g xs := h
theorem BI.below {B : Nat} (h : BI w g xs) (hb : Below B w w') (hg : g < B) : BI w' g xs := by
  obtain ⟨cs, h1, hc⟩ := h
  exact ⟨cs, h1.below hb hg, hc⟩
theorem BI.grown {row : Option Nat} (h : BI w g xs) (hb : w.grownBy w' row) (hg : some g ≠ row) : BI w' g xs := by
  obtain ⟨cs, h1, hc⟩ := h
  exact ⟨cs, h1.grown hb hg, hc⟩
theorem BI.ne_ {g' : Nat} {t' : TypeId} {cs' : Array Value} (h : BI w g xs) (h' : Blk w g' t' cs') (hne : (3 : TypeId) ≠ t') : g ≠ g' := by
  obtain ⟨cs, h1, hc⟩ := h
  exact h1.ne_ h' hne
theorem RI_of_BI (h : BI w g xs) : RI w (some ⟨g, 0, none⟩) xs := fun _ => ⟨g, 0, rfl, fun k hk => by rw [Nat.zero_add, h.cell hk]⟩
end

/-- A tree lies at p, its array in block g; r are the segments' counts. -/
structure TM (w : World) (p g cap S : Nat) (r t : List Int) : Prop where
  hS : r.length = S
  hp : Blk w p 161 #[.int .i64 (S : Int), .slice (some ⟨g, 0, none⟩) (2 * S) cap]
  hg : BI w g t
  ti : TI r t
  cap : 2 * S ≤ cap ∧ cap ≤ 9223372036854775807
section
variable {w w' : World} {p g cap S : Nat} {r t : List Int}
theorem TM.c0 (h : TM w p g cap S r t) : w.cell? ⟨p, 0, none⟩ = some (.int .i64 (S : Int)) := by rw [h.hp.cell]; rfl
theorem TM.c1 (h : TM w p g cap S r t) : w.cell? ⟨p, 1, none⟩ = some (.slice (some ⟨g, 0, none⟩) (2 * S) cap) := by rw [h.hp.cell]; rfl
theorem TM.ne (h : TM w p g cap S r t) : g ≠ p := h.hg.ne_ h.hp (by decide)
theorem TM.tlen (h : TM w p g cap S r t) : t.length = 2 * S := by rw [h.ti.len, h.hS]
theorem TM.at_ (h : TM w p g cap S r t) {k : Nat} (hk : k < 2 * S) : w.cell? ⟨g, k, none⟩ = some (.int .i64 (nth t k)) := h.hg.cell (by rw [h.tlen]; exact hk)
theorem TM.drewN (h : TM w p g cap S r t) (n : Nat) : TM (w.drewN n) p g cap S r t := ⟨h.hS, h.hp, h.hg, h.ti, h.cap⟩
theorem TM.alloc (h : TM w p g cap S r t) (o : Obj) : TM (w.alloc o) p g cap S r t := ⟨h.hS, h.hp.alloc o, h.hg.alloc o, h.ti, h.cap⟩
theorem TM.below {B : Nat} (h : TM w p g cap S r t) (hb : Below B w w') (h1 : p < B) (h2 : g < B) : TM w' p g cap S r t := ⟨h.hS, h.hp.below hb h1, h.hg.below hb h2, h.ti, h.cap⟩
theorem TM.below' (h : TM w p g cap S r t) (hb : Below w.heap.size w w') : TM w' p g cap S r t := h.below hb h.hp.lt h.hg.lt
theorem TM.grown {row : Option Nat} (h : TM w p g cap S r t) (hb : w.grownBy w' row) (h1 : some p ≠ row) (h2 : some g ≠ row) : TM w' p g cap S r t := ⟨h.hS, h.hp.grown hb h1, h.hg.grown hb h2, h.ti, h.cap⟩
theorem TM.far (h : TM w p g cap S r t) {q : Addr} (h1 : p ≠ q.block) (h2 : g ≠ q.block) (u : Value) : TM (w.setCell q u) p g cap S r t := ⟨h.hS, h.hp.far h1 u, h.hg.far h2 u, h.ti, h.cap⟩
end

theorem TTotal_ok {w : World} {p g cap S L : Nat} {r t : List Int} (h : TM w p g cap S r t) (hr : Rt r L) :
    Calls Tryz.prog 159 #[.pointer (some ⟨p, 0, none⟩)] w fun e w' => e = .returned (.int .i64 (sumR r 0 S)) ∧ w = w' := by
  have hs := hr.len_pos
  rw [h.hS] at hs
  have c1 := h.c1
  have ca := h.at_ (k := 1) (by omega)
  have hr1 := root h.ti hr
  rw [h.hS] at hr1
  rw [hr1] at ca
  clear hr1 h
  go_enter Tryz.func159, Tryz.ntmps159
  go_wp2
  go_ret
  exact ⟨rfl, rfl⟩

theorem tdiv_two (i : Nat) : ((i : Nat) : Int).tdiv 2 = ((i / 2 : Nat) : Int) := by rw [Int.tdiv_eq_ediv_of_nonneg (by omega)]; omega
theorem tmod_two (i : Nat) : ((i : Nat) : Int).tmod 2 = ((i % 2 : Nat) : Int) := by rw [Int.tmod_eq_emod_of_nonneg (by omega)]; omega

theorem left_bd {r : List Int} {L e l q : Nat} (hr : Rt r L) (he : e + l = L) (h1 : 2 ^ e ≤ q) (h2 : q < 2 * 2 ^ e) : 0 ≤ leftOf r e l q ∧ leftOf r e l q ≤ 4096 := by
  unfold leftOf
  have hm : (q - 2 ^ e) * 2 ^ l ≤ 2 ^ e * 2 ^ l := Nat.mul_le_mul_right _ (by omega)
  rw [← pow_split he] at hm
  have hp := pow_le hr.le
  generalize (q - 2 ^ e) * 2 ^ l = x at hm
  have := sumR_bd hr 0 x (by rw [hr.pow]; omega)
  omega
set_option maxRecDepth 100000 in
set_option maxHeartbeats 800000 in
theorem TAhead_ok {w : World} {p g cap S L : Nat} {r t : List Int} (h : TM w p g cap S r t) (hr : Rt r L) (seg : Nat) (hs : seg ≤ S) :
    Calls Tryz.prog 161 #[.pointer (some ⟨p, 0, none⟩), .int .i64 seg] w fun e w' => e = .returned (.tuple #[.int .i64 (sumR r 0 seg), .int .i64 0]) ∧ w = w' := by
  have hS := h.hS
  have hs1 := hr.len_pos
  have hs2 := hr.len_le
  have hpow := hr.pow
  rw [hS] at hs1 hs2 hpow
  have c0 := h.c0
  have c1 := h.c1
  have i1 : (seg : Int) ≤ (S : Int) := by omega
  have i0 : (0 : Int) ≤ (seg : Int) := by omega
  have i3 : (S : Int) ≤ 512 := by omega
  by_cases hl : seg = S
  · have ca := h.at_ (k := 1) (by omega)
    have hr1 := root h.ti hr
    rw [hS, ← hl] at hr1
    rw [hr1] at ca
    have t1 : ((seg : Int) == (S : Int)) = true := by simp; omega
    clear hr1 h hl hpow hS
    go_enter Tryz.func161, Tryz.ntmps161
    go_wp2
    go_ret2
    exact ⟨rfl, rfl⟩
  · have t1 : ((seg : Int) == (S : Int)) = false := by simp; omega
    have hlt : seg < S := by omega
    have hst : leftOf r L 0 (S + seg) = sumR r 0 seg := by unfold leftOf; rw [hpow]; simp
    have htot := sumR_bd hr 0 seg (by omega)
    have HS := Lib.hid hS
    have HPOW := Lib.hid hpow
    clear hS hpow hl
    go_enter Tryz.func161, Tryz.ntmps161
    go_wp2
    go_loop [6, 7] (fun n i => ∃ e l q : Nat, e + l = L ∧ 2 ^ e ≤ q ∧ q < 2 * 2 ^ e ∧ i = .int .i64 q ∧ n = .int .i64 (sumR r 0 seg - leftOf r e l q)) (fun _ i => (intOf i).toNat)
    case atStart =>
      refine ⟨L, 0, S + seg, rfl, by rw [← HPOW.out]; omega, by rw [← HPOW.out]; omega, by go_num, by rw [hst]; simp⟩
    case round =>
      obtain ⟨e, l, q, he, hq1, hq2, rfl, rfl⟩ := hrel
      have bl := left_bd hr he hq1 hq2
      have bl0 := bl.1
      have bl1 := bl.2
      have ht0 := htot.1
      have ht1 := htot.2
      clear bl htot hst
      by_cases hq : 1 < q
      · obtain ⟨e', rfl⟩ : ∃ e', e = e' + 1 := by
          cases e with
          | zero => simp at hq2; omega
          | succ e' => exact ⟨e', rfl⟩
        have hqS : q < 2 * S := by
          have : 2 ^ (e' + 1) ≤ 2 ^ L := Nat.pow_le_pow_right (by decide) (by omega)
          have := HPOW.out
          omega
        have hp2 : 2 ^ (e' + 1) = 2 * 2 ^ e' := by rw [Nat.pow_succ, Nat.mul_comm]
        have td := tdiv_two q
        have tm := tmod_two q
        have bl' := left_bd hr (e := e') (l := l + 1) (q := q / 2) (by omega) (by omega) (by omega)
        have bl2 := bl'.1
        have bl3 := bl'.2
        have k1 : (1 : Int) < (q : Int) := by omega
        have k2 : (q : Int) < 1024 := by omega
        clear bl'
        by_cases hpar : q % 2 = 1
        · have hodd := left_odd h.ti hr (by omega) hq1 hq2 hpar
          have ca := h.at_ (k := q - 1) (by omega)
          have nb := node_bd h.ti hr (i := q - 1) (by omega) (by rw [HS.out]; omega)
          have nb0 := nb.1
          have nb1 := nb.2
          generalize nth t (q - 1) = y at ca hodd nb0 nb1
          generalize leftOf r (e' + 1) l q = A at hodd bl0 bl1 ⊢
          have e1 : sumR r 0 seg - A + y = sumR r 0 seg - leftOf r e' (l + 1) (q / 2) := by omega
          have E1 := Lib.hid e1
          have HODD := Lib.hid hodd
          rw [hpar] at tm
          have n8 : IntKind.i64.wrap ((q : Int) - 1) = (q : Int) - 1 := IntWalk.i64_in _ (by omega)
          have n10 : ((q : Int) - 1).toNat = q - 1 := by omega
          have n11 : (q : Int) - 1 < 2 * (S : Int) := by omega
          have n12 : (0 : Int) ≤ (q : Int) - 1 := by omega
          clear nb e1 hodd hp2
          go_wp2
          go_round
          case rel => exact ⟨e', l + 1, q / 2, by omega, by rw [Nat.pow_succ] at hq1; omega, by rw [Nat.pow_succ] at hq2; omega, rfl, by rw [E1.out]⟩
          case measure => simp [intOf]; omega
        · have hev := left_even (r := r) (l := l) hq1 (by omega : q % 2 = 0)
          have HEV := Lib.hid hev
          have tm0 : ((q : Nat) : Int).tmod 2 = 0 := by rw [tm]; omega
          have HP := Lib.hid hpar
          clear hev hpar hp2 tm
          go_wp2
          go_round
          case rel => exact ⟨e', l + 1, q / 2, by omega, by rw [Nat.pow_succ] at hq1; omega, by rw [Nat.pow_succ] at hq2; omega, rfl, by rw [HEV.out]⟩
          case measure => simp [intOf]; omega
      · have hq3 : q = 1 := by have := pow_pos2 e; omega
        subst hq3
        have he0 : e = 0 := by
          cases e with
          | zero => rfl
          | succ e' => have := pow_pos2 e'; rw [Nat.pow_succ] at hq1; omega
        subst he0
        have hz : leftOf r 0 l 1 = 0 := by simp [leftOf, sumR]
        rw [hz]
        clear hz hq
        go_wp2
        go_ret2
        exact ⟨by simp, rfl⟩
end Go.Proofs.YtaonkbfekadalaaGreatDoor
/- What Find comes to; the document's Sum and Find. -/
namespace Go.Proofs.YtaonkbfekadalaaGreatDoor
open Go.RowKit
set_option linter.unusedVariables false

theorem TFind_none {w : World} {p g cap S L : Nat} {r t : List Int} (h : TM w p g cap S r t) (hr : Rt r L) (n : Int) (hn : ¬ (0 ≤ n ∧ n < sumR r 0 S)) :
    Calls Tryz.prog 162 #[.pointer (some ⟨p, 0, none⟩), .int .i64 n] w fun e w' => e = .returned (.tuple #[.int .i64 0, .int .i64 0, .int .i64 14]) ∧ w = w' := by
  have hs := hr.len_pos
  rw [h.hS] at hs
  have c1 := h.c1
  have ca := h.at_ (k := 1) (by omega)
  have hr1 := root h.ti hr
  rw [h.hS] at hr1
  rw [hr1] at ca
  clear hr1 h
  by_cases h0 : n < 0
  · clear hn
    go_enter Tryz.func162, Tryz.ntmps162
    go_wp2
    go_ret3
    exact ⟨rfl, rfl⟩
  · have h1 : sumR r 0 S ≤ n := by omega
    clear hn
    go_enter Tryz.func162, Tryz.ntmps162
    go_wp2
    go_ret3
    exact ⟨rfl, rfl⟩

set_option maxRecDepth 100000 in
set_option maxHeartbeats 800000 in
theorem TFind_ok {w : World} {p g cap S L : Nat} {r t : List Int} (h : TM w p g cap S r t) (hr : Rt r L) (n : Int) (hn : 0 ≤ n ∧ n < sumR r 0 S) :
    Calls Tryz.prog 162 #[.pointer (some ⟨p, 0, none⟩), .int .i64 n] w fun e w' => (∃ (s : Nat) (k : Int), e = .returned (.tuple #[.int .i64 s, .int .i64 k, .int .i64 0]) ∧ At r n s k) ∧ w = w' := by
  have hS := h.hS
  have hs1 := hr.len_pos
  have hs2 := hr.len_le
  have hpow := hr.pow
  rw [hS] at hs1 hs2 hpow
  have c0 := h.c0
  have c1 := h.c1
  have i3 : (S : Int) ≤ 512 := by omega
  have n0 := hn.1
  have n1 := hn.2
  have ca := h.at_ (k := 1) (by omega)
  have hr1 := root h.ti hr
  rw [hS] at hr1
  have HR1 := Lib.hid hr1
  rw [hr1] at ca
  have htot := (sumR_bd hr 0 S (by omega)).2
  have HS := Lib.hid hS
  have HPOW := Lib.hid hpow
  clear hr1 hS hpow hn
  go_enter Tryz.func162, Tryz.ntmps162
  go_wp2
  clear ca
  go_loop [1, 7] (fun m i => ∃ e l q : Nat, e + l = L ∧ 2 ^ e ≤ q ∧ q < 2 * 2 ^ e ∧ i = .int .i64 q ∧ m = .int .i64 (n - leftOf r e l q) ∧ 0 ≤ n - leftOf r e l q ∧ n - leftOf r e l q < nth t q) (fun _ i => 2 * S - (intOf i).toNat)
  case atStart =>
    have hz : leftOf r 0 L 1 = 0 := by simp [leftOf, sumR]
    exact ⟨0, L, 1, by omega, by simp, by simp, rfl, by rw [hz]; simp, by rw [hz]; omega, by rw [hz, HR1.out]; omega⟩
  case round =>
    obtain ⟨e, l, q, he, hq1, hq2, rfl, rfl, b0, b1⟩ := hrel
    have hqe : 2 ^ e ≤ S := by rw [HPOW.out]; exact Nat.pow_le_pow_right (by decide) (by omega)
    have hq0 : 1 ≤ q := by have := pow_pos2 e; omega
    by_cases hqS : q < S
    · obtain ⟨l', rfl⟩ : ∃ l', l = l' + 1 := by
        cases l with
        | zero => obtain rfl : e = L := by omega
                  have := HPOW.out; omega
        | succ l' => exact ⟨l', rfl⟩
      have hp2 : 2 ^ (e + 1) = 2 * 2 ^ e := by rw [Nat.pow_succ, Nat.mul_comm]
      have hodd := left_odd h.ti hr (e := e) (l := l') (i := 2 * q + 1) (by omega) (by omega) (by omega) (by omega)
      have hev := left_even (r := r) (e := e) (l := l') (i := 2 * q) (by omega) (by omega)
      rw [show (2 * q + 1) / 2 = q by omega, show 2 * q + 1 - 1 = 2 * q by omega] at hodd
      rw [show 2 * q / 2 = q by omega] at hev
      have hnode := h.ti.node q hq0 (by rw [HS.out]; exact hqS)
      have ca : w.cell? ⟨g, q * 2, none⟩ = some (.int .i64 (nth t (2 * q))) := by rw [Nat.mul_comm q 2]; exact h.at_ (k := 2 * q) (by omega)
      have nb := node_bd h.ti hr (i := 2 * q) (by omega) (by rw [HS.out]; omega)
      have nb0 := nb.1
      have nb1 := nb.2
      have bl := left_bd hr he hq1 hq2
      have k1 : (1 : Int) ≤ (q : Int) := by omega
      have k2 : (q : Int) < (S : Int) := by omega
      have HODD := Lib.hid hodd
      have HEV := Lib.hid hev
      have HN := Lib.hid hnode
      clear hodd hev hnode nb hp2
      generalize hy : nth t (2 * q) = y at ca nb0 nb1
      have HY := Lib.hid hy
      clear hy
      generalize hA : leftOf r e (l' + 1) q = A at b0 b1 bl ⊢
      have HA := Lib.hid hA
      clear hA
      have bl0 := bl.1
      have bl1 := bl.2
      clear bl
      by_cases hge : y ≤ n - A
      · go_wp2
        go_round
        case rel =>
          have e1 := HODD.out
          have e2 := HN.out
          rw [HA.out, HY.out] at e1
          rw [HY.out] at e2
          refine ⟨e + 1, l', 2 * q + 1, by omega, by rw [Nat.pow_succ]; omega, by rw [Nat.pow_succ]; omega, by go_num, by rw [e1]; congr 1; omega, by rw [e1]; omega, by rw [e1]; omega⟩
        case measure => simp [intOf]; omega
      · have hlt : n - A < y := by omega
        have HG := Lib.hid hge
        clear hge
        go_wp2
        go_round
        case rel =>
          have e1 := HEV.out
          rw [HA.out] at e1
          refine ⟨e + 1, l', 2 * q, by omega, by rw [Nat.pow_succ]; omega, by rw [Nat.pow_succ]; omega, by go_num, by rw [e1], by rw [e1]; omega, by rw [e1, HY.out]; omega⟩
        case measure => simp [intOf]; omega
    · have hl0 : l = 0 := by
        cases l with
        | zero => rfl
        | succ l' =>
          have h1 := pow_split he
          have h2 : 2 ^ e * 2 ≤ 2 ^ e * 2 ^ (l' + 1) := Nat.mul_le_mul_left _ (by rw [Nat.pow_succ]; have := pow_pos2 l'; omega)
          have := HPOW.out
          omega
      subst hl0
      obtain rfl : e = L := by omega
      have hz : leftOf r e 0 q = sumR r 0 (q - S) := by unfold leftOf; rw [← HPOW.out]; simp
      have hql : q - S < S := by have := HPOW.out; omega
      have hleaf := h.ti.leaf (q - S) (by rw [HS.out]; exact hql)
      rw [HS.out, show S + (q - S) = q by omega] at hleaf
      rw [hz] at b0 b1 ⊢
      rw [hleaf] at b1
      have k2 : (q : Int) < 1024 := by omega
      have k3 : (S : Int) ≤ (q : Int) := by omega
      have HL := Lib.hid hleaf
      clear hz hleaf
      go_wp2
      go_ret3
      refine ⟨⟨q - S, n - sumR r 0 (q - S), by go_num, ⟨by rw [HS.out]; exact hql, rfl, b0, b1⟩⟩, rfl⟩
end Go.Proofs.YtaonkbfekadalaaGreatDoor
/- Which numbers of segments there may be, and what Set and Add come to: plain; a slice's cells. -/
namespace Go.Proofs.YtaonkbfekadalaaGreatDoor
open Go.RowKit
set_option linter.unusedVariables false

theorem RI.cellN {w : World} {b off : Nat} {xs : List Int} (h : RI w (some ⟨b, off, none⟩) xs) {k : Nat} (hk : k < xs.length) : w.cell? ⟨b, off + k, none⟩ = some (.int .i64 (nth xs k)) := by
  obtain ⟨b', off', e, hc⟩ := h (by omega)
  injection e with e
  injection e with e1 e2
  subst e1 e2
  exact hc k hk

/-- May there be so many segments? -/
def powB (n : Nat) : Bool := decide (∃ e : Fin 10, n = 2 ^ e.1)
theorem powB_true {n : Nat} : powB n = true ↔ ∃ e, e ≤ 9 ∧ n = 2 ^ e := by
  unfold powB
  rw [decide_eq_true_iff]
  exact ⟨fun ⟨e, h⟩ => ⟨e.1, by omega, h⟩, fun ⟨e, h, h2⟩ => ⟨⟨e, by omega⟩, h2⟩⟩
/-- No count is below 0, none above 8. -/
def Smalls (r : List Int) : Prop := ∀ j, j < r.length → 0 ≤ nth r j ∧ nth r j ≤ 8
theorem Rt.powB {r : List Int} {L : Nat} (h : Rt r L) : powB r.length = true := powB_true.2 ⟨L, h.le, h.pow⟩

/-- What a Set comes to: the counts then, and what it tells. -/
def setV (r : List Int) (seg n : Int) : List Int × Int := if (0 ≤ seg ∧ seg < r.length) ∧ 0 ≤ n ∧ n ≤ 8 then (r.set seg.toNat n, 0) else (r, 10)
/-- What an Add comes to. -/
def addV (r : List Int) (seg n : Int) : List Int × Int := if (0 ≤ seg ∧ seg < r.length) ∧ -8 ≤ n ∧ n ≤ 8 then setV r seg (nth r seg.toNat + n) else (r, 10)
theorem Rt.setV {r : List Int} {L : Nat} (hr : Rt r L) (seg n : Int) : Rt (setV r seg n).1 L := by
  unfold YtaonkbfekadalaaGreatDoor.setV
  split
  · rename_i h; exact hr.set _ h.2.1 h.2.2
  · exact hr
theorem Rt.addV {r : List Int} {L : Nat} (hr : Rt r L) (seg n : Int) : Rt (addV r seg n).1 L := by
  unfold YtaonkbfekadalaaGreatDoor.addV
  split
  · exact hr.setV _ _
  · exact hr
theorem setV_ok {r : List Int} {s : Nat} {n : Int} (hs : s < r.length) (h0 : 0 ≤ n) (h8 : n ≤ 8) : setV r s n = (r.set s n, 0) := by
  unfold setV
  rw [if_pos ⟨⟨by omega, by omega⟩, h0, h8⟩, Int.toNat_natCast]
theorem setV_bad {r : List Int} {seg n : Int} (h : ¬ ((0 ≤ seg ∧ seg < r.length) ∧ 0 ≤ n ∧ n ≤ 8)) : setV r seg n = (r, 10) := by unfold setV; rw [if_neg h]
theorem addV_ok {r : List Int} {s : Nat} {n : Int} (hs : s < r.length) (h0 : -8 ≤ n) (h8 : n ≤ 8) : addV r s n = setV r s (nth r s + n) := by
  unfold addV
  rw [if_pos ⟨⟨by omega, by omega⟩, h0, h8⟩, Int.toNat_natCast]
end Go.Proofs.YtaonkbfekadalaaGreatDoor
/- What Add comes to. -/
namespace Go.Proofs.YtaonkbfekadalaaGreatDoor
open Go.RowKit
set_option linter.unusedVariables false

theorem may_true {n : Int} (h0 : 0 ≤ n) (h8 : n ≤ 8) (w : World) : Calls Tryz.prog 126 #[.int .i64 n] w fun e w' => e = .returned (.bool true) ∧ w = w' := by
  go_enter Tryz.func126, Tryz.ntmps126
  go_wp2
  go_ret
  exact ⟨rfl, rfl⟩
theorem may_false {n : Int} (h : ¬ (0 ≤ n ∧ n ≤ 8)) (w : World) : Calls Tryz.prog 126 #[.int .i64 n] w fun e w' => e = .returned (.bool false) ∧ w = w' := by
  by_cases h0 : n < 0
  · clear h
    go_enter Tryz.func126, Tryz.ntmps126
    go_wp2
    go_ret
    exact ⟨rfl, rfl⟩
  · have h8 : 8 < n := by omega
    have h0' : 0 ≤ n := by omega
    have t : decide (n ≤ 8) = false := by simp; omega
    clear h h0
    go_enter Tryz.func126, Tryz.ntmps126
    go_wp2
    go_ret
    exact ⟨rfl, rfl⟩

set_option maxRecDepth 1000000 in
set_option maxHeartbeats 800000 in
theorem TAdd_ok {w : World} {p g cap S L : Nat} {r t : List Int} (h : TM w p g cap S r t) (hr : Rt r L) (s : Nat) (n : Int) (hs : s < S) (hn : -8 ≤ n ∧ n ≤ 8) (hm : 0 ≤ nth r s + n ∧ nth r s + n ≤ 8) :
    Calls Tryz.prog 76 #[.pointer (some ⟨p, 0, none⟩), .int .i64 s, .int .i64 n] w fun e w' => e = .returned (.int .i64 0) ∧ (∃ t', TM w' p g cap S (r.set s (nth r s + n)) t') ∧ w.grownBy w' (some g) := by
  have hS := h.hS
  have hs1 := hr.len_pos
  have hs2 := hr.len_le
  rw [hS] at hs1 hs2
  have c0 := h.c0
  have c1 := h.c1
  have ca : w.cell? ⟨g, S + s, none⟩ = some (.int .i64 (nth r s)) := by
    have := h.ti.leaf s (by omega)
    rw [hS] at this
    rw [← this]; exact h.at_ (by omega)
  have f0 := h.hg.frozen (S + s)
  have i0 : (0 : Int) ≤ (s : Int) := by omega
  have i1 : (s : Int) < (S : Int) := by omega
  have i2 : (S : Int) ≤ 512 := by omega
  have n0 := hn.1
  have n1 := hn.2
  have m0 := hm.1
  have m1 := hm.2
  have bd := hr.small s (by omega)
  have b0 := bd.1
  have b1 := bd.2
  have HS := Lib.hid hS
  clear hn hm bd hS
  have hmay := fun W => may_true m0 m1 W
  have n7 : IntKind.i64.wrap (nth r s + n) = nth r s + n := IntWalk.i64_in _ (by omega)
  have n8 : IntKind.i64.wrap ((S : Int) + (s : Int)) = (S : Int) + (s : Int) := IntWalk.i64_in _ (by omega)
  have n9 : ((S : Int) + (s : Int)).toNat = S + s := by omega
  have t1 : decide ((s : Int) < 0) = false := by simp
  have t2 : decide ((S : Int) ≤ (s : Int)) = false := by simp; omega
  have t2' : decide (S ≤ s) = false := by simp; omega
  have t3 : decide (n < -8) = false := by simp; omega
  have t4 : decide (8 < n) = false := by simp; omega
  have hup := Up.start h.ti hr (by rw [HS.out]; exact hs : s < r.length) n
  have hup1 : Up (r.set s (nth r s + n)) (t.set (S + s) (nth r s + n)) ((S + s) / 2) n := by
    have h1 := h.ti.leaf s (by rw [HS.out]; exact hs)
    rw [h1, HS.out] at hup
    exact hup
  have HUP := Lib.hid hup1
  have hput := h.hg.put (S + s) (nth r s + n)
  have td := tdiv_two (S + s)
  have td' : ((S : Int) + (s : Int)).tdiv 2 = (((S + s) / 2 : Nat) : Int) := by rw [← td]; push_cast; rfl
  have hpne := h.ne
  clear hup hup1 td
  go_enter Tryz.func76, Tryz.ntmps76
  go_wp2
  refine wp_scope_jumps 0 (fun a' w' => ∃ (t1 : List Int) (q : Nat), (∃ u8 u9 u10 u11 u12 u13 u14 u15 u16 u17 u18 u19 u20 u21 u22 u23 u24 u25 u26 u27 u28 u29 u30 u31 u32 u33 u34 u35 u36 u37 u38 u39 u40 u41 u42 u43 u44 u45 u46 u47 u48 u49 u50 u51 u52 u53 u54 u55 u56 u57 u58 u59 u60 u61 u62 u63 u64 u65 u66 u67 : Value, a' = { tmps := #[.pointer (some ⟨p, 0, none⟩), .int .i64 s, .int .i64 n, undef, undef, undef, .int .i64 0, .int .i64 q, u8, u9, u10, u11, u12, u13, u14, u15, u16, u17, u18, u19, u20, u21, u22, u23, u24, u25, u26, u27, u28, u29, u30, u31, u32, u33, u34, u35, u36, u37, u38, u39, u40, u41, u42, u43, u44, u45, u46, u47, u48, u49, u50, u51, u52, u53, u54, u55, u56, u57, u58, u59, u60, u61, u62, u63, u64, u65, u66, u67], defers := [] }) ∧ 1 ≤ q ∧ Blk w' p 161 #[.int .i64 (S : Int), .slice (some ⟨g, 0, none⟩) (2 * S) cap] ∧ BI w' g t1 ∧ Up (r.set s (nth r s + n)) t1 q n ∧ w.grownBy w' (some g)) (fun a' _ => (intOf (a'.tmps.getD 7 undef)).toNat) rfl ?_ ?_
  · go_wp2
    go_quiet ((go_at_call 126; exact (hmay _).mono fun _ _ h => ⟨h.1, _, h.2.symm⟩))
    by_cases hz : 1 ≤ (S + s) / 2
    · have hz' : (0 : Int) < (((S + s) / 2 : Nat) : Int) := by omega
      go_wp2
      go_step3
      go_wp2
      go_step3
      rw [show ((S : Int) + (s : Int)) / 2 = (((S + s) / 2 : Nat) : Int) by omega]
      refine ⟨rfl, t.set (S + s) (nth r s + n), (S + s) / 2, ⟨_, _, _, _, _, _, _, _, _, _, _, _, _, _, _, _, _, _, _, _, _, _, _, _, _, _, _, _, _, _, _, _, _, _, _, _, _, _, _, _, _, _, _, _, _, _, _, _, _, _, _, _, _, _, _, _, _, _, _, _, rfl⟩, hz, (h.hp.drewN nq).far (fun e => hpne e.symm) _, (h.hg.drewN nq).put (S + s) _, HUP.out, grown_more (grown_drewN (World.grownBy.refl w _) nq) (.inl rfl) _⟩
    · have hz' : ¬ (0 : Int) < (((S + s) / 2 : Nat) : Int) := by omega
      go_wp2
      go_step3
      go_wp2
      simp only [Exit.jump]
      go_ret
      refine ⟨rfl, ⟨t.set (S + s) (nth r s + n), by rw [List.length_set, HS.out], (h.hp.drewN nq).far (fun e => hpne e.symm) _, (h.hg.drewN nq).put (S + s) _, ?_, h.cap⟩, grown_more (grown_drewN (World.grownBy.refl w _) nq) (.inl rfl) _⟩
      have := HUP.out
      rw [show (S + s) / 2 = 0 by omega] at this
      exact this.done
  · rintro a' w' ⟨t1, q, ⟨u8, u9, u10, u11, u12, u13, u14, u15, u16, u17, u18, u19, u20, u21, u22, u23, u24, u25, u26, u27, u28, u29, u30, u31, u32, u33, u34, u35, u36, u37, u38, u39, u40, u41, u42, u43, u44, u45, u46, u47, u48, u49, u50, u51, u52, u53, u54, u55, u56, u57, u58, u59, u60, u61, u62, u63, u64, u65, u66, u67, rfl⟩, hq1, hp1, hg1, hu1, hgr1⟩
    have hrl : (r.set s (nth r s + n)).length = S := by rw [List.length_set, HS.out]
    have hql := hu1.lt
    have htl := hu1.len
    rw [hrl] at hql htl
    have d1 : w'.cell? ⟨p, 1, none⟩ = some (.slice (some ⟨g, 0, none⟩) (2 * S) cap) := by rw [hp1.cell]; rfl
    have da := hg1.cell (k := q) (by omega)
    have df := hg1.frozen q
    have db := hu1.bd q hq1 (Nat.le_refl _)
    have db0 := db.1
    have db1 := db.2
    have hst := hu1.step hq1
    have j1 : (1 : Int) ≤ (q : Int) := by omega
    have j2 : (q : Int) < (S : Int) := by omega
    have hput2 := hg1.put q (nth t1 q + n)
    generalize nth t1 q = z at da db0 db1 hst hput2
    have HST := Lib.hid hst
    have HRL := Lib.hid hrl
    clear db hst hu1 htl hrl c0 c1 ca f0 n7 n8 n9 td' hmay HUP hput
    have n7 : IntKind.i64.wrap (z + n) = z + n := IntWalk.i64_in _ (by omega)
    by_cases hz : 1 ≤ q / 2
    · have hz' : (0 : Int) < ((q / 2 : Nat) : Int) := by omega
      go_wp2
      go_step3
      rw [show (q : Int) / 2 = ((q / 2 : Nat) : Int) by omega]
      refine ⟨rfl, ⟨t1.set q (z + n), q / 2, ⟨_, _, _, _, _, _, _, _, _, _, _, _, _, _, _, _, _, _, _, _, _, _, _, _, _, _, _, _, _, _, _, _, _, _, _, _, _, _, _, _, _, _, _, _, _, _, _, _, _, _, _, _, _, _, _, _, _, _, _, _, rfl⟩, hz, hp1.far (fun e => hpne e.symm) _, hput2, HST.out, grown_more hgr1 (.inl rfl) _⟩, ?_⟩
      simp [intOf]
      omega
    · have hz' : ¬ (0 : Int) < ((q / 2 : Nat) : Int) := by omega
      go_wp2
      simp only [Exit.jump]
      go_ret
      refine ⟨rfl, ⟨t1.set q (z + n), HRL.out, hp1.far (fun e => hpne e.symm) _, hput2, ?_, h.cap⟩, grown_more hgr1 (.inl rfl) _⟩
      have := HST.out
      rw [show q / 2 = 0 by omega] at this
      exact this.done
end Go.Proofs.YtaonkbfekadalaaGreatDoor
