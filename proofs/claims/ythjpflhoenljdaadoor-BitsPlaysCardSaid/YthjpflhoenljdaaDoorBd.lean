/- What New, Len, Has and Set come to. -/
import Derived.Test.YthjpflhoenljdaaDoorBc
import Derived.Test.YthjpflhoenljdaaDoorBl
namespace Go.Proofs.YthjpflhoenljdaaDoor
open Go.RowKit
set_option linter.unusedVariables false

/-- Block g begins with m words. -/
def BW (w : World) (g : Nat) (f : Nat → Nat) (m : Nat) : Prop := ∃ cs, Blk w g 53 cs ∧ ∀ k, k < m → cs[k]? = some (.int .u64 (f k : Nat))
section
variable {w w' : World} {g m : Nat} {f : Nat → Nat}
theorem BW.cell (h : BW w g f m) {k : Nat} (hk : k < m) : w.cell? ⟨g, k, none⟩ = some (.int .u64 (f k : Nat)) := by
  obtain ⟨cs, hb, hc⟩ := h
  rw [hb.cell, hc k hk]
theorem BW.frozen (h : BW w g f m) (k : Nat) : w.frozen? ⟨g, k, none⟩ = false := by
  obtain ⟨cs, hb, _⟩ := h
  exact hb.frozen k
theorem BW.lt (h : BW w g f m) : g < w.heap.size := by
  obtain ⟨cs, hb, _⟩ := h
  exact hb.lt
theorem BW.put (h : BW w g f m) (i x : Nat) : BW (w.setCell ⟨g, i, none⟩ (.int .u64 (x : Nat))) g (fun k => if k = i then x else f k) m := by
  obtain ⟨cs, hb, hc⟩ := h
  refine ⟨_, hb.put i _, fun k hk => ?_⟩
  have h1 := hc k hk
  have hlt : k < cs.size := by
    rcases Nat.lt_or_ge k cs.size with h2 | h2
    · exact h2
    · rw [Array.getElem?_eq_none h2] at h1; cases h1
  rw [Array.getElem?_setIfInBounds]
  by_cases e : i = k
  · subst e; simp [hlt]
  · rw [if_neg e, h1]
    simp only [if_neg (fun h : k = i => e h.symm)]
theorem BW.far (h : BW w g f m) {p : Addr} (hp : g ≠ p.block) (u : Value) : BW (w.setCell p u) g f m := by
  obtain ⟨cs, hb, hc⟩ := h
  exact ⟨cs, hb.far hp u, hc⟩
theorem BW.alloc (h : BW w g f m) (o : Obj) : BW (w.alloc o) g f m := by
  obtain ⟨cs, hb, hc⟩ := h
  exact ⟨cs, hb.alloc o, hc⟩
theorem BW.drewN (h : BW w g f m) (n : Nat) : BW (w.drewN n) g f m := h
theorem BW.below {B : Nat} (h : BW w g f m) (hb : Below B w w') (hg : g < B) : BW w' g f m := by
  obtain ⟨cs, h1, hc⟩ := h
  exact ⟨cs, h1.below hb hg, hc⟩
theorem BW.grown {row : Option Nat} (h : BW w g f m) (hb : w.grownBy w' row) (hg : some g ≠ row) : BW w' g f m := by
  obtain ⟨cs, h1, hc⟩ := h
  exact ⟨cs, h1.grown hb hg, hc⟩
theorem BW.congr {f' : Nat → Nat} (h : BW w g f m) (e : ∀ k, k < m → f k = f' k) : BW w g f' m := by
  obtain ⟨cs, h1, hc⟩ := h
  exact ⟨cs, h1, fun k hk => by rw [← e k hk]; exact hc k hk⟩
end

/-- How many words a row has. -/
def nw (n : Nat) : Nat := (n + 63) / 64

/-- A row of bits lies at p, its words in block g. -/
structure BM (w : World) (p g cap n : Nat) (r : List Bool) : Prop where
  hl : r.length = n
  hn : 1 ≤ n ∧ n ≤ 65536
  hp : Blk w p 55 #[.int .i64 (n : Int), .slice (some ⟨g, 0, none⟩) (nw n) cap]
  hg : BW w g (word r) (nw n)
  cap : nw n ≤ cap ∧ cap ≤ 9223372036854775807
section
variable {w w' : World} {p g cap n : Nat} {r : List Bool}
theorem BM.c0 (h : BM w p g cap n r) : w.cell? ⟨p, 0, none⟩ = some (.int .i64 (n : Int)) := by rw [h.hp.cell]; rfl
theorem BM.c1 (h : BM w p g cap n r) : w.cell? ⟨p, 1, none⟩ = some (.slice (some ⟨g, 0, none⟩) (nw n) cap) := by rw [h.hp.cell]; rfl
theorem BM.ne (h : BM w p g cap n r) : g ≠ p := by
  obtain ⟨cs, hb, _⟩ := h.hg
  exact hb.ne_ h.hp (by decide)
theorem BM.drewN (h : BM w p g cap n r) (d : Nat) : BM (w.drewN d) p g cap n r := ⟨h.hl, h.hn, h.hp, h.hg, h.cap⟩
theorem BM.alloc (h : BM w p g cap n r) (o : Obj) : BM (w.alloc o) p g cap n r := ⟨h.hl, h.hn, h.hp.alloc o, h.hg.alloc o, h.cap⟩
theorem BM.below (h : BM w p g cap n r) (hb : Below w.heap.size w w') : BM w' p g cap n r := ⟨h.hl, h.hn, h.hp.below hb h.hp.lt, h.hg.below hb h.hg.lt, h.cap⟩
theorem BM.grown {row : Option Nat} (h : BM w p g cap n r) (hb : w.grownBy w' row) (h1 : some p ≠ row) (h2 : some g ≠ row) : BM w' p g cap n r := ⟨h.hl, h.hn, h.hp.grown hb h1, h.hg.grown hb h2, h.cap⟩
theorem BM.far (h : BM w p g cap n r) {q : Addr} (h1 : p ≠ q.block) (h2 : g ≠ q.block) (u : Value) : BM (w.setCell q u) p g cap n r := ⟨h.hl, h.hn, h.hp.far h1 u, h.hg.far h2 u, h.cap⟩
end

theorem BLen_ok {w : World} {p g cap n : Nat} {r : List Bool} (h : BM w p g cap n r) :
    Calls Tryd.prog 22 #[.pointer (some ⟨p, 0, none⟩)] w fun e w' => e = .returned (.int .i64 (n : Int)) ∧ w = w' := by
  have c0 := h.c0
  go_enter Tryd.func22, Tryd.ntmps22
  go_wp2
  go_ret
  exact ⟨rfl, rfl⟩

/-- What a Set comes to. -/
def setB (r : List Bool) (i : Int) (b : Bool) : List Bool × Int := if 0 ≤ i ∧ i < r.length then (r.set i.toNat b, 0) else (r, 10)
theorem setB_len (r : List Bool) (i : Int) (b : Bool) : (setB r i b).1.length = r.length := by unfold setB; split <;> simp
theorem word_set {r : List Bool} {i k : Nat} (h : i < r.length) (b : Bool) (x : Nat) (hx : x < 18446744073709551616)
    (hb : ∀ j, j < 64 → x.testBit j = (if j = i % 64 then b else (word r (i / 64)).testBit j)) : word (r.set i b) k = if k = i / 64 then x else word r k := by
  by_cases e : k = i / 64
  · rw [if_pos e]
    refine (word_eq hx fun j hj => ?_).symm
    rw [hb j hj, on_set h, word_bit]
    subst e
    by_cases e2 : j = i % 64
    · rw [if_pos e2, if_pos (by omega)]
    · rw [if_neg e2, if_neg (by omega)]; simp [hj]
  · rw [if_neg e]
    refine (word_eq (word_lt _ _) fun j hj => ?_).symm
    rw [on_set h, word_bit, if_neg (by omega)]
    simp [hj]

theorem bits_andNot_u64_nat (a b : Nat) (ha : a < 18446744073709551616) (hb : b < 18446744073709551616) :
    bits .andNot .u64 (a : Int) (b : Int) = ((a &&& (18446744073709551615 - b) : Nat) : Int) := by
  have hx : a &&& (18446744073709551615 - b) < 2 ^ 64 := Nat.and_lt_two_pow _ (by omega)
  have h1 : (BitVec.ofInt 64 (a : Int)).toNat = a := by
    rw [BitVec.ofInt_natCast, BitVec.toNat_ofNat]; exact Nat.mod_eq_of_lt (by omega)
  have h2 : (BitVec.ofInt 64 (b : Int)).toNat = b := by
    rw [BitVec.ofInt_natCast, BitVec.toNat_ofNat]; exact Nat.mod_eq_of_lt (by omega)
  show IntKind.u64.wrap ((BitVec.ofInt 64 (a : Int) &&& ~~~ BitVec.ofInt 64 (b : Int)).toNat : Int) = _
  rw [BitVec.toNat_and, BitVec.toNat_not, h1, h2, IntKind.wrap_u64]
  have e : (2 : Nat) ^ 64 - 1 - b = 18446744073709551615 - b := by omega
  rw [e]
  omega
theorem pow_lt64 {i : Nat} (h : i < 64) : 2 ^ i < 18446744073709551616 := Nat.pow_lt_pow_right (a := 2) (by decide) (show i < 64 from h)
theorem pow_wrap {i : Nat} (h : i < 64) : IntKind.u64.wrap (2 ^ i : Int) = ((2 ^ i : Nat) : Int) := by
  have := u64_in _ (pow_lt64 h)
  rw [← this]
  congr 1
theorem or_bit (x i j : Nat) : (x ||| 2 ^ i).testBit j = (if j = i then true else x.testBit j) := by
  rw [Nat.testBit_or, Nat.testBit_two_pow]
  by_cases e : j = i
  · subst e; simp
  · rw [if_neg e, decide_eq_false (fun h : i = j => e h.symm), Bool.or_false]
theorem andNot_bit {x i : Nat} (hi : i < 64) (j : Nat) (hj : j < 64) : (x &&& (18446744073709551615 - 2 ^ i)).testBit j = (if j = i then false else x.testBit j) := by
  rw [Nat.testBit_and]
  have e : 18446744073709551615 - 2 ^ i = 2 ^ 64 - (2 ^ i + 1) := by omega
  rw [e, Nat.testBit_two_pow_sub_succ (pow_lt64 hi), Nat.testBit_two_pow]
  by_cases e : j = i
  · subst e; simp
  · rw [if_neg e, decide_eq_false (fun h : i = j => e h.symm)]; simp [hj]

set_option maxRecDepth 100000 in
theorem BSet_ok {w : World} {p g cap n : Nat} {r : List Bool} (h : BM w p g cap n r) (I : Nat) (hI : I < n) (b : Bool) :
    Calls Tryd.prog 20 #[.pointer (some ⟨p, 0, none⟩), .int .i64 (I : Nat), .bool b] w fun e w' => e = .returned (.int .i64 0) ∧ BM w' p g cap n (r.set I b) ∧ w.grownBy w' (some g) := by
  have c0 := h.c0
  have c1 := h.c1
  have hn := h.hn
  have hIw : I / 64 < nw n := by unfold nw; omega
  have cg := h.hg.cell hIw
  have fg := h.hg.frozen (I / 64)
  have hIr : I < r.length := by rw [h.hl]; exact hI
  have i0 : (0 : Int) ≤ (I : Int) := by omega
  have i1 : (I : Int) < (n : Int) := by omega
  have hI64 : I % 64 < 64 := Nat.mod_lt _ (by decide)
  have k1 := pow_wrap hI64
  have hw := word_lt r (I / 64)
  have hpl := pow_lt64 hI64
  have fin : ∀ x : Nat, x < 18446744073709551616 → (∀ j, j < 64 → x.testBit j = (if j = I % 64 then b else (word r (I / 64)).testBit j)) →
      BM (w.setCell ⟨g, I / 64, none⟩ (.int .u64 (x : Nat))) p g cap n (r.set I b) := fun x hx hb =>
    ⟨by rw [List.length_set, h.hl], hn, h.hp.far (fun e => h.ne e.symm) _, (h.hg.put (I / 64) x).congr (fun k _ => by rw [word_set hIr b x hx hb]), h.cap⟩
  have i2 : (n : Int) ≤ 65536 := by omega
  clear hI hIr hn
  cases b
  · have k2 := bits_andNot_u64_nat (word r (I / 64)) (2 ^ (I % 64)) hw hpl
    have hx := fin _ (Nat.lt_of_le_of_lt Nat.and_le_left hw) (fun j hj => andNot_bit hI64 j hj)
    clear hw hpl fin h hI64
    generalize word r (I / 64) &&& (18446744073709551615 - 2 ^ (I % 64)) = X at *
    generalize (2 : Nat) ^ (I % 64) = B at *
    go_enter Tryd.func20, Tryd.ntmps20
    go_wp2
    go_ret
    exact ⟨rfl, hx, grown_put _ _ _ _⟩
  · have k2 := bits_or_u64_nat (word r (I / 64)) (2 ^ (I % 64)) hw hpl
    have hx := fin _ (Nat.or_lt_two_pow (n := 64) hw hpl) (fun j hj => or_bit _ _ j)
    clear hw hpl fin h hI64
    generalize word r (I / 64) ||| 2 ^ (I % 64) = X at *
    generalize (2 : Nat) ^ (I % 64) = B at *
    go_enter Tryd.func20, Tryd.ntmps20
    go_wp2
    go_ret
    exact ⟨rfl, hx, grown_put _ _ _ _⟩
theorem BSet_bad {w : World} {p g cap n : Nat} {r : List Bool} (h : BM w p g cap n r) (i : Int) (hi : ¬ (0 ≤ i ∧ i < n)) (b : Bool) :
    Calls Tryd.prog 20 #[.pointer (some ⟨p, 0, none⟩), .int .i64 i, .bool b] w fun e w' => e = .returned (.int .i64 10) ∧ w = w' := by
  have c0 := h.c0
  by_cases h0 : i < 0
  · clear hi
    go_enter Tryd.func20, Tryd.ntmps20
    go_wp2
    go_ret
    exact ⟨rfl, rfl⟩
  · have h1 : (n : Int) ≤ i := by omega
    have h2 : 0 ≤ i := by omega
    clear hi h0
    go_enter Tryd.func20, Tryd.ntmps20
    go_wp2
    go_ret
    exact ⟨rfl, rfl⟩
/-- SET, AT EVERY INPUT. -/
theorem BSet_any {w : World} {p g cap n : Nat} {r : List Bool} (h : BM w p g cap n r) (i : Int) (b : Bool) :
    Calls Tryd.prog 20 #[.pointer (some ⟨p, 0, none⟩), .int .i64 i, .bool b] w fun e w' => e = .returned (.int .i64 (setB r i b).2) ∧ BM w' p g cap n (setB r i b).1 ∧ w.grownBy w' (some g) := by
  by_cases hi : 0 ≤ i ∧ i < n
  · obtain ⟨I, rfl⟩ := Int.eq_ofNat_of_zero_le hi.1
    have e : setB r (I : Int) b = (r.set I b, 0) := by
      unfold setB
      rw [h.hl, if_pos hi]
      simp
    rw [e]
    exact BSet_ok h I (by omega) b
  · have e : setB r i b = (r, 10) := by
      unfold setB
      rw [h.hl, if_neg hi]
    rw [e]
    refine (BSet_bad h i hi b).mono ?_
    rintro x w' ⟨rfl, rfl⟩
    exact ⟨rfl, h, grown_of_below (Below.refl _ _) _⟩
end Go.Proofs.YthjpflhoenljdaaDoor
