/- The document's Range, Next, Prev and Nth. -/
import Derived.Test.YthjpflhoenljdaaDoorBh
namespace Go.Proofs.YthjpflhoenljdaaDoor
open Go.RowKit
set_option linter.unusedVariables false

/-- Block g begins with the bits of r, a bool each. -/
def BB (w : World) (g : Nat) (r : List Bool) : Prop := ∃ cs, Blk w g 4 cs ∧ ∀ k, k < r.length → cs[k]? = some (.bool (on r k))
section
variable {w w' : World} {g : Nat} {r : List Bool}
theorem BB.cell (h : BB w g r) {k : Nat} (hk : k < r.length) : w.cell? ⟨g, k, none⟩ = some (.bool (on r k)) := by
  obtain ⟨cs, hb, hc⟩ := h
  rw [hb.cell, hc k hk]
theorem BB.frozen (h : BB w g r) (k : Nat) : w.frozen? ⟨g, k, none⟩ = false := by
  obtain ⟨cs, hb, _⟩ := h
  exact hb.frozen k
theorem BB.lt (h : BB w g r) : g < w.heap.size := by
  obtain ⟨cs, hb, _⟩ := h
  exact hb.lt
theorem BB.put (h : BB w g r) {i : Nat} (hi : i < r.length) (b : Bool) : BB (w.setCell ⟨g, i, none⟩ (.bool b)) g (r.set i b) := by
  obtain ⟨cs, hb, hc⟩ := h
  refine ⟨_, hb.put i _, fun k hk => ?_⟩
  rw [List.length_set] at hk
  have h1 := hc k hk
  have hlt : k < cs.size := by
    rcases Nat.lt_or_ge k cs.size with h2 | h2
    · exact h2
    · rw [Array.getElem?_eq_none h2] at h1; cases h1
  rw [Array.getElem?_setIfInBounds, on_set hi]
  by_cases e : i = k
  · subst e; simp [hlt]
  · rw [if_neg e, h1, if_neg (fun h => e h.symm)]
theorem BB.far (h : BB w g r) {p : Addr} (hp : g ≠ p.block) (u : Value) : BB (w.setCell p u) g r := by
  obtain ⟨cs, hb, hc⟩ := h
  exact ⟨cs, hb.far hp u, hc⟩
theorem BB.alloc (h : BB w g r) (o : Obj) : BB (w.alloc o) g r := by
  obtain ⟨cs, hb, hc⟩ := h
  exact ⟨cs, hb.alloc o, hc⟩
theorem BB.drewN (h : BB w g r) (n : Nat) : BB (w.drewN n) g r := h
theorem BB.below (h : BB w g r) (hb : Below w.heap.size w w') : BB w' g r := by
  have hg := h.lt
  obtain ⟨cs, h1, hc⟩ := h
  exact ⟨cs, h1.below hb hg, hc⟩
theorem BB.grown {row : Option Nat} (h : BB w g r) (hb : w.grownBy w' row) (hg : some g ≠ row) : BB w' g r := by
  obtain ⟨cs, h1, hc⟩ := h
  exact ⟨cs, h1.grown hb hg, hc⟩
end

set_option maxHeartbeats 400000 in
theorem RRange_ok {w : World} {g c n : Nat} {r : List Bool} (h : BB w g r) (hl : r.length = n) (hn : n ≤ 65536) (a b : Nat) (hab : a ≤ b) (hb : b ≤ n) :
    Calls Tryd.prog 12 #[.slice (some ⟨g, 0, none⟩) n c, .int .i64 (a : Nat), .int .i64 (b : Nat)] w fun e w' => e = .returned (.int .i64 ((cnt r b - cnt r a : Nat) : Int)) ∧ w = w' := by
  have HL := Lib.hid hl
  have i2 : (n : Int) ≤ 65536 := by omega
  clear hl
  go_enter Tryd.func12, Tryd.ntmps12
  go_wp2_with fail
  go_loop [7, 8] (fun m i => ∃ q : Nat, a ≤ q ∧ q ≤ b ∧ i = .int .i64 q ∧ m = .int .i64 ((cnt r q - cnt r a : Nat) : Int)) (fun _ i => b - (intOf i).toNat)
  case atStart => exact ⟨a, Nat.le_refl _, hab, rfl, by simp⟩
  case round =>
    obtain ⟨q, hq1, hq2, rfl, rfl⟩ := hrel
    by_cases hlt : q < b
    · have cg := h.cell (k := q) (by rw [HL.out]; omega)
      have j1 : (q : Int) < (b : Int) := by omega
      have j2 : (q : Int) < (n : Int) := by omega
      have j0 : (0 : Int) ≤ (q : Int) := by omega
      have hs := cnt_succ r q
      have hm := cnt_mono r hq1
      have hle := cnt_le r q
      cases ho : on r q
      · rw [ho] at hs cg
        have hs2 : cnt r (q + 1) = cnt r q := by simpa using hs
        have hd : cnt r (q + 1) - cnt r a = cnt r q - cnt r a := by rw [hs2]
        have HS := Lib.hid hd
        clear hs hs2 ho hm hle hd
        generalize cnt r q - cnt r a = D at *
        go_wp2_with fail
        go_round
        case rel => exact ⟨q + 1, by omega, by omega, by go_num, by rw [HS.out]⟩
        case measure => simp [intOf]; omega
      · rw [ho] at hs cg
        have hs2 : cnt r (q + 1) = cnt r q + 1 := by simpa using hs
        have hd : cnt r (q + 1) - cnt r a = (cnt r q - cnt r a) + 1 := by omega
        have hdl : ((cnt r q - cnt r a : Nat) : Int) ≤ 65536 := by omega
        have HS := Lib.hid hd
        clear hs hs2 ho hm hle hd
        generalize cnt r q - cnt r a = D at *
        go_wp2_with fail
        go_round
        case rel => exact ⟨q + 1, by omega, by omega, by go_num, by rw [HS.out]; go_num⟩
        case measure => simp [intOf]; omega
    · obtain rfl : q = b := by omega
      go_wp2_with fail
      go_ret
      exact ⟨rfl, rfl⟩

set_option maxHeartbeats 400000 in
theorem RNext_any {w : World} {g c n : Nat} {r : List Bool} (h : BB w g r) (hl : r.length = n) (hn : n ≤ 65536) (i : Int) :
    Calls Tryd.prog 14 #[.slice (some ⟨g, 0, none⟩) n c, .int .i64 i] w fun e w' => (∃ s : Int, e = .returned (.int .i64 s) ∧ IsNext r i s) ∧ w = w' := by
  have HL := Lib.hid hl
  have i2 : (n : Int) ≤ 65536 := by omega
  clear hl
  go_enter Tryd.func14, Tryd.ntmps14
  go_wp2_with fail
  go_loop [5] (fun k => ∃ q : Nat, q ≤ n ∧ k = .int .i64 q ∧ ∀ j : Nat, i ≤ (j : Int) → j < q → on r j = false) (fun k => n - (intOf k).toNat)
  case atStart => exact ⟨0, Nat.zero_le _, rfl, fun j _ h => by omega⟩
  case round =>
    obtain ⟨q, hq, rfl, hno⟩ := hrel
    have HNO := Lib.hid hno
    clear hno
    by_cases hlt : q < n
    · have cg := h.cell (k := q) (by rw [HL.out]; omega)
      have j2 : (q : Int) < (n : Int) := by omega
      have j0 : (0 : Int) ≤ (q : Int) := by omega
      cases ho : on r q
      · rw [ho] at cg
        have HO := Lib.hid ho
        clear ho
        go_wp2_with fail
        go_round
        case rel => exact ⟨q + 1, by omega, by go_num, fun j h1 h2 => by
          rcases Nat.lt_or_ge j q with h3 | h3
          · exact HNO.out j h1 h3
          · rw [show j = q by omega]; exact HO.out⟩
        case measure => simp [intOf]; omega
      · rw [ho] at cg
        have HO := Lib.hid ho
        clear ho
        by_cases hi : i ≤ (q : Int)
        · go_wp2_with fail
          go_ret
          exact ⟨⟨_, rfl, .inl ⟨q, rfl, hi, HO.out, fun k h1 h2 => HNO.out k h1 h2⟩⟩, rfl⟩
        · have hi' : (q : Int) < i := by omega
          clear hi
          go_wp2_with fail
          go_round
          case rel => exact ⟨q + 1, by omega, by go_num, fun j h1 h2 => by
            rcases Nat.lt_or_ge j q with h3 | h3
            · exact HNO.out j h1 h3
            · omega⟩
          case measure => simp [intOf]; omega
    · obtain rfl : q = n := by omega
      go_wp2_with fail
      go_ret
      exact ⟨⟨_, rfl, .inr ⟨rfl, fun k hk => by
        rcases Nat.lt_or_ge k q with h3 | h3
        · exact HNO.out k hk h3
        · exact on_end (by rw [HL.out]; exact h3)⟩⟩, rfl⟩

/-- The last bit that is on, up to i, of the first q. -/
def PrevTo (r : List Bool) (i : Int) (q : Nat) (s : Int) : Prop :=
  (∃ j : Nat, s = j ∧ j < q ∧ (j : Int) ≤ i ∧ on r j = true ∧ ∀ k : Nat, j < k → k < q → (k : Int) ≤ i → on r k = false) ∨ (s = -1 ∧ ∀ k : Nat, k < q → (k : Int) ≤ i → on r k = false)

set_option maxHeartbeats 400000 in
theorem RPrev_any {w : World} {g c n : Nat} {r : List Bool} (h : BB w g r) (hl : r.length = n) (hn : n ≤ 65536) (i : Int) :
    Calls Tryd.prog 16 #[.slice (some ⟨g, 0, none⟩) n c, .int .i64 i] w fun e w' => (∃ s : Int, e = .returned (.int .i64 s) ∧ IsPrev r i s) ∧ w = w' := by
  have HL := Lib.hid hl
  have i2 : (n : Int) ≤ 65536 := by omega
  clear hl
  go_enter Tryd.func16, Tryd.ntmps16
  go_wp2_with fail
  go_loop [5, 6] (fun o k => ∃ (q : Nat) (s : Int), q ≤ n ∧ k = .int .i64 q ∧ o = .int .i64 s ∧ PrevTo r i q s) (fun _ k => n - (intOf k).toNat)
  case atStart => exact ⟨0, -1, Nat.zero_le _, rfl, rfl, .inr ⟨rfl, fun j h => by omega⟩⟩
  case round =>
    obtain ⟨q, s, hq, rfl, rfl, hpt⟩ := hrel
    have HPT := Lib.hid hpt
    clear hpt
    by_cases hlt : q < n
    · have cg := h.cell (k := q) (by rw [HL.out]; omega)
      have j2 : (q : Int) < (n : Int) := by omega
      have j0 : (0 : Int) ≤ (q : Int) := by omega
      have stay : (on r q = false ∨ i < (q : Int)) → PrevTo r i (q + 1) s := fun hor => by
        rcases HPT.out with ⟨j, h1, h2, h3, h4, h5⟩ | ⟨h1, h2⟩
        · refine .inl ⟨j, h1, by omega, h3, h4, fun k k1 k2 k3 => ?_⟩
          rcases Nat.lt_or_ge k q with h6 | h6
          · exact h5 k k1 h6 k3
          · obtain rfl : k = q := by omega
            rcases hor with h7 | h7
            · exact h7
            · omega
        · refine .inr ⟨h1, fun k k1 k2 => ?_⟩
          rcases Nat.lt_or_ge k q with h6 | h6
          · exact h2 k h6 k2
          · obtain rfl : k = q := by omega
            rcases hor with h7 | h7
            · exact h7
            · omega
      cases ho : on r q
      · have hst := stay (.inl ho)
        rw [ho] at cg
        clear ho stay
        go_wp2_with fail
        go_round
        case rel => exact ⟨q + 1, s, by omega, by go_num, rfl, hst⟩
        case measure => simp [intOf]; omega
      · by_cases hi : (q : Int) ≤ i
        · have hst : PrevTo r i (q + 1) q := .inl ⟨q, rfl, by omega, hi, ho, fun k k1 k2 => by omega⟩
          rw [ho] at cg
          clear ho stay
          go_wp2_with fail
          go_round
          case rel => exact ⟨q + 1, q, by omega, by go_num, rfl, hst⟩
          case measure => simp [intOf]; omega
        · have hi' : i < (q : Int) := by omega
          have hst := stay (.inr hi')
          rw [ho] at cg
          clear hi ho stay
          go_wp2_with fail
          go_round
          case rel => exact ⟨q + 1, s, by omega, by go_num, rfl, hst⟩
          case measure => simp [intOf]; omega
    · obtain rfl : q = n := by omega
      have hfin : IsPrev r i s := by
        rcases HPT.out with ⟨j, h1, h2, h3, h4, h5⟩ | ⟨h1, h2⟩
        · refine .inl ⟨j, h1, h3, h4, fun k k1 k2 => ?_⟩
          rcases Nat.lt_or_ge k q with h6 | h6
          · exact h5 k k1 h6 k2
          · exact on_end (by rw [HL.out]; exact h6)
        · refine .inr ⟨h1, fun k k1 => ?_⟩
          rcases Nat.lt_or_ge k q with h6 | h6
          · exact h2 k h6 k1
          · exact on_end (by rw [HL.out]; exact h6)
      go_wp2_with fail
      go_ret
      exact ⟨⟨_, rfl, hfin⟩, rfl⟩

set_option maxHeartbeats 400000 in
theorem RNth_any {w : World} {g c n : Nat} {r : List Bool} (h : BB w g r) (hl : r.length = n) (hn : n ≤ 65536) (i : Int) :
    Calls Tryd.prog 18 #[.slice (some ⟨g, 0, none⟩) n c, .int .i64 i] w fun e w' => (∃ s : Int, e = .returned (.int .i64 s) ∧ IsNth r i s) ∧ w = w' := by
  have HL := Lib.hid hl
  have i2 : (n : Int) ≤ 65536 := by omega
  clear hl
  go_enter Tryd.func18, Tryd.ntmps18
  go_wp2_with fail
  go_loop [5] (fun k => ∃ q : Nat, q ≤ n ∧ k = .int .i64 q ∧ ∀ j : Nat, j < q → on r j = true → ((cnt r j : Nat) : Int) ≠ i) (fun k => n - (intOf k).toNat)
  case atStart => exact ⟨0, Nat.zero_le _, rfl, fun j h => by omega⟩
  case round =>
    obtain ⟨q, hq, rfl, hno⟩ := hrel
    have HNO := Lib.hid hno
    clear hno
    by_cases hlt : q < n
    · have cg := h.cell (k := q) (by rw [HL.out]; omega)
      have j2 : (q : Int) < (n : Int) := by omega
      have j0 : (0 : Int) ≤ (q : Int) := by omega
      have hrg := RRange_ok (c := c) h HL.out hn 0 q (Nat.zero_le _) (by omega)
      rw [show cnt r 0 = 0 from rfl, Nat.sub_zero] at hrg
      cases ho : on r q
      · rw [ho] at cg
        have HO := Lib.hid ho
        clear ho
        go_wp2_with fail
        go_round
        case rel => exact ⟨q + 1, by omega, by go_num, fun j h1 h2 => by
          rcases Nat.lt_or_ge j q with h3 | h3
          · exact HNO.out j h3 h2
          · obtain rfl : j = q := by omega
            rw [HO.out] at h2; cases h2⟩
        case measure => simp [intOf]; omega
      · rw [ho] at cg
        have HO := Lib.hid ho
        clear ho
        by_cases hi : ((cnt r q : Nat) : Int) = i
        · have t1 : (((cnt r q : Nat) : Int) == i) = true := by simp; exact hi
          have HI := Lib.hid hi
          clear hi
          go_wp2_with fail
          refine hrg.mono ?_
          rintro e w1 ⟨rfl, rfl⟩
          go_wp2_with fail
          go_ret
          exact ⟨⟨_, rfl, .inl ⟨q, rfl, HO.out, HI.out⟩⟩, rfl⟩
        · have t1 : (((cnt r q : Nat) : Int) == i) = false := by simp; exact hi
          have HI := Lib.hid hi
          clear hi
          go_wp2_with fail
          refine hrg.mono ?_
          rintro e w1 ⟨rfl, rfl⟩
          go_wp2_with fail
          go_round
          case rel => exact ⟨q + 1, by omega, by go_num, fun j h1 h2 => by
            rcases Nat.lt_or_ge j q with h3 | h3
            · exact HNO.out j h3 h2
            · obtain rfl : j = q := by omega
              exact HI.out⟩
          case measure => simp [intOf]; omega
    · obtain rfl : q = n := by omega
      go_wp2_with fail
      go_ret
      exact ⟨⟨_, rfl, .inr ⟨rfl, fun k hk => by
        rcases Nat.lt_or_ge k q with h3 | h3
        · exact HNO.out k h3 hk
        · rw [on_end (by rw [HL.out]; exact h3)] at hk; cases hk⟩⟩, rfl⟩
end Go.Proofs.YthjpflhoenljdaaDoor
