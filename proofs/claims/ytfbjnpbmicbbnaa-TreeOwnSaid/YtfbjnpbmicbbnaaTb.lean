/- A tree in memory; what Segs, Total, Ahead and Find come to. -/
import Derived.Test.YtfbjnpbmicbbnaaTa
namespace Go.Proofs.Ytfbjnpbmicbbnaa
open Go.RowKit
set_option linter.unusedVariables false

/-- A block of whole numbers that begins with the numbers xs. -/
def BI (w : World) (g : Nat) (xs : List Int) : Prop := ∃ cs, Blk w g 3 cs ∧ ∀ k, k < xs.length → cs[k]? = some (.int .i64 (nth xs k))
section
variable {w w' : World} {g : Nat} {xs : List Int}
theorem BI.of_blk (h : Blk w g 3 (cells xs)) : BI w g xs := ⟨_, h, fun k hk => cells_get hk⟩
theorem BI.cell (h : BI w g xs) {k : Nat} (hk : k < xs.length) : w.cell? ⟨g, k, none⟩ = some (.int .i64 (nth xs k)) := by
  obtain ⟨cs, hb, hc⟩ := h
  rw [hb.cell, hc k hk]
theorem BI.frozen (h : BI w g xs) (k : Nat) : w.frozen? ⟨g, k, none⟩ = false := by
  obtain ⟨cs, hb, hc⟩ := h
  exact hb.frozen k
theorem BI.lt (h : BI w g xs) : g < w.heap.size := by
  obtain ⟨cs, hb, hc⟩ := h
  exact hb.lt
theorem BI.put (h : BI w g xs) (i : Nat) (x : Int) : BI (w.setCell ⟨g, i, none⟩ (.int .i64 x)) g (xs.set i x) := by
  obtain ⟨cs, hb, hc⟩ := h
  refine ⟨_, hb.put i _, fun k hk => ?_⟩
  rw [List.length_set] at hk
  by_cases e : i = k
  · subst e
    rw [nth_set_self _ hk]
    have := hc i hk
    have hlt : i < cs.size := (Array.getElem?_eq_some_iff.1 this).1
    simp [hlt]
  · rw [nth_set_other _ e, ← hc k hk]
    simp [e]
theorem BI.far (h : BI w g xs) {p : Addr} (hp : g ≠ p.block) (u : Value) : BI (w.setCell p u) g xs := by
  obtain ⟨cs, hb, hc⟩ := h
  exact ⟨cs, hb.far hp u, hc⟩
theorem BI.alloc (h : BI w g xs) (o : Obj) : BI (w.alloc o) g xs := by
  obtain ⟨cs, hb, hc⟩ := h
  exact ⟨cs, hb.alloc o, hc⟩
theorem BI.drewN (h : BI w g xs) (n : Nat) : BI (w.drewN n) g xs := h
theorem BI.below {B : Nat} (h : BI w g xs) (hb : Below B w w') (hg : g < B) : BI w' g xs := by
  obtain ⟨cs, h1, hc⟩ := h
  exact ⟨cs, h1.below hb hg, hc⟩
theorem BI.grown {row : Option Nat} (h : BI w g xs) (hb : w.grownBy w' row) (hg : some g ≠ row) : BI w' g xs := by
  obtain ⟨cs, h1, hc⟩ := h
  exact ⟨cs, h1.grown hb hg, hc⟩
theorem BI.ne_ {g' : Nat} {t' : TypeId} {cs' : Array Value} (h : BI w g xs) (h' : Blk w g' t' cs') (hne : (3 : TypeId) ≠ t') : g ≠ g' := by
  obtain ⟨cs, h1, hc⟩ := h
  exact h1.ne_ h' hne
theorem RI_of_BI (h : BI w g xs) : RI w (some ⟨g, 0, none⟩) xs := fun _ => ⟨g, 0, rfl, fun k hk => by rw [Nat.zero_add, h.cell hk]⟩
end

/-- A tree lies at p, its array in block g; r are the segments' counts. -/
structure TM (w : World) (p g cap S : Nat) (r t : List Int) : Prop where
  hS : r.length = S
  hp : Blk w p 59 #[.int .i64 (S : Int), .slice (some ⟨g, 0, none⟩) (2 * S) cap]
  hg : BI w g t
  ti : TI r t
  cap : 2 * S ≤ cap ∧ cap ≤ 9223372036854775807
section
variable {w w' : World} {p g cap S : Nat} {r t : List Int}
theorem TM.c0 (h : TM w p g cap S r t) : w.cell? ⟨p, 0, none⟩ = some (.int .i64 (S : Int)) := by rw [h.hp.cell]; rfl
theorem TM.c1 (h : TM w p g cap S r t) : w.cell? ⟨p, 1, none⟩ = some (.slice (some ⟨g, 0, none⟩) (2 * S) cap) := by rw [h.hp.cell]; rfl
theorem TM.ne (h : TM w p g cap S r t) : g ≠ p := h.hg.ne_ h.hp (by decide)
theorem TM.tlen (h : TM w p g cap S r t) : t.length = 2 * S := by rw [h.ti.len, h.hS]
theorem TM.at_ (h : TM w p g cap S r t) {k : Nat} (hk : k < 2 * S) : w.cell? ⟨g, k, none⟩ = some (.int .i64 (nth t k)) := h.hg.cell (by rw [h.tlen]; exact hk)
theorem TM.drewN (h : TM w p g cap S r t) (n : Nat) : TM (w.drewN n) p g cap S r t := ⟨h.hS, h.hp, h.hg, h.ti, h.cap⟩
theorem TM.alloc (h : TM w p g cap S r t) (o : Obj) : TM (w.alloc o) p g cap S r t := ⟨h.hS, h.hp.alloc o, h.hg.alloc o, h.ti, h.cap⟩
theorem TM.below {B : Nat} (h : TM w p g cap S r t) (hb : Below B w w') (h1 : p < B) (h2 : g < B) : TM w' p g cap S r t := ⟨h.hS, h.hp.below hb h1, h.hg.below hb h2, h.ti, h.cap⟩
theorem TM.below' (h : TM w p g cap S r t) (hb : Below w.heap.size w w') : TM w' p g cap S r t := h.below hb h.hp.lt h.hg.lt
theorem TM.grown {row : Option Nat} (h : TM w p g cap S r t) (hb : w.grownBy w' row) (h1 : some p ≠ row) (h2 : some g ≠ row) : TM w' p g cap S r t := ⟨h.hS, h.hp.grown hb h1, h.hg.grown hb h2, h.ti, h.cap⟩
theorem TM.far (h : TM w p g cap S r t) {q : Addr} (h1 : p ≠ q.block) (h2 : g ≠ q.block) (u : Value) : TM (w.setCell q u) p g cap S r t := ⟨h.hS, h.hp.far h1 u, h.hg.far h2 u, h.ti, h.cap⟩
end

theorem TSegs_ok {w : World} {p g cap S : Nat} {r t : List Int} (h : TM w p g cap S r t) :
    Calls Try.prog 24 #[.pointer (some ⟨p, 0, none⟩)] w fun e w' => e = .returned (.int .i64 (S : Int)) ∧ w = w' := by
  have c0 := h.c0
  clear h
  go_enter Try.func24, Try.ntmps24
  go_wp2
  go_ret
  exact ⟨rfl, rfl⟩
theorem TTotal_ok {w : World} {p g cap S L : Nat} {r t : List Int} (h : TM w p g cap S r t) (hr : Rt r L) :
    Calls Try.prog 19 #[.pointer (some ⟨p, 0, none⟩)] w fun e w' => e = .returned (.int .i64 (sumR r 0 S)) ∧ w = w' := by
  have hs := hr.len_pos
  rw [h.hS] at hs
  have c1 := h.c1
  have ca := h.at_ (k := 1) (by omega)
  have hr1 := root h.ti hr
  rw [h.hS] at hr1
  rw [hr1] at ca
  clear hr1 h
  go_enter Try.func19, Try.ntmps19
  go_wp2
  go_ret
  exact ⟨rfl, rfl⟩

theorem tdiv_two (i : Nat) : ((i : Nat) : Int).tdiv 2 = ((i / 2 : Nat) : Int) := by rw [Int.tdiv_eq_ediv_of_nonneg (by omega)]; omega
theorem tmod_two (i : Nat) : ((i : Nat) : Int).tmod 2 = ((i % 2 : Nat) : Int) := by rw [Int.tmod_eq_emod_of_nonneg (by omega)]; omega

theorem left_bd {r : List Int} {L e l q : Nat} (hr : Rt r L) (he : e + l = L) (h1 : 2 ^ e ≤ q) (h2 : q < 2 * 2 ^ e) : 0 ≤ leftOf r e l q ∧ leftOf r e l q ≤ 4096 := by
  unfold leftOf
  have hm : (q - 2 ^ e) * 2 ^ l ≤ 2 ^ e * 2 ^ l := Nat.mul_le_mul_right _ (by omega)
  rw [← pow_split he] at hm
  have hp := pow_le hr.le
  generalize (q - 2 ^ e) * 2 ^ l = x at hm
  have := sumR_bd hr 0 x (by rw [hr.pow]; omega)
  omega
theorem TAhead_range {w : World} {p g cap S : Nat} {r t : List Int} (h : TM w p g cap S r t) (seg : Int) (hs : ¬ (0 ≤ seg ∧ seg ≤ S)) :
    Calls Try.prog 17 #[.pointer (some ⟨p, 0, none⟩), .int .i64 seg] w fun e w' => e = .returned (.tuple #[.int .i64 0, .int .i64 10]) ∧ w = w' := by
  have c0 := h.c0
  clear h
  by_cases h0 : seg < 0
  · clear hs
    go_enter Try.func17, Try.ntmps17
    go_wp2
    go_ret2
    exact ⟨rfl, rfl⟩
  · have h1 : (S : Int) < seg := by omega
    clear hs
    go_enter Try.func17, Try.ntmps17
    go_wp2
    go_ret2
    exact ⟨rfl, rfl⟩

set_option maxRecDepth 100000 in
set_option maxHeartbeats 800000 in
theorem TAhead_ok {w : World} {p g cap S L : Nat} {r t : List Int} (h : TM w p g cap S r t) (hr : Rt r L) (seg : Nat) (hs : seg ≤ S) :
    Calls Try.prog 17 #[.pointer (some ⟨p, 0, none⟩), .int .i64 seg] w fun e w' => e = .returned (.tuple #[.int .i64 (sumR r 0 seg), .int .i64 0]) ∧ w = w' := by
  have hS := h.hS
  have hs1 := hr.len_pos
  have hs2 := hr.len_le
  have hpow := hr.pow
  rw [hS] at hs1 hs2 hpow
  have c0 := h.c0
  have c1 := h.c1
  have i1 : (seg : Int) ≤ (S : Int) := by omega
  have i0 : (0 : Int) ≤ (seg : Int) := by omega
  have i3 : (S : Int) ≤ 512 := by omega
  by_cases hl : seg = S
  · have ca := h.at_ (k := 1) (by omega)
    have hr1 := root h.ti hr
    rw [hS, ← hl] at hr1
    rw [hr1] at ca
    have t1 : ((seg : Int) == (S : Int)) = true := by simp; omega
    clear hr1 h hl hpow hS
    go_enter Try.func17, Try.ntmps17
    go_wp2
    go_ret2
    exact ⟨rfl, rfl⟩
  · have t1 : ((seg : Int) == (S : Int)) = false := by simp; omega
    have hlt : seg < S := by omega
    have hst : leftOf r L 0 (S + seg) = sumR r 0 seg := by unfold leftOf; rw [hpow]; simp
    have htot := sumR_bd hr 0 seg (by omega)
    have HS := Lib.hid hS
    have HPOW := Lib.hid hpow
    clear hS hpow hl
    go_enter Try.func17, Try.ntmps17
    go_wp2
    go_loop [6, 7] (fun n i => ∃ e l q : Nat, e + l = L ∧ 2 ^ e ≤ q ∧ q < 2 * 2 ^ e ∧ i = .int .i64 q ∧ n = .int .i64 (sumR r 0 seg - leftOf r e l q)) (fun _ i => (intOf i).toNat)
    case atStart =>
      refine ⟨L, 0, S + seg, rfl, by rw [← HPOW.out]; omega, by rw [← HPOW.out]; omega, by go_num, by rw [hst]; simp⟩
    case round =>
      obtain ⟨e, l, q, he, hq1, hq2, rfl, rfl⟩ := hrel
      have bl := left_bd hr he hq1 hq2
      have bl0 := bl.1
      have bl1 := bl.2
      have ht0 := htot.1
      have ht1 := htot.2
      clear bl htot hst
      by_cases hq : 1 < q
      · obtain ⟨e', rfl⟩ : ∃ e', e = e' + 1 := by
          cases e with
          | zero => simp at hq2; omega
          | succ e' => exact ⟨e', rfl⟩
        have hqS : q < 2 * S := by
          have : 2 ^ (e' + 1) ≤ 2 ^ L := Nat.pow_le_pow_right (by decide) (by omega)
          have := HPOW.out
          omega
        have hp2 : 2 ^ (e' + 1) = 2 * 2 ^ e' := by rw [Nat.pow_succ, Nat.mul_comm]
        have td := tdiv_two q
        have tm := tmod_two q
        have bl' := left_bd hr (e := e') (l := l + 1) (q := q / 2) (by omega) (by omega) (by omega)
        have bl2 := bl'.1
        have bl3 := bl'.2
        have k1 : (1 : Int) < (q : Int) := by omega
        have k2 : (q : Int) < 1024 := by omega
        clear bl'
        by_cases hpar : q % 2 = 1
        · have hodd := left_odd h.ti hr (by omega) hq1 hq2 hpar
          have ca := h.at_ (k := q - 1) (by omega)
          have nb := node_bd h.ti hr (i := q - 1) (by omega) (by rw [HS.out]; omega)
          have nb0 := nb.1
          have nb1 := nb.2
          generalize nth t (q - 1) = y at ca hodd nb0 nb1
          generalize leftOf r (e' + 1) l q = A at hodd bl0 bl1 ⊢
          have e1 : sumR r 0 seg - A + y = sumR r 0 seg - leftOf r e' (l + 1) (q / 2) := by omega
          have E1 := Lib.hid e1
          have HODD := Lib.hid hodd
          rw [hpar] at tm
          have n8 : IntKind.i64.wrap ((q : Int) - 1) = (q : Int) - 1 := IntWalk.i64_in _ (by omega)
          have n10 : ((q : Int) - 1).toNat = q - 1 := by omega
          have n11 : (q : Int) - 1 < 2 * (S : Int) := by omega
          have n12 : (0 : Int) ≤ (q : Int) - 1 := by omega
          clear nb e1 hodd hp2
          go_wp2
          go_round
          case rel => exact ⟨e', l + 1, q / 2, by omega, by rw [Nat.pow_succ] at hq1; omega, by rw [Nat.pow_succ] at hq2; omega, rfl, by rw [E1.out]⟩
          case measure => simp [intOf]; omega
        · have hev := left_even (r := r) (l := l) hq1 (by omega : q % 2 = 0)
          have HEV := Lib.hid hev
          have tm0 : ((q : Nat) : Int).tmod 2 = 0 := by rw [tm]; omega
          have HP := Lib.hid hpar
          clear hev hpar hp2 tm
          go_wp2
          go_round
          case rel => exact ⟨e', l + 1, q / 2, by omega, by rw [Nat.pow_succ] at hq1; omega, by rw [Nat.pow_succ] at hq2; omega, rfl, by rw [HEV.out]⟩
          case measure => simp [intOf]; omega
      · have hq3 : q = 1 := by have := pow_pos2 e; omega
        subst hq3
        have he0 : e = 0 := by
          cases e with
          | zero => rfl
          | succ e' => have := pow_pos2 e'; rw [Nat.pow_succ] at hq1; omega
        subst he0
        have hz : leftOf r 0 l 1 = 0 := by simp [leftOf, sumR]
        rw [hz]
        clear hz hq
        go_wp2
        go_ret2
        exact ⟨by simp, rfl⟩
end Go.Proofs.Ytfbjnpbmicbbnaa
