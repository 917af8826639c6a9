/- Joined texts: Re, Rf, Ro, Mb. -/
import Derived.Test.YtaonkbfekadalaaGreatDoorM16
import Derived.Test.YtaonkbfekadalaaGreatDoorM18
/- What check, mover, pack and Even of the rebalancing layer come to. -/
namespace Go.Proofs.YtaonkbfekadalaaGreatDoor
open Go.RowKit
set_option linter.unusedVariables false

/-- What a mover works on, the elements L, and a table of T handles that agrees with it. -/
structure RA (w : World) (G : RGB) (n : Nat) (r : List Bool) (xs t L : List Int) (pd : Option Int) (T : Nat) : Prop where
  g : RG w G n r xs t
  its : its r xs = L
  ag : ∀ b, G.k = some b → Agree t L (pos r) pd
  tl : t.length = T
def moverF (G : RGB) : Value := .func (.func 175) #[] #[.pointer (some ⟨G.bs, 0, none⟩), .pointer (some ⟨G.bn, 0, none⟩), .pointer (some ⟨G.bf, 0, none⟩)]
section
variable {w : World} {G : RGB} {n T : Nat} {r : List Bool} {xs t L : List Int} {pd : Option Int}
/-- A move to a free slot that leaps over no element, or to where the element is. -/
theorem moveA (h : RA w G n r xs t L pd T) (f y : Nat) (hf : on r f = true) (hy : y < n) (hto : f = y ∨ on r y = false) (hb : ∀ j, (f < j ∧ j < y) ∨ (y < j ∧ j < f) → on r j = false) :
    Calls Tryz.prog 175 #[.int .i64 (f : Nat), .int .i64 (y : Nat), .pointer (some ⟨G.bs, 0, none⟩), .pointer (some ⟨G.bn, 0, none⟩), .pointer (some ⟨G.bf, 0, none⟩)] w fun e w' =>
      e = .returned (.int .i64 0) ∧ (∃ xs' t', RA w' G n (mvB r f y) xs' t' L pd T) ∧ Only G.mv w w' := by
  by_cases e : f = y
  · subst e
    refine (move_same h.g (f : Int)).mono ?_
    rintro e w' ⟨rfl, rfl⟩
    rw [mvB_same hf]
    exact ⟨rfl, ⟨xs, t, h⟩, Only.refl _ _⟩
  · have hoff : on r y = false := hto.resolve_left e
    have hl : xs.length = r.length := by rw [h.g.sm.hl, h.g.sm.lr]
    have hyr : y < r.length := by rw [h.g.sm.lr]; exact hy
    refine (move_ok h.g f y hf hy hoff).mono ?_
    rintro e w' ⟨rfl, hR, hO⟩
    refine ⟨rfl, ⟨_, _, hR, ?_, ?_, ?_⟩, hO⟩
    · rw [← h.its]; exact its_move hl hf hyr hoff hb
    · intro b hk
      have hA := h.ag b hk
      have hj : cnt r f < L.length := by rw [← h.its, its_len]; exact cnt_lt (on_lt hf) hf
      have hx : nth xs f = nth L (cnt r f) := by rw [← h.its, its_nth hf]
      have h4 := h.g.sm.hn
      obtain ⟨_, _, m3⟩ := hA.move hj (x := (y : Int)) (by omega)
      have e1 : tellV t (nth xs f) (y : Int) = (moveV t (nth L (cnt r f)) (y : Int)).1 := by unfold tellV; rw [if_pos (by omega), hx]
      rw [e1, show pos (mvB r f y) = (pos r).set (cnt r f) (y : Int) from pos_move hf hyr hoff hb]
      exact m3
    · rw [tellV_len, h.tl]

set_option maxRecDepth 100000 in
set_option maxHeartbeats 1000000 in
theorem pack_ok (h : RA w G n r xs t L pd T) {first segs : Nat} (hE : 8 * (first + segs) ≤ n) :
    Calls Tryz.prog 181 #[.pointer (some ⟨G.b.s, 0, none⟩), .int .i64 (first : Nat), .int .i64 (segs : Nat), moverF G] w fun e w' =>
      ∃ m, e = .returned (.tuple #[.int .i64 (m : Nat), .int .i64 0]) ∧ m = cnt r (8 * (first + segs)) - cnt r (8 * first) ∧ (∃ r' xs' t', RA w' G n r' xs' t' L pd T ∧ Pack r r' (8 * first) (8 * (first + segs)) m (8 * (first + segs))) ∧ Only G.mv w w' := by
  have hn4 := h.g.sm.hn
  have lr := h.g.sm.lr
  have n1 : IntKind.i64.wrap (8 * (first : Int)) = 8 * (first : Int) := IntWalk.i64_in _ (by omega)
  have n2 : IntKind.i64.wrap (8 * (segs : Int)) = 8 * (segs : Int) := IntWalk.i64_in _ (by omega)
  have n3 : IntKind.i64.wrap (8 * (first : Int) + 8 * (segs : Int)) = 8 * (first : Int) + 8 * (segs : Int) := IntWalk.i64_in _ (by omega)
  have hnx := SNext_any h.g.sm h.g.hT (8 * (first : Int))
  have HE := Lib.hid hE
  have HN := Lib.hid hn4
  clear hE hn4
  unfold moverF
  go_enter Tryz.func181, Tryz.ntmps181
  go_wp2_with fail
  refine hnx.mono ?_
  rintro e w1 ⟨⟨s, rfl, hs⟩, rfl⟩
  go_wp2_with fail
  go_loopw [12, 13] (fun a i wr => ∃ (m p : Nat) (s : Int) (r' : List Bool) (xs' t' : List Int), a = .int .i64 m ∧ i = .int .i64 s ∧ RA wr G n r' xs' t' L pd T ∧ Pack r r' (8 * first) (8 * (first + segs)) m p ∧ Only G.mv w wr ∧ IsNext r' (p : Int) s) (fun a i _ => if intOf i < 0 then 0 else n + 1 - (intOf i).toNat)
  case atStart => exact ⟨0, 8 * first, s, r, xs, t, rfl, rfl, h, Pack.start (by omega), Only.refl _ _, by push_cast; exact hs⟩
  case round =>
    obtain ⟨m, p, s', r', xs', t', rfl, rfl, hA, hP, hO, hs'⟩ := hrel
    have lr' := hA.g.sm.lr
    have bd := hP.bd
    have hE := HE.out
    have hn4 := HN.out
    have same : ∀ j, p ≤ j → on r' j = on r j := fun j hj => by rw [hP.at_, if_neg (by omega)]
    by_cases hin : 0 ≤ s' ∧ s' < 8 * (first : Int) + 8 * (segs : Int)
    · obtain ⟨q, rfl, hpq, hon, hno⟩ : ∃ q : Nat, s' = q ∧ p ≤ q ∧ on r' q = true ∧ ∀ j, p ≤ j → j < q → on r' j = false := by
        rcases hs' with ⟨q, rfl, q1, q2, q3⟩ | ⟨rfl, _⟩
        · exact ⟨q, rfl, by omega, q2, fun j j1 j2 => q3 j (by omega) j2⟩
        · omega
      have hqE : q < 8 * (first + segs) := by omega
      have hP2 := hP.skip hpq (by omega) fun j j1 j2 => by rw [← same j j1]; exact hno j j1 j2
      obtain ⟨p1, p2, p3, p4⟩ := hP2.step hqE (by rw [← same q hpq]; exact hon)
      have hmv := moveA hA q (8 * first + m) p1 (by omega) (by rcases p2 with e | e; exact .inl e.symm; exact .inr e.2) p3
      push_cast at hmv
      have i1 : (q : Int) < 8 * (first : Int) + 8 * (segs : Int) := hin.2
      have i0 : (0 : Int) ≤ (q : Int) := by omega
      have n4 : IntKind.i64.wrap (8 * (first : Int) + (m : Int)) = 8 * (first : Int) + (m : Int) := IntWalk.i64_in _ (by omega)
      have n5 : IntKind.i64.wrap ((m : Int) + 1) = (m : Int) + 1 := IntWalk.i64_in _ (by omega)
      have n6 : IntKind.i64.wrap ((q : Int) + 1) = (q : Int) + 1 := IntWalk.i64_in _ (by omega)
      clear hin hs' hno same hP hA hnx hs
      go_wp2_with fail
      refine hmv.mono ?_
      rintro e w1 ⟨rfl, ⟨xs2, t2, hA2⟩, hO2⟩
      have hnx2 := SNext_any hA2.g.sm hA2.g.hT ((q : Int) + 1)
      go_wp2_with fail
      refine hnx2.mono ?_
      rintro e w2 ⟨⟨s2, rfl, hs2⟩, rfl⟩
      go_wp2_with fail
      go_round
      case rel => exact ⟨m + 1, q + 1, s2, _, xs2, t2, by go_num, rfl, hA2, p4, hO.trans hO2, by push_cast; exact hs2⟩
      case measure =>
        have hb2 := hs2.bd
        have h0 : ¬ ((q : Int) < 0) := by omega
        rcases hs2 with ⟨j, rfl, j1, j2, j3⟩ | ⟨rfl, _⟩
        · have := on_lt j2
          rw [mvB_len] at this
          have h1 : ¬ ((j : Int) < 0) := by omega
          simp [intOf, h0, h1]; omega
        · simp [intOf, h0]; omega
    · have hnone : ∀ j, p ≤ j → j < 8 * (first + segs) → on r j = false := by
        intro j j1 j2
        rw [← same j j1]
        rcases hs' with ⟨q, rfl, q1, q2, q3⟩ | ⟨rfl, q1⟩
        · exact q3 j (by omega) (by omega)
        · exact q1 j (by omega)
      have hP2 := hP.skip bd.2 (Nat.le_refl _) hnone
      have hm : m = cnt r (8 * (first + segs)) - cnt r (8 * first) := by have := hP2.cnt; omega
      have hc : decide (0 ≤ s') = false ∨ (decide (0 ≤ s') = true ∧ decide (s' < 8 * (first : Int) + 8 * (segs : Int)) = false) := by
        by_cases h0 : 0 ≤ s'
        · exact .inr ⟨by simp [h0], by simp; omega⟩
        · exact .inl (by simp; omega)
      clear same hnx hs hs' hin hnone
      rcases hc with c1 | ⟨c1, c2⟩
      all_goals
        go_wp2_with fail
        go_ret2
        exact ⟨m, rfl, hm, ⟨r', xs', t', hA, hP2⟩, hO⟩
end
end Go.Proofs.YtaonkbfekadalaaGreatDoor
/- What check, mover and Even of the rebalancing layer come to. -/
namespace Go.Proofs.YtaonkbfekadalaaGreatDoor
open Go.RowKit
set_option linter.unusedVariables false

set_option maxRecDepth 100000 in
theorem rcheck_ok {w : World} {b : SB} {n : Nat} {r : List Bool} {xs : List Int} (h : SM w b n r xs) {first segs : Nat} (h1 : 1 ≤ segs) (hE : 8 * (first + segs) ≤ n) :
    Calls Tryz.prog 121 #[.pointer (some ⟨b.s, 0, none⟩), .int .i64 (first : Nat), .int .i64 (segs : Nat)] w fun e w' => e = .returned (.int .i64 0) ∧ w = w' := by
  have hn := h.hn
  have hc := SCap_ok h
  have i1 : (1 : Int) ≤ (segs : Int) := by omega
  have i2 : (segs : Int) ≤ 512 := by omega
  have i3 : (first : Int) ≤ 512 - (segs : Int) := by omega
  have i4 : 8 * ((first : Int) + (segs : Int)) ≤ (n : Int) := by omega
  have n1 : IntKind.i64.wrap (512 - (segs : Int)) = 512 - (segs : Int) := IntWalk.i64_in _ (by omega)
  have n2 : IntKind.i64.wrap ((first : Int) + (segs : Int)) = (first : Int) + (segs : Int) := IntWalk.i64_in _ (by omega)
  have n3 : IntKind.i64.wrap (8 * ((first : Int) + (segs : Int))) = 8 * ((first : Int) + (segs : Int)) := IntWalk.i64_in _ (by omega)
  have t1 : decide ((segs : Int) < 1) = false := by simp; omega
  have t2 : decide (512 < (segs : Int)) = false := by simp; omega
  have t3 : decide ((first : Int) < 0) = false := by simp
  have t4 : decide (512 - (segs : Int) < (first : Int)) = false := by simp; omega
  have t5 : decide ((n : Int) < 8 * ((first : Int) + (segs : Int))) = false := by simp; omega
  clear hE h1 hn h
  go_enter Tryz.func121, Tryz.ntmps121
  go_wp2_with fail
  refine hc.mono ?_
  rintro e w1 ⟨rfl, rfl⟩
  go_wp2_with fail
  go_ret
  exact ⟨rfl, rfl⟩
theorem mover_any (s : Nat) (f : Value) (w : World) (hf : f = .nilFunc ∨ ∃ fn a c, f = .func fn a c) :
    Calls Tryz.prog 123 #[.pointer (some ⟨s, 0, none⟩), f] w fun e w' => e = .returned (.tuple #[.func (.func 175) #[] #[.pointer (some ⟨w.heap.size, 0, none⟩), .pointer (some ⟨w.heap.size + 2, 0, none⟩), .pointer (some ⟨w.heap.size + 1, 0, none⟩)], .pointer (some ⟨w.heap.size + 2, 0, none⟩)]) ∧
      ((w.alloc (.cells #[.pointer (some ⟨s, 0, none⟩)] 105)).alloc (.cells #[f] 104)).alloc (.cells #[.int .i64 0] 3) = w' := by
  have hmf : ∀ (fn : Fn) (first cap : Array Value) (w : World), (Instr.makeFunc fn first cap).run Tryz.prog w = .ok (.func fn first cap) w := fun _ _ _ _ => rfl
  rcases hf with rfl | ⟨fn, a, c, rfl⟩
  all_goals
    go_enter Tryz.func123, Tryz.ntmps123
    go_wp2
    go_ret2
    exact ⟨rfl, rfl⟩
/-- An array, its teller, and the elements L. -/
structure RB (w : World) (G : RGB) (n : Nat) (r : List Bool) (xs t L : List Int) (pd : Option Int) (T : Nat) : Prop where
  sm : SM w G.b n r xs
  tk : TK w G.k t
  pw : PW w G.pp G.b.s G.tt G.k
  tf : TFm w G.pp G.f
  hT : Tab w
  hI : ∀ j, inH (nth xs j)
  n2 : ∀ a b, G.f = .stp a b → a ≠ G.b.g
  its : its r xs = L
  ag : ∀ b, G.k = some b → Agree t L (pos r) pd
  tl : t.length = T
def RGB.mb (G : RGB) (i : Nat) : Prop := G.b.mv i ∨ mvK G.k i ∨ mvF G.f i
section
variable {w w' : World} {G : RGB} {n T : Nat} {r : List Bool} {xs t L : List Int} {pd : Option Int}
theorem RG.lt (h : RG w G n r xs t) {i : Nat} (hi : G.mv i) : i < w.heap.size := by
  rcases hi with (rfl | rfl) | rfl | hi | hi
  · exact h.sm.hx.lt
  · exact h.sm.hb.hg.lt
  · obtain ⟨c, hc⟩ := h.m2; exact hc.lt
  · have tk := h.tk
    cases e : G.k with
    | none => rw [e] at hi; exact hi.elim
    | some b =>
      rw [e] at hi tk
      rcases hi with rfl | rfl
      · exact tk.1.2.2.hp.lt
      · exact tk.1.2.2.hm.lt
  · have tf := h.tf
    cases e : G.f with
    | dir => rw [e] at hi; exact hi.elim
    | stp a c =>
      rw [e] at hi tf
      obtain rfl : i = a := hi
      obtain ⟨s, hs⟩ := tf.1
      exact hs.lt
theorem RB.below (h : RB w G n r xs t L pd T) (hb : Below w.heap.size w w') : RB w' G n r xs t L pd T :=
  ⟨h.sm.below hb, h.tk.below hb, Blk.below h.pw hb (Blk.lt h.pw), h.tf.only (Only.of_below (X := fun _ => False) hb) fun _ _ _ => ⟨id, id⟩, h.hT.below hb, h.hI, h.n2, h.its, h.ag, h.tl⟩
/-- With a mover's three boxes. -/
def RGB.boxed (G : RGB) (m : Nat) : RGB := { G with bs := m, bf := m + 1, bn := m + 2 }
theorem RB.boxed (h : RB w G n r xs t L pd T) : RA (((w.alloc (.cells #[.pointer (some ⟨G.b.s, 0, none⟩)] 105)).alloc (.cells #[tellF G.pp G.f] 104)).alloc (.cells #[.int .i64 0] 3)) (G.boxed w.heap.size) n r xs t L pd T := by
  have hB : Below w.heap.size w (((w.alloc (.cells #[.pointer (some ⟨G.b.s, 0, none⟩)] 105)).alloc (.cells #[tellF G.pp G.f] 104)).alloc (.cells #[.int .i64 0] 3)) :=
    (((Below.refl _ w).alloc (Nat.le_refl _) _).alloc (by simp) _).alloc (by simp; omega) _
  have h2 := h.below hB
  have k1 := ((Blk.made w 105 #[.pointer (some ⟨G.b.s, 0, none⟩)]).alloc (.cells #[tellF G.pp G.f] 104)).alloc (.cells #[.int .i64 0] 3)
  have k2 := (Blk.made (w.alloc (.cells #[.pointer (some ⟨G.b.s, 0, none⟩)] 105)) 104 #[tellF G.pp G.f]).alloc (.cells #[.int .i64 0] 3)
  have k3 := Blk.made ((w.alloc (.cells #[.pointer (some ⟨G.b.s, 0, none⟩)] 105)).alloc (.cells #[tellF G.pp G.f] 104)) 3 #[.int .i64 0]
  simp only [World.size_alloc] at k2 k3
  have hg := h.sm.lt (i := G.b.g) (.inr (.inl rfl))
  refine ⟨⟨h2.sm, h2.tk, h2.pw, k1, ⟨0, k3⟩, k2, h2.tf, h2.hT, h.hI, ?_, ?_⟩, h.its, h.ag, h.tl⟩
  · show G.b.g ≠ w.heap.size + 2
    omega
  · intro a c e
    refine ⟨h.n2 a c e, ?_⟩
    have tf := h.tf
    rw [show G.f = .stp a c from e] at tf
    obtain ⟨s, hs⟩ := tf.1
    have := hs.lt
    show a ≠ w.heap.size + 2
    omega
theorem RA.unboxed {m : Nat} (h : RA w (G.boxed m) n r xs t L pd T) : RB w G n r xs t L pd T := ⟨h.g.sm, h.g.tk, h.g.pw, h.g.tf, h.g.hT, h.g.hI, fun a c e => (h.g.n2 a c e).1, h.its, h.ag, h.tl⟩
theorem Only.unboxed {W : World} (h : Only (G.boxed w.heap.size).mv W w') (hb : Below w.heap.size w W) : Only G.mb w w' :=
  (Only.of_below (X := G.mb) hb).trans' h fun i hi q => by
    rcases q with q | q | q | q
    · exact .inl q
    · exact absurd (show i = w.heap.size + 2 from q) (by omega)
    · exact .inr (.inl q)
    · exact .inr (.inr q)
theorem tellF_func (p : Nat) (f : TFK) : tellF p f = .nilFunc ∨ ∃ fn a c, tellF p f = .func fn a c := by
  cases f
  · exact .inr ⟨_, _, _, rfl⟩
  · exact .inr ⟨_, _, _, rfl⟩

set_option maxRecDepth 100000 in
set_option maxHeartbeats 400000 in
/-- EVEN. -/
theorem Even_ok (h : RB w G n r xs t L pd T) {first segs : Nat} (h1 : 1 ≤ segs) (hE : 8 * (first + segs) ≤ n) :
    Calls Tryz.prog 130 #[.pointer (some ⟨G.b.s, 0, none⟩), .int .i64 (first : Nat), .int .i64 (segs : Nat), tellF G.pp G.f] w fun e w' =>
      (∃ c, e = .returned (.tuple #[.int .i64 c, .int .i64 0])) ∧ (∃ xs' t', RB w' G n (evenB r first segs) xs' t' L pd T) ∧ Only G.mb w w' := by
  have hn4 := h.sm.hn
  have lr := h.sm.lr
  have hck := rcheck_ok h.sm h1 hE
  have hmo := mover_any G.b.s (tellF G.pp G.f) w (tellF_func _ _)
  have hA := h.boxed
  have hB : Below w.heap.size w (((w.alloc (.cells #[.pointer (some ⟨G.b.s, 0, none⟩)] 105)).alloc (.cells #[tellF G.pp G.f] 104)).alloc (.cells #[.int .i64 0] 3)) :=
    (((Below.refl _ w).alloc (Nat.le_refl _) _).alloc (by simp) _).alloc (by simp; omega) _
  have hpk := pack_ok hA hE
  have hfun : ∃ fn a c, tellF G.pp G.f = .func fn a c := by
    rcases tellF_func G.pp G.f with e | e
    · cases hf : G.f <;> rw [hf] at e <;> cases e
    · exact e
  obtain ⟨fn, fa, fc, hfv⟩ := hfun
  rw [hfv] at hmo hpk hB ⊢
  have hcw : cnt r (8 * (first + segs)) - cnt r (8 * first) ≤ 8 * segs := by
    have key : ∀ d, cnt r (8 * first + d) ≤ cnt r (8 * first) + d := by
      intro d
      induction d with
      | zero => exact Nat.le_refl _
      | succ d ih => rw [← Nat.add_assoc, cnt_succ]; split <;> omega
    have := key (8 * segs)
    rw [show 8 * first + 8 * segs = 8 * (first + segs) by omega] at this
    omega
  have HE := Lib.hid hE
  have HN := Lib.hid hn4
  have HC := Lib.hid hcw
  have H1 := Lib.hid h1
  have HR := Lib.hid lr
  clear hE hn4 hcw h1 hA h lr hfv
  go_enter Tryz.func130, Tryz.ntmps130
  go_wp2_with fail
  refine hck.mono ?_
  rintro e w1 ⟨rfl, rfl⟩
  go_wp2_with fail
  refine hmo.mono ?_
  rintro e w1 ⟨rfl, rfl⟩
  go_wp2_with fail
  refine hpk.mono ?_
  rintro e w2 ⟨m, rfl, hm, ⟨r', xs', t', hA2, hP⟩, hO2⟩
  have hc := HC.out
  have hok : okB (m : Int) (segs : Int) = true := okB_mk ⟨by have := H1.out; omega, by have := HE.out; have := HN.out; omega, by omega, by omega⟩
  have hpl := Places_ok m first segs w2 hok ⟨by omega, by have := HE.out; have := HN.out; omega⟩
  have HP := Lib.hid (places_pl (r := r) (first := first) hok)
  have HM8 := Lib.hid (show m ≤ 4096 from by have := HE.out; have := HN.out; omega)
  have HM := Lib.hid hm
  have HLT := Lib.hid (fun i hi => hA2.g.lt (i := i) hi)
  clear hm hc
  go_wp2_with fail
  refine hpl.mono ?_
  rintro e w3 ⟨rfl, hRI, hb3⟩
  have hO3 := Only.of_below (X := (G.boxed w.heap.size).mv) hb3
  have hbx : w.heap.size + 2 < w2.heap.size := by obtain ⟨cc, hcc⟩ := hA2.g.m2; exact hcc.lt
  have sz2 := hO2.size
  have hA3 : RA w3 (G.boxed w.heap.size) n r' xs' t' L pd T := ⟨⟨hA2.g.sm.below hb3, hA2.g.tk.below hb3, Blk.below hA2.g.pw hb3 (Blk.lt hA2.g.pw), hA2.g.m1.below hb3 hA2.g.m1.lt, hA2.g.m2.imp fun c hc => hc.below hb3 hc.lt, hA2.g.m3.below hb3 hA2.g.m3.lt,
    hA2.g.tf.only (Only.of_below (X := fun _ => False) hb3) fun _ _ _ => ⟨id, id⟩, hA2.g.hT.below hb3, hA2.g.hI, hA2.g.n1, hA2.g.n2⟩, hA2.its, hA2.ag, hA2.tl⟩
  have n1 : IntKind.i64.wrap ((m : Int) - 1) = (m : Int) - 1 := IntWalk.i64_in _ (by have := HM8.out; omega)
  have hS := Spread.start (p := 0) (S := pl (m : Int) first segs) hP
  have n2 : IntKind.i64.wrap (8 * (first : Int)) = 8 * (first : Int) := IntWalk.i64_in _ (by have := HE.out; have := HN.out; omega)
  clear hpl hA2 hP hpk hck hmo hok
  go_wp2_with fail
  go_loopw [16] (fun i wr => ∃ (k : Nat) (r2 : List Bool) (xs2 t2 : List Int), k ≤ m ∧ i = .int .i64 ((k : Int) - 1) ∧ RA wr (G.boxed w.heap.size) n r2 xs2 t2 L pd T ∧ Spread r r2 (8 * first) (8 * (first + segs)) m k (pl (m : Int) first segs) ∧ Only (G.boxed w.heap.size).mv w3 wr) (fun i _ => (intOf i + 1).toNat)
  case atStart => exact ⟨m, r', xs', t', Nat.le_refl _, rfl, hA3, hS, Only.refl _ _⟩
  case round =>
    obtain ⟨k, r2, xs2, t2, hk, rfl, hA4, hS4, hO4⟩ := hrel
    cases k with
    | zero =>
      have he := Spread.done rfl HM.out (by rw [HR.out]; exact HE.out) HP.out.len hS4
      subst he
      obtain ⟨cc, hcc⟩ := hA4.g.m2
      have c9 : wr.cell? ⟨w.heap.size + 2, 0, none⟩ = some (.int .i64 cc) := by rw [show w.heap.size + 2 = (G.boxed w.heap.size).bn from rfl, hcc.cell]; rfl
      go_wp2_with fail
      go_ret2
      refine ⟨⟨cc, rfl⟩, ⟨xs2, t2, hA4.unboxed⟩, ?_⟩
      exact ((hO2.trans hO3).trans hO4).unboxed hB
    | succ k =>
      obtain ⟨s1, y, s2, s3, s4, s5, s6⟩ := hS4.step HP.out (by omega) (by rw [HR.out]; exact HE.out)
      have hmv := moveA hA4 (8 * first + k) y s1 (by rw [← HR.out]; exact s3) (by rcases s4 with e | e; exact .inl e; exact .inr e.2) s5
      push_cast at hmv
      have e1 : ((k + 1 : Nat) : Int) - 1 = (k : Int) := by omega
      have i0 : (0 : Int) ≤ (k : Int) := by omega
      have i1 : (k : Int) < (m : Int) := by omega
      have hcell : wr.cell? ⟨w2.heap.size, k, none⟩ = some (.int .i64 (y : Nat)) := by
        obtain ⟨b0, o0, e0, hc0⟩ := hRI (by rw [HP.out.len]; omega)
        injection e0 with e0
        injection e0 with e2 e3
        subst e2 e3
        have h5 := hc0 k (by rw [HP.out.len]; omega)
        rw [Nat.zero_add, s2] at h5
        have hlt : w2.heap.size < w3.heap.size := World.block_lt_of_cell? w3 ⟨w2.heap.size, k, none⟩ h5
        have hnx : ¬ (G.boxed w.heap.size).mv w2.heap.size := by
          intro q
          exact absurd (HLT.out _ q) (Nat.lt_irrefl _)
        have h6 := hO4.block _ hlt hnx
        rw [← h5]
        simp only [World.cell?, h6]
      have n4 : IntKind.i64.wrap (8 * (first : Int) + (k : Int)) = 8 * (first : Int) + (k : Int) := IntWalk.i64_in _ (by have := HE.out; have := HN.out; have := HM8.out; omega)
      have n5 : IntKind.i64.wrap ((k : Int) - 1) = (k : Int) - 1 := IntWalk.i64_in _ (by have := HM8.out; omega)
      rw [e1]
      clear hS4 hA4 s2 s3 s4 s5 hS hRI
      go_wp2_with fail
      refine hmv.mono ?_
      rintro e w5 ⟨rfl, ⟨xs5, t5, hA5⟩, hO5⟩
      go_wp2_with fail
      go_round
      case rel => exact ⟨k, _, xs5, t5, by omega, by go_num, hA5, s6, hO4.trans hO5⟩
      case measure => simp [intOf]
end
end Go.Proofs.YtaonkbfekadalaaGreatDoor
/- What Open of the rebalancing layer comes to. -/
namespace Go.Proofs.YtaonkbfekadalaaGreatDoor
open Go.RowKit
set_option linter.unusedVariables false

/-- The hole that was at i0 has come to i. -/
def mid (r : List Bool) (i0 i : Nat) : List Bool := (r.set i0 true).set i false
theorem mid_len (r : List Bool) (i0 i : Nat) : (mid r i0 i).length = r.length := by simp [mid]
theorem on_mid {r : List Bool} {i0 i : Nat} (h0 : i0 < r.length) (h : i < r.length) (j : Nat) : on (mid r i0 i) j = if j = i then false else if j = i0 then true else on r j := by
  unfold mid
  rw [on_set (by simpa using h), on_set h0]
theorem mid_start {r : List Bool} {i : Nat} (h : i < r.length) (ho : on r i = false) : mid r i i = r := by
  apply on_ext (mid_len _ _ _)
  intro j _
  rw [on_mid h h]
  by_cases e : j = i
  · rw [if_pos e, e, ho]
  · rw [if_neg e, if_neg e]
theorem mid_step {r : List Bool} {i0 i f : Nat} (h0 : i0 < r.length) (h : i < r.length) (hf : f < r.length) (ho : on r f = true) (hne : f ≠ i) (hn0 : f ≠ i0) (hi : i = i0 ∨ on r i = true) : mvB (mid r i0 i) f i = mid r i0 f := by
  apply on_ext (by rw [mvB_len, mid_len, mid_len])
  intro j _
  rw [on_mvB (by rw [mid_len]; exact hf) (by rw [mid_len]; exact h), on_mid h0 h, on_mid h0 hf]
  by_cases e1 : j = i
  · rw [if_pos e1, if_neg (by omega)]
    rcases hi with e | e
    · rw [if_pos (by omega)]
    · split
      · rfl
      · rw [e1, e]
  · rw [if_neg e1, if_neg e1]
theorem lt_if {i m : Nat} (h : ¬ m = i) : (if i < m + 1 then 1 else 0) = (if i < m then 1 else 0) := by
  by_cases e : i < m
  · rw [if_pos e, if_pos (by omega)]
  · rw [if_neg e, if_neg (by omega)]
theorem cnt_on {r : List Bool} {i : Nat} (h : i < r.length) (ho : on r i = false) : ∀ m, cnt (r.set i true) m = cnt r m + (if i < m then 1 else 0)
  | 0 => rfl
  | m + 1 => by
    rw [cnt_succ, cnt_succ, cnt_on h ho m, on_set h]
    by_cases e : m = i
    · subst e; rw [if_pos rfl, ho]; simp
    · rw [if_neg e, lt_if e]; omega
theorem cnt_off {r : List Bool} {i : Nat} (ho : on r i = true) : ∀ m, cnt (r.set i false) m + (if i < m then 1 else 0) = cnt r m
  | 0 => rfl
  | m + 1 => by
    have ih := cnt_off ho m
    rw [cnt_succ, cnt_succ, on_set (on_lt ho)]
    by_cases e : m = i
    · subst e
      rw [if_neg (Nat.lt_irrefl _)] at ih
      rw [if_pos rfl, ho]
      simp at ih ⊢
      omega
    · rw [if_neg e, lt_if e]; omega
/-- The first free slot of k, from i on. -/
def upF (r : List Bool) : Nat → Nat → Option Nat
  | 0, _ => none
  | k + 1, i => if on r i then upF r k (i + 1) else some i
/-- The last free slot of the first k, from base on. -/
def dnF (r : List Bool) (base : Nat) : Nat → Option Nat
  | 0 => none
  | k + 1 => if on r (base + k) then dnF r base k else some (base + k)
theorem upF_some {r : List Bool} {j : Nat} : ∀ {k i : Nat}, i ≤ j → j < i + k → (∀ q, i ≤ q → q < j → on r q = true) → on r j = false → upF r k i = some j
  | 0, i, h1, h2, _, _ => by omega
  | k + 1, i, h1, h2, h3, h4 => by
    unfold upF
    by_cases e : i = j
    · subst e; rw [h4]; rfl
    · rw [h3 i (Nat.le_refl _) (by omega), if_pos rfl]
      exact upF_some (by omega) (by omega) (fun q a b => h3 q (by omega) b) h4
theorem upF_none {r : List Bool} : ∀ {k i : Nat}, (∀ q, i ≤ q → q < i + k → on r q = true) → upF r k i = none
  | 0, _, _ => rfl
  | k + 1, i, h => by
    unfold upF
    rw [h i (Nat.le_refl _) (by omega), if_pos rfl]
    exact upF_none fun q a b => h q (by omega) (by omega)
theorem dnF_some {r : List Bool} {base j : Nat} : ∀ {k : Nat}, base ≤ j → j < base + k → (∀ q, j < q → q < base + k → on r q = true) → on r j = false → dnF r base k = some j
  | 0, h1, h2, _, _ => by omega
  | k + 1, h1, h2, h3, h4 => by
    unfold dnF
    by_cases e : base + k = j
    · rw [e, h4]; rfl
    · rw [h3 (base + k) (by omega) (by omega), if_pos rfl]
      exact dnF_some h1 (by omega) (fun q a b => h3 q a (by omega)) h4
/-- The occupied slots behind an Open, and the slot that is free then. -/
def openV (r : List Bool) (base nx : Nat) : List Bool × Nat :=
  match upF r (base + 8 - nx) nx with
  | some i => (mid r i nx, nx)
  | none => match dnF r base (nx - base) with
    | some i => (mid r i (nx - 1), nx - 1)
    | none => (r, nx)
section
variable {w w' : World} {G : RGB} {n T : Nat} {r : List Bool} {xs t L : List Int} {pd : Option Int}
theorem Only.unboxed' {m : Nat} {W : World} (h : Only (G.boxed m).mv W w') (hb : Below w.heap.size w W) (hm : w.heap.size ≤ m) : Only G.mb w w' :=
  (Only.of_below (X := G.mb) hb).trans' h fun i hi q => by
    rcases q with q | q | q | q
    · exact .inl q
    · exact absurd (show i = m + 2 from q) (by omega)
    · exact .inr (.inl q)
    · exact .inr (.inr q)
theorem RG.far (h : RG w G n r xs t) {g : Nat} {ty : TypeId} {cs : Array Value} (hb : Blk w g ty cs) (t3 : ty ≠ 3) (t191 : ty ≠ 191) (t133 : ty ≠ 133) : ¬ G.mv g := by
  obtain ⟨cn, hn⟩ := h.m2
  rintro ((rfl | rfl) | rfl | hk | hf)
  · exact h.sm.hx.ne_ hb (fun e => t3 e.symm) rfl
  · obtain ⟨cs', h1, _⟩ := h.sm.hb.hg
    exact hb.ne_ h1 t191 rfl
  · exact hb.ne_ hn t3 rfl
  · exact h.tk.far hb t133 hk
  · have tf := h.tf
    cases e : G.f with
    | dir => rw [e] at hf; exact hf
    | stp a c =>
      rw [e] at hf tf
      obtain rfl : g = a := hf
      obtain ⟨s, hs⟩ := tf.1
      exact hb.ne_ hs t3 rfl
theorem free_any {b : SB} (h : SM w b n r xs) {B0 : Nat} (hb : Blk w B0 105 #[.pointer (some ⟨b.s, 0, none⟩)]) (i : Int) :
    Calls Tryz.prog 122 #[.int .i64 i, .pointer (some ⟨B0, 0, none⟩)] w fun e w' => e = .returned (.bool (!hasB r i)) ∧ w = w' := by
  have c0 : w.cell? ⟨B0, 0, none⟩ = some (.pointer (some ⟨b.s, 0, none⟩)) := by rw [hb.cell]; rfl
  have hat := SAt_any h i
  generalize atV r xs i = z at *
  generalize hasB r i = y at *
  go_enter Tryz.func122, Tryz.ntmps122
  go_wp2_with fail
  refine hat.mono ?_
  rintro e w1 ⟨rfl, rfl⟩
  go_wp2_with fail
  go_ret
  exact ⟨rfl, rfl⟩

set_option maxRecDepth 100000 in
set_option maxHeartbeats 600000 in
/-- OPEN: behind -1 (at the beginning of the first segment), or behind an element of the segment; the segment has a free slot. -/
theorem Open_ok (h : RB w G n r xs t L pd T) {sg nx : Nat} {bh : Int} (hE : 8 * sg + 8 ≤ n) (hb : (bh = -1 ∧ nx = 8 * sg) ∨ (∃ k : Nat, bh = k ∧ 8 * sg ≤ k ∧ k < 8 * sg + 8 ∧ on r k = true ∧ nx = k + 1)) (hfree : ∃ j, 8 * sg ≤ j ∧ j < 8 * sg + 8 ∧ on r j = false) :
    Calls Tryz.prog 73 #[.pointer (some ⟨G.b.s, 0, none⟩), .int .i64 (sg : Nat), .int .i64 bh, tellF G.pp G.f] w fun e w' =>
      e = .returned (.tuple #[.int .i64 ((openV r (8 * sg) nx).2 : Nat), .int .i64 0]) ∧ (∃ xs' t', RB w' G n (openV r (8 * sg) nx).1 xs' t' L pd T) ∧ Only G.mb w w' := by
  have hn4 := h.sm.hn
  have hB0 : Below w.heap.size w (w.alloc (.cells #[.pointer (some ⟨G.b.s, 0, none⟩)] 105)) := (Below.refl _ w).alloc (Nat.le_refl _) _
  have h0 := h.below hB0
  have k0 := Blk.made w 105 #[.pointer (some ⟨G.b.s, 0, none⟩)]
  have hck := rcheck_ok h0.sm (first := sg) (segs := 1) (Nat.le_refl _) (by omega)
  have hsz : (w.alloc (.cells #[.pointer (some ⟨G.b.s, 0, none⟩)] 105)).heap.size = w.heap.size + 1 := by simp
  have hmo := mover_any G.b.s (tellF G.pp G.f) (w.alloc (.cells #[.pointer (some ⟨G.b.s, 0, none⟩)] 105)) (tellF_func _ _)
  have hA := h0.boxed
  have hfun : ∃ fn a c, tellF G.pp G.f = .func fn a c := by
    rcases tellF_func G.pp G.f with e | e
    · cases hf : G.f <;> rw [hf] at e <;> cases e
    · exact e
  obtain ⟨fn, fa, fc, hfv⟩ := hfun
  have n1 : IntKind.i64.wrap (8 * (sg : Int)) = 8 * (sg : Int) := IntWalk.i64_in _ (by omega)
  have n2 : IntKind.i64.wrap (8 * (sg : Int) + 8) = 8 * (sg : Int) + 8 := IntWalk.i64_in _ (by omega)
  have kB := ((k0.alloc (.cells #[.pointer (some ⟨G.b.s, 0, none⟩)] 105)).alloc (.cells #[tellF G.pp G.f] 104)).alloc (.cells #[.int .i64 0] 3)
  have hB1 : Below w.heap.size w ((((w.alloc (.cells #[.pointer (some ⟨G.b.s, 0, none⟩)] 105)).alloc (.cells #[.pointer (some ⟨G.b.s, 0, none⟩)] 105)).alloc (.cells #[tellF G.pp G.f] 104)).alloc (.cells #[.int .i64 0] 3)) :=
    ((hB0.alloc (by simp) _).alloc (by simp; omega) _).alloc (by simp; omega) _
  have c0 : (w.alloc (.cells #[.pointer (some ⟨G.b.s, 0, none⟩)] 105)).cell? ⟨w.heap.size, 0, none⟩ = some (.pointer (some ⟨G.b.s, 0, none⟩)) := by rw [k0.cell]; rfl
  have lr := h.sm.lr
  have hat : ∀ k : Nat, on r k = true → Calls Tryz.prog 70 #[.pointer (some ⟨G.b.s, 0, none⟩), .int .i64 (k : Nat)] (w.alloc (.cells #[.pointer (some ⟨G.b.s, 0, none⟩)] 105)) fun e w' => e = .returned (.tuple #[.int .i64 (nth xs k), .bool true]) ∧ (w.alloc (.cells #[.pointer (some ⟨G.b.s, 0, none⟩)] 105)) = w' := by
    intro k hk
    have h1 := SAt_any h0.sm (k : Int)
    unfold atV at h1
    rwa [hasB_nat, hk, if_pos rfl, Int.toNat_natCast] at h1
  have hmf : ∀ (fn : Fn) (first cap : Array Value) (w : World), (Instr.makeFunc fn first cap).run Tryz.prog w = .ok (.func fn first cap) w := fun _ _ _ _ => rfl
  rw [hfv] at hmo kB hA hB1 ⊢
  rw [hsz] at hmo hA
  have HA := Lib.hid hA
  have HKB := Lib.hid kB
  have HB1 := Lib.hid hB1
  have HE := Lib.hid hE
  have HN := Lib.hid hn4
  have HF := Lib.hid hfree
  have HLR := Lib.hid lr
  have HSZ := Lib.hid hsz
  have hfr := fun i => free_any hA.g.sm kB i
  clear hA kB hB1 hE hn4 hfree lr hB0 h0 h hfv k0
  generalize hW : ((((w.alloc (.cells #[.pointer (some ⟨G.b.s, 0, none⟩)] 105)).alloc (.cells #[.pointer (some ⟨G.b.s, 0, none⟩)] 105)).alloc (.cells #[.func fn fa fc] 104)).alloc (.cells #[.int .i64 0] 3)) = W1 at *
  rcases hb with ⟨rfl, rfl⟩ | ⟨k, rfl, k1, k2, k3, rfl⟩
  · have t1 : ((-1 : Int) == -1) = true := by decide
    clear hat
    go_enter Tryz.func73, Tryz.ntmps73
    go_wp2_with fail
    refine hck.mono ?_
    rintro e w1 ⟨rfl, rfl⟩
    go_wp2_with fail
    refine hmo.mono ?_
    rintro e w1 ⟨rfl, rfl⟩
    clear hck hmo
    go_wp2_with fail
    go_loopw [19] (fun i wr => ∃ (q : Nat) (z : Int), i = .int .i64 z ∧ z = (q : Int) ∧ 8 * sg ≤ q ∧ q ≤ 8 * sg + 8 ∧ (∀ j, 8 * sg ≤ j → j < q → on r j = true) ∧ W1 = wr) (fun i _ => 8 * sg + 8 - (intOf i).toNat)
    case atStart => exact ⟨8 * sg, _, rfl, by push_cast; rfl, Nat.le_refl _, by omega, fun j a b => by omega, rfl⟩
    case round =>
      obtain ⟨q, z, rfl, rfl, q1, q2, q3, hwr⟩ := hrel
      subst hwr
      by_cases hlt : q < 8 * sg + 8
      · have u1 : decide ((q : Int) < 8 * (sg : Int) + 8) = true := by simp; omega
        have hf := hfr (q : Int)
        rw [hasB_nat] at hf
        have hqr : q < r.length := by rw [HLR.out]; have := HE.out; omega
        cases ho : on r q
        · rw [ho] at hf
          have hA0 := HA.out
          rw [← mid_start hqr ho] at hA0
          go_wp2_with fail
          refine hf.mono ?_
          rintro e w1 ⟨rfl, rfl⟩
          clear hf
          go_wp2_with fail
          go_loopw [19] (fun i wr2 => ∃ (p : Nat) (z : Int) (xs2 t2 : List Int), i = .int .i64 z ∧ z = (p : Int) ∧ 8 * sg ≤ p ∧ p ≤ q ∧ RA wr2 (G.boxed (w.heap.size + 1)) n (mid r q p) xs2 t2 L pd T ∧ Only (G.boxed (w.heap.size + 1)).mv W1 wr2) (fun i _ => (intOf i).toNat)
          case atStart => exact ⟨q, _, xs, t, rfl, rfl, q1, Nat.le_refl _, hA0, Only.refl _ _⟩
          case round =>
            obtain ⟨p, z, xs2, t2, rfl, rfl, p1, p2, hA2, hO2⟩ := hrel
            by_cases hp : 8 * sg < p
            · have u2 : decide (8 * (sg : Int) < (p : Int)) = true := by simp; omega
              obtain ⟨p', rfl⟩ : ∃ p', p = p' + 1 := ⟨p - 1, by omega⟩
              have hon := q3 p' (by omega) (by omega)
              have hmv := moveA hA2 p' (p' + 1) (by rw [on_mid hqr (by omega), if_neg (by omega), if_neg (by omega)]; exact hon) (by have := HE.out; omega) (.inr (by rw [on_mid hqr (by omega), if_pos rfl])) (fun j hj => by omega)
              rw [mid_step hqr (by omega) (by omega) hon (by omega) (by omega) (by by_cases e : p' + 1 = q; exact .inl e; exact .inr (q3 _ (by omega) (by omega)))] at hmv
              push_cast at hmv u2
              have n5 : IntKind.i64.wrap (p' : Int) = (p' : Int) := IntWalk.i64_in _ (by have := HE.out; have := HN.out; omega)
              clear hA2 hA0
              rw [show ((p' + 1 : Nat) : Int) = (p' : Int) + 1 by push_cast; rfl]
              go_wp2_with fail
              refine hmv.mono ?_
              rintro e w5 ⟨rfl, ⟨xs5, t5, hA5⟩, hO5⟩
              go_wp2_with fail
              go_round
              case rel => exact ⟨p', _, xs5, t5, rfl, (by first | rfl | omega), by omega, by omega, hA5, hO2.trans hO5⟩
              case measure => (simp [intOf]; try omega)
            · obtain rfl : p = 8 * sg := by omega
              have u2 : decide (8 * (sg : Int) < ((8 * sg : Nat) : Int)) = false := by simp
              have hv : openV r (8 * sg) (8 * sg) = (mid r q (8 * sg), 8 * sg) := by unfold openV; rw [upF_some q1 (by omega) q3 ho]
              push_cast at u2 ⊢
              go_wp2_with fail
              go_ret2
              rw [hv]
              exact ⟨by push_cast; rfl, ⟨xs2, t2, hA2.unboxed⟩, hO2.unboxed' HB1.out (by omega)⟩
        · rw [ho] at hf
          have n5 : IntKind.i64.wrap ((q : Int) + 1) = (q : Int) + 1 := IntWalk.i64_in _ (by have := HE.out; have := HN.out; omega)
          go_wp2_with fail
          refine hf.mono ?_
          rintro e w1 ⟨rfl, rfl⟩
          go_wp2_with fail
          go_round
          case rel => exact ⟨q + 1, _, rfl, by push_cast; rfl, by omega, by omega, fun j a b => by by_cases e : j = q; rw [e]; exact ho; exact q3 j a (by omega), (by first | rfl | trivial)⟩
          case measure => simp [intOf]; omega
      · obtain rfl : q = 8 * sg + 8 := by omega
        have u1 : decide (8 * (sg : Int) + 8 < 8 * (sg : Int) + 8) = false := by simp
        rw [show ((8 * sg + 8 : Nat) : Int) = 8 * (sg : Int) + 8 by omega]
        exfalso
        obtain ⟨j, j1, j2, j3⟩ := HF.out
        rw [q3 j j1 j2] at j3
        cases j3
  · have t1 : ((k : Int) == -1) = false := by simp <;> omega
    have tb2 : decide ((k : Int) < 8 * (sg : Int)) = false := by simp; omega
    have tb3 : decide (8 * (sg : Int) + 8 ≤ (k : Int)) = false := by simp; omega
    have n4 : IntKind.i64.wrap ((k : Int) + 1) = (k : Int) + 1 := IntWalk.i64_in _ (by have := HE.out; have := HN.out; omega)
    have hatk := hat k k3
    clear hat
    have K1 := Lib.hid k1
    have K2 := Lib.hid k2
    clear k1 k2
    go_enter Tryz.func73, Tryz.ntmps73
    go_wp2_with fail
    refine hck.mono ?_
    rintro e w1 ⟨rfl, rfl⟩
    go_wp2_with fail
    refine hatk.mono ?_
    rintro e w1 ⟨rfl, rfl⟩
    go_wp2_with fail
    refine hmo.mono ?_
    rintro e w1 ⟨rfl, rfl⟩
    clear hck hmo hatk
    have k1 := K1.out
    have k2 := K2.out
    go_wp2_with fail
    go_loopw [19] (fun i wr => ∃ (q : Nat) (z : Int), i = .int .i64 z ∧ z = (q : Int) ∧ k + 1 ≤ q ∧ q ≤ 8 * sg + 8 ∧ (∀ j, k + 1 ≤ j → j < q → on r j = true) ∧ W1 = wr) (fun i _ => 8 * sg + 8 - (intOf i).toNat)
    case atStart => exact ⟨k + 1, _, rfl, by push_cast; rfl, Nat.le_refl _, by omega, fun j a b => by omega, rfl⟩
    case round =>
      obtain ⟨q, z, rfl, rfl, q1, q2, q3, hwr⟩ := hrel
      subst hwr
      by_cases hlt : q < 8 * sg + 8
      · have u1 : decide ((q : Int) < 8 * (sg : Int) + 8) = true := by simp; omega
        have hf := hfr (q : Int)
        rw [hasB_nat] at hf
        have hqr : q < r.length := by rw [HLR.out]; have := HE.out; omega
        cases ho : on r q
        · rw [ho] at hf
          have hA0 := HA.out
          rw [← mid_start hqr ho] at hA0
          go_wp2_with fail
          refine hf.mono ?_
          rintro e w1 ⟨rfl, rfl⟩
          clear hf
          go_wp2_with fail
          go_loopw [19] (fun i wr2 => ∃ (p : Nat) (z : Int) (xs2 t2 : List Int), i = .int .i64 z ∧ z = (p : Int) ∧ k + 1 ≤ p ∧ p ≤ q ∧ RA wr2 (G.boxed (w.heap.size + 1)) n (mid r q p) xs2 t2 L pd T ∧ Only (G.boxed (w.heap.size + 1)).mv W1 wr2) (fun i _ => (intOf i).toNat)
          case atStart => exact ⟨q, _, xs, t, rfl, rfl, q1, Nat.le_refl _, hA0, Only.refl _ _⟩
          case round =>
            obtain ⟨p, z, xs2, t2, rfl, rfl, p1, p2, hA2, hO2⟩ := hrel
            by_cases hp : k + 1 < p
            · have u2 : decide ((k : Int) + 1 < (p : Int)) = true := by simp; omega
              obtain ⟨p', rfl⟩ : ∃ p', p = p' + 1 := ⟨p - 1, by omega⟩
              have hon := q3 p' (by omega) (by omega)
              have hmv := moveA hA2 p' (p' + 1) (by rw [on_mid hqr (by omega), if_neg (by omega), if_neg (by omega)]; exact hon) (by have := HE.out; omega) (.inr (by rw [on_mid hqr (by omega), if_pos rfl])) (fun j hj => by omega)
              rw [mid_step hqr (by omega) (by omega) hon (by omega) (by omega) (by by_cases e : p' + 1 = q; exact .inl e; exact .inr (q3 _ (by omega) (by omega)))] at hmv
              push_cast at hmv u2
              have n5 : IntKind.i64.wrap (p' : Int) = (p' : Int) := IntWalk.i64_in _ (by have := HE.out; have := HN.out; omega)
              clear hA2 hA0
              rw [show ((p' + 1 : Nat) : Int) = (p' : Int) + 1 by push_cast; rfl]
              go_wp2_with fail
              refine hmv.mono ?_
              rintro e w5 ⟨rfl, ⟨xs5, t5, hA5⟩, hO5⟩
              go_wp2_with fail
              go_round
              case rel => exact ⟨p', _, xs5, t5, rfl, (by first | rfl | omega), by omega, by omega, hA5, hO2.trans hO5⟩
              case measure => (simp [intOf]; try omega)
            · obtain rfl : p = k + 1 := by omega
              have u2 : decide ((k : Int) + 1 < ((k + 1 : Nat) : Int)) = false := by simp
              have hv : openV r (8 * sg) (k + 1) = (mid r q (k + 1), k + 1) := by unfold openV; rw [upF_some q1 (by omega) q3 ho]
              push_cast at u2 ⊢
              go_wp2_with fail
              go_ret2
              rw [hv]
              exact ⟨by push_cast; rfl, ⟨xs2, t2, hA2.unboxed⟩, hO2.unboxed' HB1.out (by omega)⟩
        · rw [ho] at hf
          have n5 : IntKind.i64.wrap ((q : Int) + 1) = (q : Int) + 1 := IntWalk.i64_in _ (by have := HE.out; have := HN.out; omega)
          go_wp2_with fail
          refine hf.mono ?_
          rintro e w1 ⟨rfl, rfl⟩
          go_wp2_with fail
          go_round
          case rel => exact ⟨q + 1, _, rfl, by push_cast; rfl, by omega, by omega, fun j a b => by by_cases e : j = q; rw [e]; exact ho; exact q3 j a (by omega), (by first | rfl | trivial)⟩
          case measure => simp [intOf]; omega
      · obtain rfl : q = 8 * sg + 8 := by omega
        have u1 : decide (8 * (sg : Int) + 8 < 8 * (sg : Int) + 8) = false := by simp
        rw [show ((8 * sg + 8 : Nat) : Int) = 8 * (sg : Int) + 8 by omega]
        have hkr : k < r.length := by rw [HLR.out]; have := HE.out; omega
        have n6 : IntKind.i64.wrap (k : Int) = (k : Int) := IntWalk.i64_in _ (by have := HE.out; have := HN.out; omega)
        go_wp2_with fail
        go_loopw [21] (fun i wr => ∃ (q : Nat) (z : Int), i = .int .i64 z ∧ z = (q : Int) - 1 ∧ 8 * sg ≤ q ∧ q ≤ k + 1 ∧ (∀ j, q ≤ j → j < k + 1 → on r j = true) ∧ W1 = wr) (fun i _ => (intOf i + 1).toNat)
        case atStart => exact ⟨k + 1, _, rfl, by push_cast; omega, by omega, Nat.le_refl _, fun j a b => by omega, rfl⟩
        case round =>
          obtain ⟨q, z, rfl, rfl, d1, d2, d3, hwr⟩ := hrel
          subst hwr
          by_cases hgt : 8 * sg < q
          · obtain ⟨q', rfl⟩ : ∃ q', q = q' + 1 := ⟨q - 1, by omega⟩
            have eq1 : ((q' + 1 : Nat) : Int) - 1 = (q' : Int) := by omega
            rw [eq1]
            have v1 : decide (8 * (sg : Int) ≤ (q' : Int)) = true := by simp; omega
            have hf := hfr (q' : Int)
            rw [hasB_nat] at hf
            have hqr : q' < r.length := by rw [HLR.out]; have := HE.out; omega
            cases ho : on r q'
            · rw [ho] at hf
              have hA0 := HA.out
              rw [← mid_start hqr ho] at hA0
              have hq'k : q' ≠ k := by rintro rfl; rw [k3] at ho; cases ho
              go_wp2_with fail
              refine hf.mono ?_
              rintro e w1 ⟨rfl, rfl⟩
              clear hf
              go_wp2_with fail
              go_loopw [21] (fun i wr2 => ∃ (p : Nat) (z : Int) (xs2 t2 : List Int), i = .int .i64 z ∧ z = (p : Int) ∧ q' ≤ p ∧ p ≤ k ∧ RA wr2 (G.boxed (w.heap.size + 1)) n (mid r q' p) xs2 t2 L pd T ∧ Only (G.boxed (w.heap.size + 1)).mv W1 wr2) (fun i _ => k - (intOf i).toNat)
              case atStart => exact ⟨q', _, xs, t, rfl, rfl, Nat.le_refl _, by omega, hA0, Only.refl _ _⟩
              case round =>
                obtain ⟨p, z, xs2, t2, rfl, rfl, p1, p2, hA2, hO2⟩ := hrel
                by_cases hp : p < k
                · have u2 : decide ((p : Int) < (k : Int)) = true := by simp; omega
                  have hon := d3 (p + 1) (by omega) (by omega)
                  have hmv := moveA hA2 (p + 1) p (by rw [on_mid hqr (by omega), if_neg (by omega), if_neg (by omega)]; exact hon) (by have := HE.out; omega) (.inr (by rw [on_mid hqr (by omega), if_pos rfl])) (fun j hj => by omega)
                  rw [mid_step hqr (by omega) (by omega) hon (by omega) (by omega) (by by_cases e : p = q'; exact .inl e; exact .inr (d3 _ (by omega) (by omega)))] at hmv
                  push_cast at hmv
                  have n5 : IntKind.i64.wrap ((p : Int) + 1) = (p : Int) + 1 := IntWalk.i64_in _ (by have := HE.out; have := HN.out; omega)
                  clear hA2 hA0
                  go_wp2_with fail
                  refine hmv.mono ?_
                  rintro e w5 ⟨rfl, ⟨xs5, t5, hA5⟩, hO5⟩
                  go_wp2_with fail
                  go_round
                  case rel => exact ⟨p + 1, _, xs5, t5, rfl, by push_cast; rfl, by omega, by omega, hA5, hO2.trans hO5⟩
                  case measure => simp [intOf]; omega
                · obtain rfl : p = k := by omega
                  have u2 : decide ((p : Int) < (p : Int)) = false := by simp
                  have hv : openV r (8 * sg) (p + 1) = (mid r q' p, p) := by
                    unfold openV
                    rw [upF_none (fun j a b => q3 j a (by omega)), dnF_some (j := q') (by omega) (by omega) (fun j a b => d3 j (by omega) (by omega)) ho]
                    rfl
                  go_wp2_with fail
                  go_ret2
                  rw [hv]
                  exact ⟨rfl, ⟨xs2, t2, hA2.unboxed⟩, hO2.unboxed' HB1.out (by omega)⟩
            · rw [ho] at hf
              have n5 : IntKind.i64.wrap ((q' : Int) - 1) = (q' : Int) - 1 := IntWalk.i64_in _ (by have := HE.out; have := HN.out; omega)
              go_wp2_with fail
              refine hf.mono ?_
              rintro e w1 ⟨rfl, rfl⟩
              go_wp2_with fail
              go_round
              case rel => exact ⟨q', _, rfl, rfl, by omega, by omega, fun j a b => by by_cases e : j = q'; rw [e]; exact ho; exact d3 j (by omega) b, (by first | rfl | trivial)⟩
              case measure => (simp [intOf]; try omega)
          · exfalso
            obtain ⟨j, j1, j2, j3⟩ := HF.out
            by_cases e : j < k + 1
            · rw [d3 j (by omega) e] at j3; cases j3
            · rw [q3 j (by omega) j2] at j3; cases j3
end
end Go.Proofs.YtaonkbfekadalaaGreatDoor
/- Answers: what answer comes to. -/
namespace Go.Proofs.YtaonkbfekadalaaGreatDoor
open Go.RowKit
set_option linter.unusedVariables false

section
variable {fn : Func} {p : Tmp} {ty : TypeId} {w : World} {g : Nat} {t : TypeId} {cs : Array Value} {P : Program}
theorem results_c (h : fn.results = #[.cell p ty]) (tmps : Array Value) (hp : tmps.getD p undef = .pointer (some ⟨g, 0, none⟩)) (hg : Blk w g t cs)
    {fs : Array Field} (hu : P.underlying ty = some (.struct fs)) (hi : (P.info? ty).map (·.size) = some cs.size) :
    (results fn tmps).run P w = .ok (.agg cs) w := by
  have hp' : tmps[p]?.getD undef = .pointer (some ⟨g, 0, none⟩) := by simpa using hp
  simp [results, h, hp', asAddr, run_loadVar_row w g t ty cs (0, 0) (.struct fs) hg hu rfl hi]
end
/-- An answer. -/
structure An where
  code : Int
  n : Int
  is : Bool
  a : Int
  b : Int
  c : Int
  d : Int
  A : Option Addr
  len : Nat
  cap : Nat
def An.cs (x : An) : Array Value := #[.int .i64 x.code, .int .i64 x.n, .bool x.is, .int .i64 x.a, .int .i64 x.b, .int .i64 x.c, .int .i64 x.d, .slice x.A x.len x.cap]
def anE (e : Int) : An := ⟨e, 0, false, 0, 0, 0, 0, none, 0, 0⟩
def an0 : An := anE 0
section
variable {w : World} {g : Nat} {t : TypeId} {a b c d e f h i : Value}
theorem Blk.eight (q : Blk w g t #[a, b, c, d, e, f, h, i]) : w.cell? ⟨g, 0, none⟩ = some a ∧ w.cell? ⟨g, 1, none⟩ = some b ∧ w.cell? ⟨g, 2, none⟩ = some c ∧ w.cell? ⟨g, 3, none⟩ = some d ∧ w.cell? ⟨g, 4, none⟩ = some e ∧ w.cell? ⟨g, 5, none⟩ = some f ∧ w.cell? ⟨g, 6, none⟩ = some h ∧ w.cell? ⟨g, 7, none⟩ = some i :=
  ⟨q.cell 0, q.cell 1, q.cell 2, q.cell 3, q.cell 4, q.cell 5, q.cell 6, q.cell 7⟩
theorem Blk.frozen8 (q : Blk w g t #[a, b, c, d, e, f, h, i]) : w.frozen? ⟨g, 0, none⟩ = false ∧ w.frozen? ⟨g, 1, none⟩ = false ∧ w.frozen? ⟨g, 2, none⟩ = false ∧ w.frozen? ⟨g, 3, none⟩ = false ∧ w.frozen? ⟨g, 4, none⟩ = false ∧ w.frozen? ⟨g, 5, none⟩ = false ∧ w.frozen? ⟨g, 6, none⟩ = false ∧ w.frozen? ⟨g, 7, none⟩ = false :=
  ⟨q.frozen 0, q.frozen 1, q.frozen 2, q.frozen 3, q.frozen 4, q.frozen 5, q.frozen 6, q.frozen 7⟩
end
set_option maxRecDepth 100000 in
theorem answer_ok (x : An) (w : World) : Calls Tryz.prog 98 #[.agg x.cs, .int .i64 0] w fun e w' => e = .returned (.agg x.cs) ∧ Below w.heap.size w w' := by
  obtain ⟨c, n, is, s1, s2, s3, s4, A, l, cp⟩ := x
  unfold An.cs
  dsimp only
  go_enter Tryz.func98, Tryz.ntmps98
  go_wp2_with fail
  have b1 := Blk.made (w.alloc (.cells #[.int .i64 c, .int .i64 n, .bool is, .int .i64 s1, .int .i64 s2, .int .i64 s3, .int .i64 s4, .slice A l cp] 33)) 33 #[.int .i64 c, .int .i64 n, .bool is, .int .i64 s1, .int .i64 s2, .int .i64 s3, .int .i64 s4, .slice A l cp]
  simp only [World.size_alloc] at b1
  refine bodyPost_ret (results_c rfl _ rfl b1 Tryz.underlying33 (by kernel_rfl)) rfl ?_
  exact ⟨rfl, ((Below.refl _ w).alloc (Nat.le_refl _) _).alloc (by simp) _⟩
set_option maxRecDepth 100000 in
theorem answer_no (x : An) {e : Int} (he : e ≠ 0) (w : World) : Calls Tryz.prog 98 #[.agg x.cs, .int .i64 e] w fun r w' => r = .returned (.agg (anE e).cs) ∧ Below w.heap.size w w' := by
  obtain ⟨c, n, is, s1, s2, s3, s4, A, l, cp⟩ := x
  unfold anE An.cs
  dsimp only
  have t1 : (e != 0) = true := by simp [he]
  have t2 : (e == 0) = false := by simp [he]
  clear he
  go_enter Tryz.func98, Tryz.ntmps98
  go_wp2_with fail
  have b1 := Blk.made (w.alloc (.cells #[.int .i64 c, .int .i64 n, .bool is, .int .i64 s1, .int .i64 s2, .int .i64 s3, .int .i64 s4, .slice A l cp] 33)) 33 #[.int .i64 e, .int .i64 0, .bool false, .int .i64 0, .int .i64 0, .int .i64 0, .int .i64 0, .slice none 0 0]
  simp only [World.size_alloc] at b1
  refine bodyPost_ret (results_c rfl _ rfl b1 Tryz.underlying33 (by kernel_rfl)) rfl ?_
  exact ⟨rfl, ((Below.refl _ w).alloc (Nat.le_refl _) _).alloc (by simp) _⟩
/-- What an answer comes to behind an error's number. -/
def An.or (x : An) (e : Int) : An := if e = 0 then x else anE e
theorem answer_any (x : An) (e : Int) (w : World) : Calls Tryz.prog 98 #[.agg x.cs, .int .i64 e] w fun r w' => r = .returned (.agg (x.or e).cs) ∧ Below w.heap.size w w' := by
  unfold An.or
  by_cases he : e = 0
  · subst he; rw [if_pos rfl]; exact answer_ok x w
  · rw [if_neg he]; exact answer_no x he w
end Go.Proofs.YtaonkbfekadalaaGreatDoor
