/- Joined texts: Xi, Xj, Xk. -/
import Derived.Shelf.Strings.BuilderK
import Derived.Shelf.Strings.BuilderF
import Derived.Test.YtaonkbfekadalaaGreatDoorM39
import Derived.Test.YtaonkbfekadalaaGreatDoorM40
/- A machine's blocks hold no bytes and no builder: so a builder's writes leave it as it is. -/
namespace Go.Proofs.YtaonkbfekadalaaGreatDoor
open Go.RowKit
set_option linter.unusedVariables false

/-- A block that holds no bytes and is no builder. -/
def NB (w : World) (i : Nat) : Prop := ∀ cs t fz, w.heap[i]? = some (.cells cs t fz) → t ≠ 5 ∧ t ≠ 88
section
variable {w w' : World} {Z : Nat → Prop} {m s h2 : Nat} {b : TB} {r2 : List Bool} {K L t : List Int}
theorem NB.of_blk {g : Nat} {ty : TypeId} {cs : Array Value} (h : Blk w g ty cs) (h1 : ty ≠ 5) (h2 : ty ≠ 88) : NB w g := fun cs' t' fz' e => by
  have := (show w.heap[g]? = _ from h).symm.trans e
  simp only [Option.some.injEq, Obj.cells.injEq] at this
  exact ⟨fun q => h1 (this.2.1.trans q), fun q => h2 (this.2.1.trans q)⟩
theorem NB.of_bi {g : Nat} {xs : List Int} (h : BI w g xs) : NB w g := by
  obtain ⟨cs, hb, _⟩ := h
  exact NB.of_blk hb (by decide) (by decide)
theorem PM.nb {P : PB} {k : Option TB} {h : Nat} {r : List Bool} {xs : List Int} (hp : PM w P k h r xs) {i : Nat} (hi : P.has i) : NB w i := by
  obtain ⟨t, ht⟩ := hp.tm
  obtain ⟨cs, hb, _⟩ := hp.sm.hb.hg
  rcases hi with (rfl | rfl | rfl | rfl) | rfl | rfl | rfl
  · exact NB.of_blk hp.sm.hs (by decide) (by decide)
  · exact NB.of_bi hp.sm.hx
  · exact NB.of_blk hp.sm.hb.hp (by decide) (by decide)
  · exact NB.of_blk hb (by decide) (by decide)
  · exact NB.of_blk hp.pw (by decide) (by decide)
  · exact NB.of_blk ht.hp (by decide) (by decide)
  · exact NB.of_bi ht.hg
theorem MacE.nb (h : MacE Z w m s b h2 r2 K L t) : MacE (fun i => Z i ∧ NB w i) w m s b h2 r2 K L t := by
  obtain ⟨P, h1, r, xs, Q, xs2, e1, e2, e3, e4, e5, e6⟩ := h
  refine ⟨P, h1, r, xs, Q, xs2, e1, e2, e3, e4, e5, fun i hi => ⟨e6 i hi, ?_⟩⟩
  obtain ⟨k1, k2, k3⟩ := e3.rp.tk.1
  rcases hi with (rfl | hi) | ((hi | (rfl | rfl)) | rfl | rfl) | rfl
  · exact NB.of_blk e2.st (by decide) (by decide)
  · exact e2.rp.pm.nb hi
  · exact e3.rp.pm.nb hi
  · exact NB.of_blk k3.hp (by decide) (by decide)
  · obtain ⟨D, ⟨es, clock, q, _⟩, _⟩ := k3.hm
    intro cs ty fz e
    rw [q] at e
    cases e
  · exact NB.of_blk k1 (by decide) (by decide)
  · exact NB.of_blk k2 (by decide) (by decide)
  · exact NB.of_blk e1 (by decide) (by decide)
/-- What a builder's write turns. -/
def WX (B c : Nat) (w : World) (i : Nat) : Prop := B ≤ i ∧ (i = c ∨ ∃ cs fz, w.heap[i]? = some (.cells cs 5 fz))
theorem only_write {B c : Nat} (h1 : Below B w w') (h2 : Lib.OthersKept 5 (some c) w w') : Only (WX B c w) w w' :=
  ⟨h1.os, h1.tape, h1.output, h1.size, fun i hi hx => by
    rcases Nat.lt_or_ge i B with q | q
    · exact h1.block i q
    · have hne : some i ≠ some c := fun e => hx ⟨q, .inl (by injection e)⟩
      rw [Array.getElem?_eq_getElem hi]
      exact h2 i _ (Array.getElem?_eq_getElem hi) hne fun cs fz e => hx ⟨q, .inr ⟨cs, fz, by rw [Array.getElem?_eq_getElem hi, e]⟩⟩⟩
/-- A builder lies as it lay, where none of its blocks turns. -/
theorem builder_only {B c : Nat} {bs : List Value} {X : Nat → Prop} (h : Lib.IsBuilderF 88 5 B c bs w) (ho : Only X w w') (hX : ∀ i, X i → NB w i) : Lib.IsBuilderF 88 5 B c bs w' := by
  have key : ∀ p, Lib.BuilderAtF 88 5 B c p bs w → Lib.BuilderAtF 88 5 B c p bs w' := fun p ⟨hB, v, hb, hown, hne⟩ => by
    have hlt := (Array.getElem?_eq_some_iff.1 hb).1
    refine ⟨hB, v, (ho.block c hlt fun q => (hX c q _ _ _ hb).2 rfl).trans hb, ⟨hown.1, ?_⟩, hne⟩
    rcases hown.2 with q | ⟨g, cap, cur, fz, rfl, q1, q2, q3⟩
    · exact .inl q
    · have hg := (Array.getElem?_eq_some_iff.1 q2).1
      exact .inr ⟨g, cap, cur, fz, rfl, q1, (ho.block g hg fun q => (hX g q _ _ _ q2).1 rfl).trans q2, q3⟩
  exact h.imp (key _) (key _)
theorem write_ok {B c : Nat} {bs : List Value} (s : ByteArray) (w : World) (h : Lib.IsBuilderF 88 5 B c bs w) (hlen : bs.length + s.size ≤ 140737488355328) (hBw : B ≤ w.heap.size) :
    Calls Tryz.prog 37 #[.pointer (some ⟨c, 0, none⟩), .string s] w fun e w' => e = .returned (.tuple #[.int .i64 s.size, .nilIface]) ∧ Lib.IsBuilderF 88 5 B c (bs ++ Lib.strCells s) w' ∧ Only (WX B c w) w w' := by
  refine (Any.Builder_WriteString_k { Tryz.lays156 with } Tryz.Builder_Extra_156 B c bs s w h hlen hBw).mono ?_
  rintro e w' ⟨rfl, h1, h2, h3⟩
  exact ⟨rfl, .inr h1, only_write h2 h3⟩
theorem string_ok {B c : Nat} {l : List UInt8} (w : World) (h : Lib.IsBuilderF 88 5 B c (Lib.byteCells l) w) (hBw : B ≤ w.heap.size) :
    Calls Tryz.prog 39 #[.pointer (some ⟨c, 0, none⟩)] w fun e w' => e = .returned (.string ⟨l.toArray⟩) ∧ Below B w w' := by
  refine (Any.Builder_String_any_f Tryz.lays169 Tryz.Builder_Extra_169 B c l w h hBw).mono ?_
  rintro e w' ⟨rfl, h1, h2⟩
  exact ⟨rfl, h2⟩
end
end Go.Proofs.YtaonkbfekadalaaGreatDoor
/- The example's commands, played one after the other on a new machine. -/
namespace Go.Proofs.YtaonkbfekadalaaGreatDoor
open Go.RowKit
set_option linter.unusedVariables false

theorem NewE_ok (w : World) (hT : Tab w) : Calls Tryz.prog 5 #[] w fun e w' => (∃ m s b, e = .returned (.pointer (some ⟨m, 0, none⟩)) ∧ MacE (fun i => w.heap.size ≤ i) w' m s b 2 (offs 32) [] [] []) ∧ Below w.heap.size w w' := by
  have h1 := SNewS_ok w hT
  go_enter Tryz.func5, Tryz.ntmps5
  go_wp2_with fail
  refine h1.mono ?_
  rintro e w1 ⟨s, P, rfl, q1, q2, hB1⟩
  have h2 := LNew_ok w1 (hT.below hB1)
  have HQ := Lib.hid (And.intro q1 q2)
  clear q1 q2
  go_wp2_with fail
  refine h2.mono ?_
  rintro e w2 ⟨b, Q, rfl, q3, q4, hB2⟩
  have HR := Lib.hid (And.intro q3 q4)
  clear q3 q4
  go_wp2_with fail
  go_ret
  obtain ⟨q1, q2⟩ := HQ.out
  obtain ⟨q3, q4⟩ := HR.out
  have q1' := q1.below hB2
  have hb := Blk.made w2 58 #[.pointer (some ⟨s, 0, none⟩), .pointer (some ⟨b.lb, 0, none⟩)]
  have hBa : Below w2.heap.size w2 (w2.alloc (.cells #[.pointer (some ⟨s, 0, none⟩), .pointer (some ⟨b.lb, 0, none⟩)] 58)) := (Below.refl _ _).alloc (Nat.le_refl _) _
  have s1 := hB1.size
  have s2 := hB2.size
  refine ⟨⟨w2.heap.size, s, b, rfl, P, 2, _, _, Q, _, hb, q1'.below hBa, q3.below hBa, ?_, ?_, ?_⟩, (hB1.trans (hB2.mono s1)).alloc (by omega) _⟩
  · intro i hi hj
    have := setB'.lt q1 hi
    have := q4 i hj
    omega
  · rintro i (hi | hi)
    · have := setB'.lt q1 hi; omega
    · have := q3.lt hi; omega
  · rintro i (hi | hi | rfl)
    · exact q2 i hi
    · have := q4 i hi; omega
    · omega
section
variable {w : World} {Z : Nat → Prop} {m s h2 : Nat} {b : TB} {r2 : List Bool} {K L t : List Int} {B1 : Nat}
/-- What Do comes to at first. -/
theorem Do_first (hM : MacE Z w m s b h2 r2 K L t) (hZ : ∀ i, Z i → B1 ≤ i ∧ NB w i) (h3 : 2 < B1) (hB1 : B1 ≤ w.heap.size) (hT : Tab10 w) (hN : L.length < 2560) (hTl : t.length < 1000000) {p1 p2 p3 p4 : Int} (hst : pickV (csV (insB r2 0 0) 0 (2 ^ h2)) 0 h2 = (p1, p2, p3, p4)) :
    Calls Tryz.prog 6 #[.pointer (some ⟨m, 0, none⟩), cmdV (wordK 7) 0 0] w fun e w' => e = .returned (.agg (An.mk 0 ((t.length : Int) + 1) false p1 p2 p3 p4 none 0 0).cs) ∧
      (∃ Z' t', t'.length = t.length + 1 ∧ MacE Z' w' m s b (stepB (insB r2 0 0) 0 h2).2 (stepB (insB r2 0 0) 0 h2).1 K (((t.length : Int) + 1) :: L) t' ∧ (∀ i, Z' i → B1 ≤ i ∧ NB w' i)) ∧ Only Z w w' := by
  have hM' : MacE (fun i => Z i ∧ i < w.heap.size) w m s b h2 r2 K L t := hM.mono fun i q1 q2 => ⟨q2, q1⟩
  have hw2 : 2 < w.heap.size := by omega
  refine (Do_word (k := 7) (Zc := fun i => Z i ∧ i < w.heap.size) (R := fun x W w1 => x = An.mk 0 ((t.length : Int) + 1) false p1 p2 p3 p4 none 0 0 ∧
    ∃ h2' r2' t', stepB (insB r2 0 0) 0 h2 = (r2', h2') ∧ t'.length = t.length + 1 ∧ MacE (ZA (fun i => Z i ∧ i < w.heap.size) W) w1 m s b h2' r2' K (((t.length : Int) + 1) :: L) t')
    ⟨by decide, rfl, fun _ => rfl, fun _ => rfl⟩ (by decide) inH0 inH0 hT (by omega) (fun i q => q.2) (fun W hB hsz => ?_)).mono ?_
  · refine (mFirst (hM'.below hB) (fun i q => by have := (hZ i q.1).1; omega) _ hN hTl hst).mono ?_
    rintro e w1 ⟨⟨rfl, q⟩, hO⟩
    exact ⟨⟨_, rfl, rfl, q⟩, hO⟩
  · rintro e w' ⟨x, W, w1, rfl, ⟨rfl, h2', r2', t', q1, q2, q3⟩, hB, hsz, hO1, hO2⟩
    have hO : Only Z w w' := ((Only.of_below (X := Z) hB).trans' hO1 (fun i hi q => q.1)).trans' hO2 (fun i hi q => by omega)
    have q4 := (q3.only hO2 (fun i hi q => by
      rcases hi with hi | hi
      · have := hi.1.2; omega
      · omega) (fun i q => by omega)).nb
    refine ⟨rfl, ⟨fun i => ZA (fun i => Z i ∧ i < w.heap.size) W i ∧ NB w' i, t', q2, by rw [q1]; exact q4, fun i hi => ⟨?_, hi.2⟩⟩, hO⟩
    rcases hi.1 with q | q
    · exact (hZ i q.1.1).1
    · omega
/-- A machine's blocks are none that a builder's write turns. -/
theorem nb_wx {B c : Nat} {bs : List Value} (h : Lib.IsBuilderF 88 5 B c bs w) {i : Nat} (hi : NB w i) : ¬ WX B c w i := by
  rintro ⟨_, rfl | ⟨cs, fz, e⟩⟩
  · rcases h with ⟨_, v, q, _⟩ | ⟨_, v, q, _⟩
    · exact (hi _ _ _ q).2 rfl
    · exact (hi _ _ _ q).2 rfl
  · exact (hi _ _ _ e).1 rfl
end
theorem bef_two {t : List Int} (h : DF t [2, 1]) : befV t 2 1 = (true, 0) := by
  have h1 := (h.at_ 0 (by decide)).1
  have h2 := (h.at_ 1 (by decide)).1
  have h3 := h.ri 0 1 (by decide) (by decide)
  have e1 : nth ([2, 1] : List Int) 0 = 2 := rfl
  have e2 : nth ([2, 1] : List Int) 1 = 1 := rfl
  rw [e1] at h1 h3
  rw [e2] at h2 h3
  unfold befV
  rw [if_pos h1, if_pos h2]
  simp [h3]
def Lk : Nat → List Int
  | 0 => []
  | k + 1 => ((k : Int) + 1) :: Lk k
/-- The machine when k commands are done. -/
def PS (B1 m : Nat) (k : Nat) (W : World) : Prop := k ≤ 2 → ∃ (s : Nat) (b : TB) (Z : Nat → Prop) (t : List Int), MacE Z W m s b (insF k).2 (insF k).1 [] (Lk k) t ∧ t.length = k ∧ ∀ i, Z i → B1 ≤ i ∧ NB W i
theorem pick_k : ∀ k : Fin 2, pickV (csV (insB (insF k).1 0 0) 0 (2 ^ (insF k).2)) 0 (insF k).2 = (1, 0, 1, 32) := by decide +kernel
theorem Lk_len : ∀ k, (Lk k).length = k
  | 0 => rfl
  | k + 1 => by simp [Lk, Lk_len k]
/-- What the k-th command is told. -/
def anK (k : Nat) : An := if k < 2 then An.mk 0 ((k : Int) + 1) false 1 0 1 32 none 0 0 else An.mk 0 0 true 0 0 0 0 none 0 0
def wK (k : Nat) : ByteArray := if k < 2 then wF else wB
def aK (k : Nat) : Int := if k < 2 then 0 else 2
def bK (k : Nat) : Int := if k < 2 then 0 else 1
theorem Do_k {w : World} {B1 m k : Nat} (hk : k < 3) (hP : PS B1 m k w) (h3 : 2 < B1) (hB1 : B1 ≤ w.heap.size) (hT : Tab10 w) :
    Calls Tryz.prog 6 #[.pointer (some ⟨m, 0, none⟩), .agg #[.string (wK k), .int .i64 (aK k), .int .i64 (bK k)]] w fun e w' => e = .returned (.agg (anK k).cs) ∧ PS B1 m (k + 1) w' ∧ Only (fun i => B1 ≤ i ∧ NB w i) w w' := by
  obtain ⟨s, b, Z, t, hM, ht, hZ⟩ := hP (by omega)
  by_cases h2 : k < 2
  · rw [show wK k = wordK 7 from (if_pos h2).trans rfl, show aK k = 0 from if_pos h2, show bK k = 0 from if_pos h2]
    refine (Do_first (p1 := 1) (p2 := 0) (p3 := 1) (p4 := 32) hM hZ h3 hB1 hT (by rw [Lk_len]; omega) (by omega) (pick_k ⟨k, h2⟩)).mono ?_
    rintro e w' ⟨rfl, ⟨Z', t', q1, q2, q3⟩, hO⟩
    refine ⟨by rw [show anK k = _ from if_pos h2, ht], fun _ => ⟨s, b, Z', t', by rw [ht] at q2; exact q2, by omega, q3⟩, hO.mono (fun i _ hi => hZ i hi)⟩
  · obtain rfl : k = 2 := by omega
    refine (Do_before hM.mac (A := 2) (B := 1) (by unfold inH; omega) (by unfold inH; omega) hT).mono ?_
    rintro e w' ⟨rfl, hB⟩
    rw [bef_two (show DF t [2, 1] from hM.mac.df)]
    exact ⟨rfl, fun q => by omega, Only.of_below hB⟩
end Go.Proofs.YtaonkbfekadalaaGreatDoor
/- The example's text, played: what Play comes to. -/
namespace Go.Proofs.YtaonkbfekadalaaGreatDoor
open Go.RowKit
set_option linter.unusedVariables false

/-- The line of the k-th answer. -/
def txK (k : Nat) : ByteArray := if k < 2 then textV ((k : Int) + 1) (ynB false) 1 0 1 32 else textV 0 (ynB true) 0 0 0 0
theorem tx_len : ∀ k : Fin 2, (Lib.join ((strsV ((k : Nat) + 1 : Int) (ynB false) 1 0 1 32).map (·.data.toList)) [32]).length ≤ 140737488355328 := by decide +kernel
theorem tx_len2 : (Lib.join ((strsV 0 (ynB true) 0 0 0 0).map (·.data.toList)) [32]).length ≤ 140737488355328 := by decide +kernel
theorem tx_size : ∀ k : Fin 3, (txK k).size ≤ 40 := by decide +kernel
/-- What has been told, when k commands are done. -/
def outK : Nat → List UInt8
  | 0 => []
  | k + 1 => outK k ++ (txK k ++ ⟨#[10]⟩ : ByteArray).data.toList
def outB : ByteArray := ⟨#[111, 107, 32, 49, 32, 110, 111, 32, 49, 32, 48, 32, 49, 32, 51, 50, 10, 111, 107, 32, 50, 32, 110, 111, 32, 49, 32, 48, 32, 49, 32, 51, 50, 10, 111, 107, 32, 48, 32, 121, 101, 115, 32, 48, 32, 48, 32, 48, 32, 48, 10]⟩
theorem out_all : (⟨(outK 3).toArray⟩ : ByteArray) = outB := by decide +kernel
theorem out_len : ∀ k : Fin 4, (outK k).length ≤ 200 := by decide +kernel
section
variable {w : World}
theorem Text_k {k : Nat} (hk : k < 3) (hT : Tab10 w) (h1 : 1 < w.heap.size) : Calls Tryz.prog 38 #[.agg (anK k).cs] w fun e w' => e = .returned (.string (txK k)) ∧ Below w.heap.size w w' := by
  by_cases h2 : k < 2
  · rw [show anK k = _ from if_pos h2, show txK k = _ from if_pos h2]
    exact Text_ok (n := (k : Int) + 1) (a := 1) (b := 0) (c := 1) (d := 32) (is := false) rfl (by unfold inH; omega) (by unfold inH; omega) (by unfold inH; omega) (by unfold inH; omega) (by unfold inH; omega) hT h1 (tx_len ⟨k, h2⟩)
  · rw [show anK k = _ from if_neg h2, show txK k = _ from if_neg h2]
    exact Text_ok (n := 0) (a := 0) (b := 0) (c := 0) (d := 0) (is := true) rfl (by unfold inH; omega) (by unfold inH; omega) (by unfold inH; omega) (by unfold inH; omega) (by unfold inH; omega) hT h1 tx_len2
theorem cells_at {k : Nat} (hk : k < 3) : cells9[k * 3]? = some (.string (wK k)) ∧ cells9[k * 3 + 1]? = some (.int .i64 (aK k)) ∧ cells9[k * 3 + 2]? = some (.int .i64 (bK k)) := by
  rcases (by omega : k = 0 ∨ k = 1 ∨ k = 2) with rfl | rfl | rfl <;> exact ⟨rfl, rfl, rfl⟩
theorem PS.only {X : Nat → Prop} {B1 m k : Nat} {W W' : World} (h : PS B1 m k W) (ho : Only X W W') (h1 : ∀ i, B1 ≤ i → NB W i → ¬ X i) (h2 : ∀ i, X i → i ≠ 2) : PS B1 m k W' := fun hk => by
  obtain ⟨s, b, Z, t, hM, ht, hZ⟩ := h hk
  exact ⟨s, b, _, t, (hM.only ho (fun i hi => h1 i (hZ i hi).1 (hZ i hi).2) h2).nb, ht, fun i hi => ⟨(hZ i hi.1).1, hi.2⟩⟩
theorem PS.below {B1 m k : Nat} {W W' : World} (h : PS B1 m k W) (hb : Below W.heap.size W W') : PS B1 m k W' := h.only (Only.of_below (X := fun _ => False) hb) (fun _ _ _ => id) (fun _ q => q.elim)
theorem out_next (k : Nat) : Lib.byteCells (outK k) ++ Lib.strCells (txK k ++ ⟨#[10]⟩) = Lib.byteCells (outK (k + 1)) := by
  rw [Lib.strCells_eq, ← Lib.byteCells_append]
  rfl
set_option maxRecDepth 100000 in
set_option maxHeartbeats 8000000 in
theorem Play_ok (hG : GW w) : Calls Tryz.prog 14 #[.string txA] w fun e w' => e = .returned (.tuple #[.string outB, .int .i64 0, .int .i64 0]) ∧ Below w.heap.size w w' := by
  obtain ⟨mm, hm⟩ := hG.t0
  have hp := Parse_ok hm
  have hw2 := hG.t2.pos
  have HG := Lib.hid hG
  clear hG hm
  go_enter Tryz.func14, Tryz.ntmps14
  go_wp2_with fail
  refine hp.mono ?_
  rintro e w1 ⟨⟨v, rfl, hrow⟩, hB1⟩
  obtain ⟨g, cap, rfl⟩ := ownsRow_succ hrow
  have hs1 := hB1.size
  have hn := NewE_ok w1 ((HG.out.below hB1 (Nat.le_refl _)).t2)
  clear hp
  go_wp2_with fail
  refine hn.mono ?_
  rintro e w2 ⟨⟨m, s, b, rfl, hM⟩, hB2⟩
  have hs2 := hB2.size
  have hBa : Below w2.heap.size w2 (w2.alloc (.cells #[.pointer none, .slice none 0 0] 88)) := (Below.refl _ w2).alloc (Nat.le_refl _) _
  have hI0 : Lib.IsBuilderF 88 5 w2.heap.size w2.heap.size (Lib.byteCells (outK 0)) (w2.alloc (.cells #[.pointer none, .slice none 0 0] 88)) := Lib.IsBuilderF.of (Lib.fresh_isBuilder 88 5 w2)
  have hP0 : PS w1.heap.size m 0 (w2.alloc (.cells #[.pointer none, .slice none 0 0] 88)) := fun _ => ⟨s, b, _, [], (hM.below hBa).nb, rfl, fun i hi => hi⟩
  have hBb : Below w1.heap.size w1 (w2.alloc (.cells #[.pointer none, .slice none 0 0] 88)) := hB2.alloc hs2 _
  have hza : (w2.alloc (.cells #[.pointer none, .slice none 0 0] 88)).heap.size = w2.heap.size + 1 := by simp
  have H0 := Lib.hid (And.intro hI0 (And.intro hP0 (And.intro hBb hza)))
  clear hM hI0 hP0 hBb hBa hza hn
  go_wp2_with fail
  go_loopw [25] (fun i wr => ∃ k : Nat, k ≤ 3 ∧ i = .int .i64 k ∧ PS w1.heap.size m k wr ∧ Lib.IsBuilderF 88 5 w2.heap.size w2.heap.size (Lib.byteCells (outK k)) wr ∧ Below w1.heap.size w1 wr ∧ w2.heap.size + 1 ≤ wr.heap.size) (fun i _ => 3 - (intOf i).toNat)
  case atStart => exact ⟨0, by omega, rfl, H0.out.2.1, H0.out.1, H0.out.2.2.1, by rw [H0.out.2.2.2]; omega⟩
  case round =>
    obtain ⟨k, hk, rfl, hP, hI, hB, hz⟩ := hrel
    clear H0
    by_cases hlt : k < 3
    · have k0 : (0 : Int) ≤ (k : Int) := by omega
      have k1 : (k : Int) < 3 := by omega
      have k2 : IntKind.i64.wrap ((k : Int) + 1) = (k : Int) + 1 := IntWalk.i64_in _ (by omega)
      obtain ⟨x0, x1, x2⟩ := cells_at hlt
      have hg := hrow.lt g rfl
      have hc : ∀ j, j < 9 → wr.cell? ⟨g, j, none⟩ = cells9[j]? := fun j hj => by
        rw [← World.ownsRow.cellAt hrow j (by omega)]
        exact World.cell?_of_block (hB.block g hg.2)
      have c0 := (hc (k * 3) (by omega)).trans x0
      have c1 := (hc (k * 3 + 1) (by omega)).trans x1
      have c2 := (hc (k * 3 + 2) (by omega)).trans x2
      clear hc x0 x1 x2
      have b9 := Blk.made wr 24 #[.string (wK k), .int .i64 (aK k), .int .i64 (bK k)]
      have r0 := b9.cell 0
      have r1 := b9.cell 1
      have r2 := b9.cell 2
      have hBd : Below wr.heap.size wr (wr.alloc (.cells #[.string (wK k), .int .i64 (aK k), .int .i64 (bK k)] 24)) := (Below.refl _ wr).alloc (Nat.le_refl _) _
      have hsd := hBd.size
      have hBw : Below w.heap.size w (wr.alloc (.cells #[.string (wK k), .int .i64 (aK k), .int .i64 (bK k)] 24)) := (hB1.trans (hB.mono hs1)).trans (hBd.mono (by omega))
      have hdo := Do_k hlt (hP.below hBd) (by omega) (by omega) (HG.out.t1.below hBw (by omega))
      have HI := Lib.hid (builder_only hI (Only.of_below (X := fun _ => False) hBd) (fun _ q => q.elim))
      have HD := Lib.hid (And.intro hB hBd)
      have HT := Lib.hid hlt
      clear hP hI hB b9 hlt
      unfold An.cs at hdo
      go_wp2_with fail
      refine hdo.mono ?_
      rintro e w5 ⟨rfl, hP5, hO5⟩
      have hk3 := HT.out
      have hB5 : Below w1.heap.size w1 w5 := Only.below (HD.out.1.trans (HD.out.2.mono HD.out.1.size)) hO5 (by omega) (fun i q => q.1)
      have hI5 := builder_only HI.out hO5 (fun i q => q.2)
      have hs5 := hO5.size
      have htx := Text_k hk3 (HG.out.t1.below (hB1.trans (hB5.mono hs1)) (by omega)) (by omega : 1 < w5.heap.size)
      have hsz : (txK k).size ≤ 40 := tx_size ⟨k, hk3⟩
      unfold An.cs at htx
      have H5 := Lib.hid (And.intro hP5 (And.intro hI5 hB5))
      clear hP5 hI5 hB5 hO5 hdo
      go_wp2_with fail
      refine htx.mono ?_
      rintro e w6 ⟨rfl, hB6⟩
      have hs6 := hB6.size
      have hwr := write_ok (txK k ++ ⟨#[10]⟩) w6 (builder_only H5.out.2.1 (Only.of_below (X := fun _ => False) hB6) (fun _ q => q.elim)) (by
        have q1 : (outK k).length ≤ 200 := out_len ⟨k, by omega⟩
        have q2 := ba_append_size (txK k) ⟨#[10]⟩
        have q3 : (⟨#[10]⟩ : ByteArray).size = 1 := rfl
        rw [Lib.byteCells_length]; omega) (by omega)
      rw [out_next] at hwr
      have H6 := Lib.hid hB6
      clear hB6 htx
      go_wp2_with fail
      refine hwr.mono ?_
      rintro e w7 ⟨rfl, hI7, hO7⟩
      have hP6 := H5.out.1.below H6.out
      have hI6 := builder_only H5.out.2.1 (Only.of_below (X := fun _ => False) H6.out) (fun _ q => q.elim)
      have hP7 := hP6.only hO7 (fun i q1 q2 => nb_wx hI6 q2) (fun i q => by have := q.1; omega)
      have hB7 : Below w1.heap.size w1 w7 := Only.below (H5.out.2.2.trans (H6.out.mono H5.out.2.2.size)) hO7 (by omega) (fun i q => by have := q.1; omega)
      have hs7 := hO7.size
      have H7 := Lib.hid (And.intro hP7 (And.intro hI7 hB7))
      clear hP6 hI6 hP7 hI7 hB7 hO7 hwr
      go_wp2_with fail
      go_roundw
      case rel => exact ⟨k + 1, by omega, by go_num, H7.out.1, H7.out.2.1, H7.out.2.2, by omega⟩
      case measure => simp [intOf]; omega
    · obtain rfl : k = 3 := by omega
      have hst := string_ok wr hI (by omega)
      rw [out_all] at hst
      clear hI hP
      go_wp2_with fail
      refine hst.mono ?_
      rintro e w3 ⟨rfl, hB3⟩
      go_wp2_with fail
      go_ret3
      exact ⟨rfl, (hB1.trans (hB.mono hs1)).trans (hB3.mono (by omega))⟩
end
end Go.Proofs.YtaonkbfekadalaaGreatDoor
