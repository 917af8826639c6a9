/- Joined texts: Mf, Na, Nb. -/
import Derived.Test.YtaonkbfekadalaaGreatDoorM34
/- What changes of the set, and of the list, make of a machine. -/
namespace Go.Proofs.YtaonkbfekadalaaGreatDoor
open Go.RowKit
set_option linter.unusedVariables false

section
variable {w w' W w1 : World} {Z : Nat → Prop} {m s h2 B : Nat} {b : TB} {r2 : List Bool} {K L t : List Int}
/-- A machine with its parts named: the set's block, the list's, the list's slots. -/
def MacE (Z : Nat → Prop) (w : World) (m s : Nat) (b : TB) (h2 : Nat) (r2 : List Bool) (K L t : List Int) : Prop :=
  ∃ (P : PB) (h : Nat) (r : List Bool) (xs : List Int) (Q : PB) (xs2 : List Int),
    Blk w m 58 #[.pointer (some ⟨s, 0, none⟩), .pointer (some ⟨b.lb, 0, none⟩)] ∧ SetM w s P h r xs K ∧ LisM w b Q h2 r2 xs2 t L ∧
    (∀ i, setB' s P i → ¬ lisB b Q i) ∧ (∀ i, setB' s P i ∨ lisB b Q i → i ≠ m) ∧ (∀ i, setB' s P i ∨ lisB b Q i ∨ i = m → Z i)
theorem MacE.mac (h : MacE Z w m s b h2 r2 K L t) : MacM Z w m K L t := by
  obtain ⟨P, h1, r, xs, Q, xs2, e⟩ := h
  exact ⟨s, P, h1, r, xs, b, Q, h2, r2, xs2, e⟩
theorem MacM.e (h : MacM Z w m K L t) : ∃ s b h2 r2, MacE Z w m s b h2 r2 K L t := by
  obtain ⟨s, P, h1, r, xs, b, Q, h2, r2, xs2, e⟩ := h
  exact ⟨s, b, h2, r2, P, h1, r, xs, Q, xs2, e⟩
theorem MacE.only {X : Nat → Prop} (h : MacE Z w m s b h2 r2 K L t) (ho : Only X w w') (hX : ∀ i, Z i → ¬ X i) (hn2 : ∀ i, X i → i ≠ 2) : MacE Z w' m s b h2 r2 K L t := by
  obtain ⟨P, h1, r, xs, Q, xs2, e1, e2, e3, e4, e5, e6⟩ := h
  exact ⟨P, h1, r, xs, Q, xs2, e1.only ho (hX _ (e6 _ (.inr (.inr rfl)))), e2.only ho (hX _ (e6 _ (.inl (.inl rfl)))) (fun i hi => hX _ (e6 _ (.inl (.inr hi)))) hn2,
    e3.only ho (fun i hi => hX _ (e6 _ (.inr (.inl hi)))) hn2, e4, e5, e6⟩
theorem MacE.mono {Y : Nat → Prop} (h : MacE Z w m s b h2 r2 K L t) (hY : ∀ i, i < w.heap.size → Z i → Y i) : MacE Y w m s b h2 r2 K L t := by
  obtain ⟨P, h1, r, xs, Q, xs2, e1, e2, e3, e4, e5, e6⟩ := h
  refine ⟨P, h1, r, xs, Q, xs2, e1, e2, e3, e4, e5, fun i hi => hY i ?_ (e6 i hi)⟩
  rcases hi with q | q | rfl
  · exact setB'.lt e2 q
  · exact e3.lt q
  · exact e1.lt
theorem MacE.below (h : MacE Z w m s b h2 r2 K L t) (hb : Below w.heap.size w w') : MacE Z w' m s b h2 r2 K L t := h.only (Only.of_below (X := fun _ => False) hb) (fun _ _ => id) (fun _ q => q.elim)
theorem MacE.blk (h : MacE Z w m s b h2 r2 K L t) : Blk w m 58 #[.pointer (some ⟨s, 0, none⟩), .pointer (some ⟨b.lb, 0, none⟩)] := by
  obtain ⟨P, h1, r, xs, Q, xs2, e1, _⟩ := h
  exact e1
/-- The blocks of a machine behind a change: those of before, and new ones. -/
def ZA (Z : Nat → Prop) (W : World) (i : Nat) : Prop := (Z i ∧ i < W.heap.size) ∨ W.heap.size ≤ i
theorem cSet {P P' : PB} {h h' : Nat} {r r' : List Bool} {xs xs' K' : List Int} {Q : PB} {xs2 : List Int} (hZ : ∀ i, Z i → i ≠ 2) (e1 : Blk w m 58 #[.pointer (some ⟨s, 0, none⟩), .pointer (some ⟨b.lb, 0, none⟩)]) (e2 : SetM w s P h r xs K) (e3 : LisM w b Q h2 r2 xs2 t L)
    (e4 : ∀ i, setB' s P i → ¬ lisB b Q i) (e5 : ∀ i, setB' s P i ∨ lisB b Q i → i ≠ m) (e6 : ∀ i, setB' s P i ∨ lisB b Q i ∨ i = m → Z i)
    (f2 : SetM w' s P' h' r' xs' K') (hf : ∀ i, P'.has i → P.has i ∨ w.heap.size ≤ i) (ho : Only P.has w w') : MacE (ZA Z w) w' m s b h2 r2 K' L t := by
  have hm := e1.lt
  have hs := ho.size
  have g3 : LisM w' b Q h2 r2 xs2 t L := e3.only ho (fun i a c => e4 i (.inr c) a) (fun i c => hZ i (e6 i (.inl (.inr c))))
  refine ⟨P', h', r', xs', Q, xs2, e1.only ho (fun c => e5 _ (.inl (.inr c)) rfl), f2, g3, ?_, ?_, ?_⟩
  · rintro i (rfl | hi) a
    · exact e4 _ (.inl rfl) a
    · rcases hf i hi with q | q
      · exact e4 _ (.inr q) a
      · have := e3.lt a; omega
  · rintro i ((rfl | hi) | hi)
    · exact e5 _ (.inl (.inl rfl))
    · rcases hf i hi with q | q
      · exact e5 _ (.inl (.inr q))
      · omega
    · exact e5 _ (.inr hi)
  · rintro i ((rfl | hi) | hi | rfl)
    · exact .inl ⟨e6 _ (.inl (.inl rfl)), e2.st.lt⟩
    · rcases hf i hi with q | q
      · exact .inl ⟨e6 _ (.inl (.inr q)), e2.rp.pm.lt q⟩
      · exact .inr q
    · exact .inl ⟨e6 _ (.inr (.inl hi)), e3.lt hi⟩
    · exact .inl ⟨e6 _ (.inr (.inr rfl)), hm⟩
theorem cLis {P : PB} {h h2' : Nat} {r r2' : List Bool} {xs xs2 xs2' L' t' : List Int} {Q Q' : PB} (hZ : ∀ i, Z i → i ≠ 2) (e1 : Blk w m 58 #[.pointer (some ⟨s, 0, none⟩), .pointer (some ⟨b.lb, 0, none⟩)]) (e2 : SetM w s P h r xs K) (e3 : LisM w b Q h2 r2 xs2 t L)
    (e4 : ∀ i, setB' s P i → ¬ lisB b Q i) (e5 : ∀ i, setB' s P i ∨ lisB b Q i → i ≠ m) (e6 : ∀ i, setB' s P i ∨ lisB b Q i ∨ i = m → Z i)
    (f3 : LisM w' b Q' h2' r2' xs2' t' L') (hf : ∀ i, Q'.has i → Q.has i ∨ w.heap.size ≤ i) (ho : Only (Q.mv (some b)) w w') : MacE (ZA Z w) w' m s b h2' r2' K L' t' := by
  have hm := e1.lt
  have hs := ho.size
  have g2 : SetM w' s P h r xs K := e2.only ho (fun c => e4 _ (.inl rfl) (.inl c)) (fun i a c => e4 i (.inr a) (.inl c)) (fun i c => hZ i (e6 i (.inr (.inl (.inl c)))))
  have hl : ∀ i, lisB b Q' i → lisB b Q i ∨ w.heap.size ≤ i := by
    rintro i ((hi | hi) | hi | hi)
    · exact (hf i hi).imp (fun q => .inl (.inl q)) id
    · exact .inl (.inl (.inr hi))
    · exact .inl (.inr (.inl hi))
    · exact .inl (.inr (.inr hi))
  refine ⟨P, h, r, xs, Q', xs2', e1.only ho (fun c => e5 _ (.inr (.inl c)) rfl), g2, f3, ?_, ?_, ?_⟩
  · intro i hi a
    rcases hl i a with q | q
    · exact e4 _ hi q
    · have := setB'.lt e2 hi; omega
  · rintro i (hi | hi)
    · exact e5 _ (.inl hi)
    · rcases hl i hi with q | q
      · exact e5 _ (.inr q)
      · omega
  · rintro i (hi | hi | rfl)
    · exact .inl ⟨e6 _ (.inl hi), setB'.lt e2 hi⟩
    · rcases hl i hi with q | q
      · exact .inl ⟨e6 _ (.inr (.inl q)), e3.lt q⟩
      · exact .inr q
    · exact .inl ⟨e6 _ (.inr (.inr rfl)), hm⟩
theorem cInsert (hE : MacE Z w m s b h2 r2 K L t) (hZ : ∀ i, Z i → i ≠ 2) (hN : K.length < 2560) {A : Int} (hA : inH A) :
    Calls Tryz.prog 9 #[.pointer (some ⟨s, 0, none⟩), .int .i64 A] w fun e w' => (∃ p1 p2 p3 p4 v, e = .returned (.tuple #[.agg #[.int .i64 p1, .int .i64 p2, .int .i64 p3, .int .i64 p4], .int .i64 v]) ∧ v ≠ 16 ∧ ∃ K', K'.length ≤ K.length + 1 ∧ MacE (ZA Z w) w' m s b h2 r2 K' L t) ∧ Only Z w w' := by
  obtain ⟨P, h, r, xs, Q, xs2, e1, e2, e3, e4, e5, e6⟩ := hE
  refine (SInsert_any e2 hN hA).mono ?_
  rintro e w' ⟨⟨P', h', r', xs', L', code, a, b, c, d, rfl, hs, hf, hp⟩, hO⟩
  refine ⟨⟨a, b, c, d, code, rfl, ?_, L', ?_, cSet hZ e1 e2 e3 e4 e5 e6 hs hf hO⟩, hO.mono fun i _ q => e6 i (.inl (.inr q))⟩
  · rcases hp with ⟨q, _⟩ | ⟨q, _⟩ <;> omega
  · rcases hp with ⟨_, _, _, rfl, _⟩ | ⟨_, _, a, sg, nx, _, _, _, rfl, q⟩ <;> omega
theorem cDrop (hE : MacE Z w m s b h2 r2 K L t) (hZ : ∀ i, Z i → i ≠ 2) (hN : K.length ≤ 2560) {A : Int} :
    Calls Tryz.prog 99 #[.pointer (some ⟨s, 0, none⟩), .int .i64 A] w fun e w' => (∃ p1 p2 p3 p4 v, e = .returned (.tuple #[.agg #[.int .i64 p1, .int .i64 p2, .int .i64 p3, .int .i64 p4], .int .i64 v]) ∧ v ≠ 16 ∧ ∃ K', K'.length ≤ K.length + 1 ∧ MacE (ZA Z w) w' m s b h2 r2 K' L t) ∧ Only Z w w' := by
  obtain ⟨P, h, r, xs, Q, xs2, e1, e2, e3, e4, e5, e6⟩ := hE
  refine (SDelete_any (key := A) e2 hN).mono ?_
  rintro e w' ⟨⟨P', h', r', xs', L', code, a, b, c, d, rfl, hs, hf, hc, hl⟩, hO⟩
  exact ⟨⟨a, b, c, d, code, rfl, by rcases hc with q | q <;> omega, L', by omega, cSet hZ e1 e2 e3 e4 e5 e6 hs hf hO⟩, hO.mono fun i _ q => e6 i (.inl (.inr q))⟩
theorem cRemove (hE : MacE Z w m s b h2 r2 K L t) (hZ : ∀ i, Z i → i ≠ 2) (hN : L.length ≤ 2560) {A : Int} (hA : inH A) :
    Calls Tryz.prog 110 #[.pointer (some ⟨b.lb, 0, none⟩), .int .i64 A] w fun e w' => (∃ p1 p2 p3 p4 v, e = .returned (.tuple #[.agg #[.int .i64 p1, .int .i64 p2, .int .i64 p3, .int .i64 p4], .int .i64 v]) ∧ v ≠ 16 ∧ ∃ h2' r2' L' t', L'.length ≤ L.length ∧ t'.length = t.length ∧ MacE (ZA Z w) w' m s b h2' r2' K L' t') ∧ Only Z w w' := by
  obtain ⟨P, h, r, xs, Q, xs2, e1, e2, e3, e4, e5, e6⟩ := hE
  refine (LDelete_any e3 hN hA).mono ?_
  rintro e w' ⟨⟨a, b, c, d, code, rfl, P', h', r', xs', t', L', hl, ⟨q1, q2, q3⟩, hf⟩, hO⟩
  exact ⟨⟨a, b, c, d, code, rfl, q1, h', r', L', t', q3, q2, cLis hZ e1 e2 e3 e4 e5 e6 hl hf hO⟩, hO.mono fun i _ q => e6 i (.inr (.inl (.inl q)))⟩
theorem cPut {n v : Int} {P : PB} {h : Nat} {r : List Bool} {xs xs2 : List Int} {Q : PB} (hZ : ∀ i, Z i → i ≠ 2) (e1 : Blk w m 58 #[.pointer (some ⟨s, 0, none⟩), .pointer (some ⟨b.lb, 0, none⟩)]) (e2 : SetM w s P h r xs K) (e3 : LisM w b Q h2 r2 xs2 t L)
    (e4 : ∀ i, setB' s P i → ¬ lisB b Q i) (e5 : ∀ i, setB' s P i ∨ lisB b Q i → i ≠ m) (e6 : ∀ i, setB' s P i ∨ lisB b Q i ∨ i = m → Z i) (hp : PutAny w w' b Q t L n v) (hO : Only (Q.mv (some b)) w w') :
    v ≠ 16 ∧ ∃ h2' r2' L' t', L'.length ≤ L.length + 1 ∧ t'.length = t.length + (if v = 0 then 1 else 0) ∧ MacE (ZA Z w) w' m s b h2' r2' K L' t' := by
  obtain ⟨P', h', r', xs', t', L', q1, q2, q3⟩ := hp
  refine ⟨by rcases q3 with ⟨q, _⟩ | ⟨q, _⟩ <;> omega, h', r', L', t', ?_, ?_, cLis hZ e1 e2 e3 e4 e5 e6 q1 q2 hO⟩
  · rcases q3 with ⟨_, _, rfl⟩ | ⟨_, _, _, q⟩ <;> omega
  · rcases q3 with ⟨rfl, rfl, _⟩ | ⟨rfl, _, q, _⟩
    · rw [if_neg (by decide)]; omega
    · rw [if_pos rfl, q]
theorem cAfter (hE : MacE Z w m s b h2 r2 K L t) (hZ : ∀ i, Z i → i ≠ 2) (hN : L.length < 2560) (hT : t.length < 1000000) {A : Int} (hA : inH A) :
    Calls Tryz.prog 108 #[.pointer (some ⟨b.lb, 0, none⟩), .int .i64 A] w fun e w' => (∃ n p1 p2 p3 p4 v, e = .returned (.tuple #[.int .i64 n, .agg #[.int .i64 p1, .int .i64 p2, .int .i64 p3, .int .i64 p4], .int .i64 v]) ∧
      v ≠ 16 ∧ ∃ h2' r2' L' t', L'.length ≤ L.length + 1 ∧ t'.length = t.length + (if v = 0 then 1 else 0) ∧ MacE (ZA Z w) w' m s b h2' r2' K L' t') ∧ Only Z w w' := by
  obtain ⟨P, h, r, xs, Q, xs2, e1, e2, e3, e4, e5, e6⟩ := hE
  refine (LAfter_any e3 hN hT hA).mono ?_
  rintro e w' ⟨⟨n, a, b, c, d, code, rfl, hp⟩, hO⟩
  exact ⟨⟨n, a, b, c, d, code, rfl, cPut hZ e1 e2 e3 e4 e5 e6 hp hO⟩, hO.mono fun i _ q => e6 i (.inr (.inl (.inl q)))⟩
theorem cAhead (hE : MacE Z w m s b h2 r2 K L t) (hZ : ∀ i, Z i → i ≠ 2) (hN : L.length < 2560) (hT : t.length < 1000000) {A : Int} (hA : inH A) :
    Calls Tryz.prog 109 #[.pointer (some ⟨b.lb, 0, none⟩), .int .i64 A] w fun e w' => (∃ n p1 p2 p3 p4 v, e = .returned (.tuple #[.int .i64 n, .agg #[.int .i64 p1, .int .i64 p2, .int .i64 p3, .int .i64 p4], .int .i64 v]) ∧
      v ≠ 16 ∧ ∃ h2' r2' L' t', L'.length ≤ L.length + 1 ∧ t'.length = t.length + (if v = 0 then 1 else 0) ∧ MacE (ZA Z w) w' m s b h2' r2' K L' t') ∧ Only Z w w' := by
  obtain ⟨P, h, r, xs, Q, xs2, e1, e2, e3, e4, e5, e6⟩ := hE
  refine (LAhead_any e3 hN hT hA).mono ?_
  rintro e w' ⟨⟨n, a, b, c, d, code, rfl, hp⟩, hO⟩
  exact ⟨⟨n, a, b, c, d, code, rfl, cPut hZ e1 e2 e3 e4 e5 e6 hp hO⟩, hO.mono fun i _ q => e6 i (.inr (.inl (.inl q)))⟩
/-- First, told exactly. -/
theorem cFirst (hE : MacE Z w m s b h2 r2 K L t) (hZ : ∀ i, Z i → i ≠ 2) (hN : L.length < 2560) (hT : t.length < 1000000) {p1 p2 p3 p4 : Int} (hst : pickV (csV (insB r2 0 0) 0 (2 ^ h2)) 0 h2 = (p1, p2, p3, p4)) :
    Calls Tryz.prog 107 #[.pointer (some ⟨b.lb, 0, none⟩)] w fun e w' => (e = .returned (.tuple #[.int .i64 ((t.length : Int) + 1), .agg #[.int .i64 p1, .int .i64 p2, .int .i64 p3, .int .i64 p4], .int .i64 0]) ∧
      ∃ h2' r2' t', stepB (insB r2 0 0) 0 h2 = (r2', h2') ∧ t'.length = t.length + 1 ∧ MacE (ZA Z w) w' m s b h2' r2' K (((t.length : Int) + 1) :: L) t') ∧ Only Z w w' := by
  obtain ⟨P, h, r, xs, Q, xs2, e1, e2, e3, e4, e5, e6⟩ := hE
  refine (LFirst_ok e3 hN hT hst).mono ?_
  rintro e w' ⟨rfl, ⟨P', h', r', xs', t', L', q1, q2, hf⟩, hO⟩
  refine ⟨⟨rfl, h', r', t', q2.2.1, q2.2.2.1, ?_⟩, hO.mono fun i _ q => e6 i (.inr (.inl (.inl q)))⟩
  have hL : L' = ((t.length : Int) + 1) :: L := by rw [q2.2.2.2.1, show cnt r2 0 = 0 from rfl, insI_zero]
  rw [← hL]
  exact cLis hZ e1 e2 e3 e4 e5 e6 q1 hf hO
/-- How a method that turns something ends. -/
theorem mac_end {Wf : World} {h2' : Nat} {r2' : List Bool} {K' L' t' : List Int} (hE1 : MacE (ZA (fun i => Z i ∧ i < w.heap.size) W) w1 m s b h2' r2' K' L' t') (hBW : Below w.heap.size w W) (hO1 : Only (fun i => Z i ∧ i < w.heap.size) W w1) (hO2 : Only (fun i => w.heap.size ≤ i ∧ i < W.heap.size) w1 Wf) (hw2 : 2 < w.heap.size) :
    MacE (ZA Z w) Wf m s b h2' r2' K' L' t' ∧ Only Z w Wf := by
  have hs := hBW.size
  have hs1 := hO1.size
  refine ⟨(hE1.only hO2 ?_ ?_).mono ?_, ?_⟩
  · rintro i (⟨⟨_, q⟩, _⟩ | q) ⟨a, c⟩ <;> omega
  · rintro i ⟨a, _⟩; omega
  · rintro i _ (⟨q, _⟩ | q)
    · exact .inl q
    · exact .inr (by omega)
  · refine ((Only.of_below hBW).trans' hO1 fun i _ q => q.1).trans' hO2 ?_
    rintro i hi ⟨q, _⟩
    omega
end
end Go.Proofs.YtaonkbfekadalaaGreatDoor
/- The scan of a set: the iterator that goes through slots and keys from one on. -/
namespace Go.Proofs.YtaonkbfekadalaaGreatDoor
open Go.RowKit Go.Shelf
attribute [local go_sem] Oper.semAt_some
set_option linter.unusedVariables false

theorem RoundIn.anyD {m m' : Nat} {P : Program} {l : Nat} {f : FuncId} {tmps : Array Value} {assign body : Code} {w : World} {R : Ending → World → Prop}
    (h : RoundIn Fence.wide m P l f tmps assign body w R) : RoundIn Fence.wide m' P l f tmps assign body w R := ⟨h.1, fun c cs _ => h.2 c cs (fun d h => by cases h)⟩
section
variable {W : World} {b : SB} {n : Nat} {r : List Bool} {xs : List Int}
theorem on_ok {bx : Nat} (hs : SM W b n r xs) (hT : Tab W) (hbx : Blk W bx 105 #[.pointer (some ⟨b.s, 0, none⟩)]) {t : Nat} (ht : t < n) :
    Calls Tryz.prog 244 #[.int .i64 (t : Nat), .pointer (some ⟨bx, 0, none⟩)] W fun e w' => (∃ s : Int, e = .returned (.int .i64 s) ∧ IsNext r ((t : Int) + 1) s) ∧ W = w' := by
  have c0 : W.cell? ⟨bx, 0, none⟩ = some (.pointer (some ⟨b.s, 0, none⟩)) := by rw [hbx.cell]; rfl
  have hn := hs.hn
  have hnx := SNext_any hs hT ((t : Int) + 1)
  have n1 : IntKind.i64.wrap ((t : Int) + 1) = (t : Int) + 1 := IntWalk.i64_in _ (by omega)
  have HT := Lib.hid ht
  clear ht hs
  go_enter Tryz.func244, Tryz.ntmps244
  go_wp2_with fail
  refine hnx.mono ?_
  rintro e w1 ⟨⟨s, rfl, hs⟩, rfl⟩
  have HS := Lib.hid hs
  clear hs
  go_wp2_with fail
  go_ret
  exact ⟨⟨s, rfl, HS.out⟩, rfl⟩
theorem may_ok {bh : Nat} {hi : Int} (hbh : Blk W bh 3 #[.int .i64 hi]) (x : Int) :
    Calls Tryz.prog 206 #[.int .i64 x, .pointer (some ⟨bh, 0, none⟩)] W fun e w' => e = .returned (.bool (decide (x < hi))) ∧ W = w' := by
  have c0 : W.cell? ⟨bh, 0, none⟩ = some (.int .i64 hi) := by rw [hbh.cell]; rfl
  go_enter Tryz.func206, Tryz.ntmps206
  go_wp2_with fail
  go_ret
  exact ⟨rfl, rfl⟩
set_option maxRecDepth 100000 in
set_option maxHeartbeats 4000000 in
theorem run243_in (m l bx bh : Nat) (hi : Int) (X : Nat → Prop)
    (hs : SM W b n r xs) (hT : Tab W) (hbx : Blk W bx 105 #[.pointer (some ⟨b.s, 0, none⟩)]) (hbh : Blk W bh 3 #[.int .i64 hi]) (x1 : ∀ i, b.has i → ¬ X i) (x2 : ¬ X 2) (x3 : ¬ X bx) (x4 : ¬ X bh)
    (J Jx : List (Int × Int) → World → Prop)
    (hY : ∀ pre x W1, J pre W1 → pre.length < cnt r n → YieldAt Fence.wide (m - 1) Tryz.prog l (enc2 x) W1 fun e W' =>
      (e = .returned (.bool true) ∧ J (pre ++ [x]) W' ∧ Kx X W1 W') ∨ (e = .returned (.bool false) ∧ Jx (pre ++ [x]) W'))
    (h0 : J [] W) {a : Int} (ha : a = -1 ∨ ∃ t : Nat, a = t ∧ on r t = true) :
    CallsIn Fence.wide m Tryz.prog 243 #[.pointer (some ⟨b.s, 0, none⟩), .int .i64 a, .func (.func 244) #[] #[.pointer (some ⟨bx, 0, none⟩)], .func (.func 206) #[] #[.pointer (some ⟨bh, 0, none⟩)], .func (.yield l) #[] #[]] W fun e W' => (∃ v, e = .returned v) ∧
      ((∃ ys, J ys W') ∨ (∃ pre, Jx pre W')) := by
  have bd := hs.bd
  have lr := hs.lr
  refine callsIn_of_wp Tryz.func243 rfl trivial ?_ rfl
  simp only [Tryz.ntmps243, List.size_toArray, List.length_cons, List.length_nil, Nat.reduceAdd, Nat.reduceSub, Array.replicate_succ, Array.replicate_zero, List.push_toArray, List.append_toArray, List.nil_append, List.cons_append]
  gi_wp2_with fail
  gi_loopw [1] (fun i wr => Kx X W wr ∧ ∃ pre, J pre wr ∧ (i = .int .i64 (-1) ∨ (∃ t : Nat, i = .int .i64 t ∧ on r t = true ∧ pre.length ≤ cnt r t))) (fun i _ => if intOf i < 0 then 0 else n - (intOf i).toNat)
  case atStart =>
    refine ⟨Kx.refl X W, [], h0, ?_⟩
    rcases ha with rfl | ⟨t, rfl, ht⟩
    · exact .inl rfl
    · exact .inr ⟨t, rfl, ht, Nat.zero_le _⟩
  case round =>
    obtain ⟨hK, pre, hj, rfl | ⟨t, rfl, ht, hpre⟩⟩ := hrel
    · gi_wp2_with fail
      go_end0
      exact ⟨⟨_, rfl⟩, .inl ⟨_, hj⟩⟩
    · have htn : t < n := by have := on_lt ht; omega
      have i1 : (t : Int) < (n : Int) := by omega
      have i0 : (0 : Int) ≤ (t : Int) := by omega
      have s1 := hK.sm x1 hs
      have bh1 := hK.blk x4 hbh
      have hat := SAt_any s1 (t : Int)
      rw [hasB_nat, ht] at hat
      have hcl := cnt_lt htn ht
      obtain ⟨y, hy0⟩ : ∃ y, y = atV r xs (t : Int) := ⟨_, rfl⟩
      rw [← hy0] at hat
      have hmay := may_ok bh1 y
      clear hy0
      by_cases hlt : y < hi
      · have ty : decide (y < hi) = true := by simp [hlt]
        rw [ty] at hmay
        obtain ⟨fn, tmps, assign, body, hy, hR⟩ := hY pre ((t : Int), y) wr hj (by omega)
        simp only [enc2] at hy
        have hR' := (RoundIn.anyD (m' := m - 1) hR).mono (fun e W' => round_one (K := fun W' => J (pre ++ [((t : Int), y)]) W' ∧ Kx X wr W') (L := fun W' => Jx (pre ++ [((t : Int), y)]) W') (fun W' h1 h2 => ⟨h1, h2⟩) (fun W' h1 => h1))
        clear hR hj hlt
        gi_wp2_with fail
        refine ⟨trivial, fun h => (by cases h), ?_⟩
        refine (callsIn_wide.2 hat).mono ?_
        rintro e w' ⟨rfl, rfl⟩
        gi_wp2_with fail
        refine ⟨trivial, fun h => (by cases h), ?_⟩
        refine (callsIn_wide.2 hmay).mono ?_
        rintro e w' ⟨rfl, rfl⟩
        gi_wp2_with fail
        refine ⟨fun h => (by cases h), ?_⟩
        refine hR'.mono ?_
        rintro e W3 ⟨bb, rfl, hq⟩
        cases bb
        · have hq' := hq.2 rfl
          gi_wp2_with fail
          refine bodyPost_ret (results_none rfl _ _ _) rfl ?_
          exact ⟨⟨_, rfl⟩, .inr ⟨_, hq'⟩⟩
        · have hq' := hq.1 rfl
          have hK3 := hK.trans hq'.2
          have hon := on_ok (hK3.sm x1 hs) (hK3.tab x2 hT) (hK3.blk x3 hbx) htn
          gi_wp2_with fail
          refine ⟨trivial, fun h => (by cases h), ?_⟩
          refine (callsIn_wide.2 hon).mono ?_
          rintro e w' ⟨⟨s', rfl, hn'⟩, rfl⟩
          have hf' := cnt_from hn' ht
          gi_wp2_with fail
          go_roundw
          case rel =>
            refine ⟨hK3, _, hq'.1, ?_⟩
            rcases hf' with ⟨rfl, h1⟩ | ⟨t', rfl, h1, h2, h3⟩
            · exact .inl rfl
            · exact .inr ⟨t', rfl, h2, by rw [h3]; simp; omega⟩
          case measure =>
            have h0 : ¬ ((t : Int) < 0) := by omega
            rcases hf' with ⟨rfl, h1⟩ | ⟨t', rfl, h1, h2, h3⟩
            · simp [intOf, h0]; omega
            · have h0' : ¬ ((t' : Int) < 0) := by omega
              have := on_lt h2
              simp [intOf, h0, h0']; omega
      · have ty : decide (y < hi) = false := by simp; omega
        rw [ty] at hmay
        clear hlt
        gi_wp2_with fail
        refine ⟨trivial, fun h => (by cases h), ?_⟩
        refine (callsIn_wide.2 hat).mono ?_
        rintro e w' ⟨rfl, rfl⟩
        gi_wp2_with fail
        refine ⟨trivial, fun h => (by cases h), ?_⟩
        refine (callsIn_wide.2 hmay).mono ?_
        rintro e w' ⟨rfl, rfl⟩
        gi_wp2_with fail
        refine ⟨fun _ h => (by cases h), ?_⟩
        gi_wp2_with fail
        refine bodyPost_ret (results_none rfl _ _ _) rfl ?_
        exact ⟨⟨_, rfl⟩, .inl ⟨_, hj⟩⟩
set_option maxRecDepth 100000 in
set_option maxHeartbeats 4000000 in
theorem up1_in (m l bx bf bm bh : Nat) (lo hi : Int) (X : Nat → Prop)
    (hs : SM W b n r xs) (hT : Tab W) (hS : Sorted r xs) (hbx : Blk W bx 105 #[.pointer (some ⟨b.s, 0, none⟩)]) (hbf : Blk W bf 3 #[.int .i64 lo]) (hbm : Blk W bm 74 #[.func (.func 206) #[] #[.pointer (some ⟨bh, 0, none⟩)]]) (hbh : Blk W bh 3 #[.int .i64 hi])
    (x1 : ∀ i, b.has i → ¬ X i) (x2 : ¬ X 2) (x3 : ¬ X bx) (x4 : ¬ X bh)
    (J Jx : List (Int × Int) → World → Prop) (hJ : AbidesFrom W.heap.size J)
    (hY : ∀ pre x W1, J pre W1 → pre.length < cnt r n → YieldAt Fence.wide (m - 1) Tryz.prog l (enc2 x) W1 fun e W' =>
      (e = .returned (.bool true) ∧ J (pre ++ [x]) W' ∧ Kx X W1 W') ∨ (e = .returned (.bool false) ∧ Jx (pre ++ [x]) W'))
    (h0 : J [] W) :
    CallsIn Fence.wide m Tryz.prog 242 #[.func (.yield l) #[] #[], .pointer (some ⟨bx, 0, none⟩), .pointer (some ⟨bf, 0, none⟩), .pointer (some ⟨bm, 0, none⟩)] W fun e W' => (∃ v, e = .returned v) ∧
      ((∃ ys, J ys W') ∨ (∃ pre, Jx pre W')) := by
  have c1 : W.cell? ⟨bx, 0, none⟩ = some (.pointer (some ⟨b.s, 0, none⟩)) := by rw [hbx.cell]; rfl
  have c2 : W.cell? ⟨bf, 0, none⟩ = some (.int .i64 lo) := by rw [hbf.cell]; rfl
  have hlo := Lower_ok hs hT hS lo
  have hmf : ∀ (fn : Fn) (first cap : Array Value) (w : World), (Instr.makeFunc fn first cap).run Tryz.prog w = .ok (.func fn first cap) w := fun _ _ _ _ => rfl
  refine callsIn_of_wp Tryz.func242 rfl trivial ?_ rfl
  simp only [Tryz.ntmps242, List.size_toArray, List.length_cons, List.length_nil, Nat.reduceAdd, Nat.reduceSub, Array.replicate_succ, Array.replicate_zero, List.push_toArray, List.append_toArray, List.nil_append, List.cons_append]
  gi_wp2_with fail
  refine ⟨trivial, fun h => (by cases h), ?_⟩
  refine (callsIn_wide.2 hlo).mono ?_
  rintro e w1 ⟨⟨a, c, rfl, ha⟩, hB⟩
  have hbx1 := hbx.below hB hbx.lt
  have d1 : w1.cell? ⟨bx, 0, none⟩ = some (.pointer (some ⟨b.s, 0, none⟩)) := by rw [hbx1.cell]; rfl
  have hbm1 := hbm.below hB hbm.lt
  have d3 : w1.cell? ⟨bm, 0, none⟩ = some (.func (.func 206) #[] #[.pointer (some ⟨bh, 0, none⟩)]) := by rw [hbm1.cell]; rfl
  have hJ1 : J [] w1 := hJ [] W w1 none h0 (grown_of_below hB none) (fun _ e => by cases e)
  have ha' : a = -1 ∨ ∃ t : Nat, a = t ∧ on r t = true := by
    rcases ha with ⟨j, rfl, ho, _⟩ | ⟨rfl, _⟩
    · exact .inr ⟨j, rfl, ho⟩
    · exact .inl rfl
  have hrun := run243_in (m - 1) l bx bh hi X (hs.below hB) (hT.below hB) hbx1 (hbh.below hB hbh.lt) x1 x2 x3 x4 J Jx (fun pre x W1 h1 h2 => by
    obtain ⟨fn, tmps, assign, body, hy, hR⟩ := hY pre x W1 h1 h2
    exact ⟨fn, tmps, assign, body, hy, RoundIn.anyD hR⟩) hJ1 ha'
  clear hlo ha
  gi_wp2_with fail
  refine ⟨trivial, fun h => (by cases h), ?_⟩
  refine hrun.mono ?_
  rintro e w2 ⟨⟨v, rfl⟩, hq⟩
  gi_wp2_with fail
  go_end0
  exact ⟨⟨_, rfl⟩, hq⟩
theorem up_stops (m bx bf bm bh : Nat) (lo hi : Int) (X : Nat → Prop)
    (hs : SM W b n r xs) (hT : Tab W) (hS : Sorted r xs) (hbx : Blk W bx 105 #[.pointer (some ⟨b.s, 0, none⟩)]) (hbf : Blk W bf 3 #[.int .i64 lo]) (hbm : Blk W bm 74 #[.func (.func 206) #[] #[.pointer (some ⟨bh, 0, none⟩)]]) (hbh : Blk W bh 3 #[.int .i64 hi])
    (x1 : ∀ i, b.has i → ¬ X i) (x2 : ¬ X 2) (x3 : ¬ X bx) (x4 : ¬ X bh) :
    SeqStopsK Fence.wide m Tryz.prog 242 #[.pointer (some ⟨bx, 0, none⟩), .pointer (some ⟨bf, 0, none⟩), .pointer (some ⟨bm, 0, none⟩)] enc2 (Kx X) (fun _ => True) (fun _ => True) (cnt r n) W :=
  fun l J Jx W' hW hJ hJx hY h0 =>
    (up1_in m l bx bf bm bh lo hi X (hs.below hW) (hT.below hW) hS (hbx.below hW hbx.lt) (hbf.below hW hbf.lt) (hbm.below hW hbm.lt) (hbh.below hW hbh.lt) x1 x2 x3 x4 J Jx hJ hY h0).mono fun e w q =>
      ⟨q.1, q.2.imp (fun ⟨ys, h⟩ => ⟨ys, trivial, h⟩) (fun ⟨ys, h⟩ => ⟨ys, trivial, h⟩)⟩
end
end Go.Proofs.YtaonkbfekadalaaGreatDoor
/- The scan of a set: Range's iterator over an iterator. -/
namespace Go.Proofs.YtaonkbfekadalaaGreatDoor
open Go.RowKit Go.Shelf
attribute [local go_sem] Oper.semAt_some
set_option linter.unusedVariables false

section
variable {w W : World} {P : PB} {h s : Nat} {r : List Bool} {xs K : List Int}
theorem slots_ok (hm : SetM w s P h r xs K) : Calls Tryz.prog 205 #[.pointer (some ⟨s, 0, none⟩)] w fun e w' => ∃ b : SB, e = .returned (.pointer (some ⟨b.s, 0, none⟩)) ∧ SM w' b (capN h) r xs ∧ b.from w.heap.size ∧ Below w.heap.size w w' := by
  have hr := SRow_ok hm
  go_enter Tryz.func205, Tryz.ntmps205
  go_wp2_with fail
  refine hr.mono ?_
  rintro e w1 ⟨P', rfl, q1, q2, hB1⟩
  have hs := PSlots_ok q1
  clear q1 q2
  go_wp2_with fail
  refine hs.mono ?_
  rintro e w2 ⟨b, rfl, h1, h2, hB2⟩
  have HQ := Lib.hid (And.intro h1 h2)
  clear h1 h2
  go_wp2_with fail
  go_ret
  exact ⟨b, rfl, HQ.out.1, fun i hi => by have := HQ.out.2 i hi; have := hB1.size; omega, hB1.trans (hB2.mono hB1.size)⟩
theorem up_ok (bs : Nat) (lo : Int) (f : Fn) (g : Array Value) (w : World) : Calls Tryz.prog 204 #[.pointer (some ⟨bs, 0, none⟩), .int .i64 lo, .func f #[] g] w fun e w' => e = .returned (.func (.func 242) #[] #[.pointer (some ⟨w.heap.size, 0, none⟩), .pointer (some ⟨w.heap.size + 1, 0, none⟩), .pointer (some ⟨w.heap.size + 2, 0, none⟩)]) ∧
    ((w.alloc (.cells #[.pointer (some ⟨bs, 0, none⟩)] 105)).alloc (.cells #[.int .i64 lo] 3)).alloc (.cells #[.func f #[] g] 74) = w' := by
  have hmf : ∀ (fn : Fn) (first cap : Array Value) (w : World), (Instr.makeFunc fn first cap).run Tryz.prog w = .ok (.func fn first cap) w := fun _ _ _ _ => rfl
  go_enter Tryz.func204, Tryz.ntmps204
  go_wp2_with fail
  go_ret
  exact ⟨rfl, rfl⟩
theorem Range_ok (bs : Nat) (lo hi : Int) (w : World) : Calls Tryz.prog 164 #[.pointer (some ⟨bs, 0, none⟩), .int .i64 lo, .int .i64 hi] w fun e w' => e = .returned (.func (.func 203) #[] #[.pointer (some ⟨w.heap.size, 0, none⟩), .pointer (some ⟨w.heap.size + 1, 0, none⟩), .pointer (some ⟨w.heap.size + 2, 0, none⟩)]) ∧
    ((w.alloc (.cells #[.pointer (some ⟨bs, 0, none⟩)] 38)).alloc (.cells #[.int .i64 lo] 3)).alloc (.cells #[.int .i64 hi] 3) = w' := by
  have hmf : ∀ (fn : Fn) (first cap : Array Value) (w : World), (Instr.makeFunc fn first cap).run Tryz.prog w = .ok (.func fn first cap) w := fun _ _ _ _ => rfl
  go_enter Tryz.func164, Tryz.ntmps164
  go_wp2_with fail
  go_ret
  exact ⟨rfl, rfl⟩
set_option maxRecDepth 100000 in
set_option maxHeartbeats 8000000 in
theorem range1_ok {l bs bl bh : Nat} {lo hi : Int} {J : World → Prop} {Y : Nat → Prop} (hm : SetM W s P h r xs K) (hbs : Blk W bs 38 #[.pointer (some ⟨s, 0, none⟩)]) (hbl : Blk W bl 3 #[.int .i64 lo]) (hbh : Blk W bh 3 #[.int .i64 hi])
    (hJn : ∀ A B, J A → Only (fun i => W.heap.size ≤ i) A B → W.heap.size ≤ A.heap.size → J B) (hJK : ∀ A B, J A → J B → Only Y A B → KeepsOthers A B) (hYl : ∀ i, Y i → i < W.heap.size ∧ i ≠ bh ∧ i ≠ 2)
    (hY : ∀ x A, J A → YieldAt Fence.wide 5 Tryz.prog l #[.int .i64 x] A fun e B => e = .returned (.bool true) ∧ J B ∧ Only Y A B) (h0 : J W) :
    Calls Tryz.prog 203 #[.func (.yield l) #[] #[], .pointer (some ⟨bs, 0, none⟩), .pointer (some ⟨bl, 0, none⟩), .pointer (some ⟨bh, 0, none⟩)] W fun e W' => (∃ v, e = .returned v) ∧ J W' := by
  have hmf : ∀ (fn : Fn) (first cap : Array Value) (w : World), (Instr.makeFunc fn first cap).run Tryz.prog w = .ok (.func fn first cap) w := fun _ _ _ _ => rfl
  have y0 := Blk.made W 74 #[.func (.yield l) #[] #[]]
  have hB0 : Below W.heap.size W (W.alloc (.cells #[.func (.yield l) #[] #[]] 74)) := (Below.refl _ W).alloc (Nat.le_refl _) _
  have hz0 : (W.alloc (.cells #[.func (.yield l) #[] #[]] 74)).heap.size = W.heap.size + 1 := by simp
  have hm0 := hm.below hB0
  have hbs0 := hbs.below hB0 hbs.lt
  have hbl0 := hbl.below hB0 hbl.lt
  have hbh0 := hbh.below hB0 hbh.lt
  generalize hW0 : W.alloc (.cells #[.func (.yield l) #[] #[]] 74) = W0 at *
  have hBd : Below W0.heap.size W0 W0.drew := below_drewN (Below.refl _ _) 1
  have hsl : Calls Tryz.prog 205 #[.pointer (some ⟨s, 0, none⟩)] W0.drew _ := slots_ok (hm0.below hBd)
  have c0 : W0.drew.cell? ⟨bs, 0, none⟩ = some (.pointer (some ⟨s, 0, none⟩)) := by rw [(hbs0.below hBd hbs0.lt).cell]; rfl
  have c1 : W0.drew.cell? ⟨bl, 0, none⟩ = some (.int .i64 lo) := by rw [(hbl0.below hBd hbl0.lt).cell]; rfl
  have HM := Lib.hid (And.intro hm0 (And.intro hJn (And.intro hJK (And.intro hYl (And.intro hY h0)))))
  have hz1 : W.heap.size + 1 ≤ W0.heap.size := by omega
  clear hm hm0 hJn hJK hYl hY h0 hz0
  refine (callsIn_wide (n := 5)).1 ?_
  refine callsIn_of_wp_marks Tryz.func203 rfl trivial ?_ rfl
  refine wpIn_wide.2 ?_
  simp only [Tryz.ntmps203, List.size_toArray, List.length_cons, List.length_nil, Nat.reduceAdd, Nat.reduceSub, Array.replicate_succ, Array.replicate_zero, List.push_toArray, List.append_toArray, List.nil_append, List.cons_append]
  go_wp2_with fail
  go_region_held3 (fun A => A.cell? ⟨bs, 0, none⟩ = some (.pointer (some ⟨s, 0, none⟩)) ∧ A.cell? ⟨bl, 0, none⟩ = some (.int .i64 lo))
    (first | exact ⟨c0, c1⟩ | exact ⟨d0, d1⟩ | exact ⟨e0, e1⟩)
    ((first
      | (go_at_call 205
         refine hsl.mono ?_
         rintro e w1 ⟨b, rfl, q1, q2, hB1⟩
         have hbs1 := (hbs0.below hBd hbs0.lt).below hB1 hbs0.lt
         have hbl1 := (hbl0.below hBd hbl0.lt).below hB1 hbl0.lt
         have d0 : w1.cell? ⟨bs, 0, none⟩ = some (.pointer (some ⟨s, 0, none⟩)) := (by rw [hbs1.cell]; rfl)
         have d1 : w1.cell? ⟨bl, 0, none⟩ = some (.int .i64 lo) := (by rw [hbl1.cell]; rfl)
         have hup := up_ok b.s lo (.func 206) #[.pointer (some ⟨bh, 0, none⟩)] w1)
      | (go_at_call 204
         refine hup.mono ?_
         rintro e w2 ⟨rfl, hw2⟩
         have hBu : Below w1.heap.size w1 w2 := (by rw [← hw2]; exact (((Below.refl _ w1).alloc (Nat.le_refl _) _).alloc (by simp) _).alloc (by simp; omega) _)
         have e0 : w2.cell? ⟨bs, 0, none⟩ = some (.pointer (some ⟨s, 0, none⟩)) := (by rw [(hbs1.below hBu hbs1.lt).cell]; rfl)
         have e1 : w2.cell? ⟨bl, 0, none⟩ = some (.int .i64 lo) := (by rw [(hbl1.below hBu hbl1.lt).cell]; rfl))))
  all_goals go_wp2_with fail
  all_goals refine (wpIn_wide (n := 5)).1 ?_
  all_goals (
    have w2x := Blk.made w1 105 #[.pointer (some ⟨b.s, 0, none⟩)]
    have w2f := Blk.made (w1.alloc (.cells #[.pointer (some ⟨b.s, 0, none⟩)] 105)) 3 #[.int .i64 lo]
    have w2m := Blk.made ((w1.alloc (.cells #[.pointer (some ⟨b.s, 0, none⟩)] 105)).alloc (.cells #[.int .i64 lo] 3)) 74 #[.func (.func 206) #[] #[.pointer (some ⟨bh, 0, none⟩)]]
    simp only [World.size_alloc] at w2f w2m
    replace w2x := (w2x.alloc (.cells #[.int .i64 lo] 3)).alloc (.cells #[.func (.func 206) #[] #[.pointer (some ⟨bh, 0, none⟩)]] 74)
    replace w2f := w2f.alloc (.cells #[.func (.func 206) #[] #[.pointer (some ⟨bh, 0, none⟩)]] 74)
    rw [hw2] at w2x w2f w2m
    obtain ⟨hm0, hJn, hJK, hYl, hY, h0⟩ := HM.out
    have hBd1 : Below W0.heap.size W0 w1 := hBd.trans hB1
    have hBW2 : Below W.heap.size W w2 := (hB0.trans (hBd1.mono hB0.size)).trans (hBu.mono (by have := hBd1.size; omega))
    have hs2 := q1.below hBu
    have hT2 : Tab w2 := ((hm0.rp.hT.below hBd1)).below hBu
    have hbh2 := (hbh0.below hBd1 hbh0.lt).below hBu (by have := hbh0.lt; have := hBd1.size; omega)
    have y2 := (y0.below hBd1 y0.lt).below hBu (by have := y0.lt; have := hBd1.size; omega)
    have hszw : W0.heap.size ≤ w1.heap.size := hBd1.size
    have hszu := hBu.size
    have hbge : ∀ i, b.has i → W0.heap.size ≤ i := q2
    have hj2 : J w2 := hJn W w2 h0 ((Only.refl (fun i => W.heap.size ≤ i) W).trans (Only.of_below hBW2)) (Nat.le_refl _)
    clear hsl hup hw2)
  all_goals (refine wpIn_rangeFunc_ownF rfl (by decide) (gf := 242) (lb := #[.pointer (some ⟨w1.heap.size, 0, none⟩), .pointer (some ⟨w1.heap.size + 1, 0, none⟩), .pointer (some ⟨w1.heap.size + 2, 0, none⟩)]) rfl trivial (enters_of Tryz.func242 (by kernel_rfl) rfl)
                (up_stops _ w1.heap.size (w1.heap.size + 1) (w1.heap.size + 2) bh lo hi Y hs2 hT2 hm0.so w2x w2f w2m hbh2 (fun i hi q => by have := hbge i hi; have := (hYl i q).1; omega) (fun q => (hYl 2 q).2.2 rfl) (fun q => by have := (hYl _ q).1; omega) (fun q => (hYl _ q).2.1 rfl))
                Kx.trans (fun W l o o' _ hl ho _ => Kx.putObj W l o o' hl ho) (Below.refl _ _) (fun _ => rfl)
                (fun pre A => J A ∧ Blk A W.heap.size 74 #[.func (.yield l) #[] #[]] ∧ W.heap.size ≤ A.heap.size)
                (fun _ _ _ => False)
                (fun pre A B row hs hg hr => ⟨hJn A B hs.1 (Only.of_grown hg fun r e => by have := (hr r e).1; omega) hs.2.2, hs.2.1.grown hg (fun e => by have := (hr _ e.symm).1; omega), Nat.le_trans hs.2.2 hg.size⟩)
                (fun _ _ _ _ _ hs _ _ => hs)
                ⟨hj2, y2, hBW2.size⟩
                (fun x => { tmps := #[.func (.yield l) #[] #[], .pointer (some ⟨bs, 0, none⟩), .pointer (some ⟨bl, 0, none⟩), .pointer (some ⟨bh, 0, none⟩), .pointer (some ⟨W.heap.size, 0, none⟩), undef, .int .i64 x.2, .pointer (some ⟨s, 0, none⟩), .pointer (some ⟨b.s, 0, none⟩), .int .i64 lo, .func (.func 206) #[] #[.pointer (some ⟨bh, 0, none⟩)], .func (.func 242) #[] #[.pointer (some ⟨w1.heap.size, 0, none⟩), .pointer (some ⟨w1.heap.size + 1, 0, none⟩), .pointer (some ⟨w1.heap.size + 2, 0, none⟩)], .int .i64 x.1, .int .i64 x.2, undef, undef, undef, undef], defers := [] }) ?_ ?_ ?_ ?_)
  all_goals first
    | (intro l x W K hK
       simp only [enc2]
       gi_wp2
       exact hK)
    | (rintro D c pre W _ _ hh _
       exact hh.elim)
    | skip
  all_goals first
    | (rintro l' pre x A ⟨hj, hb, hsz⟩ hlen
       have cy : A.cell? ⟨W.heap.size, 0, none⟩ = some (.func (.yield l) #[] #[]) := (by rw [hb.cell]; rfl)
       obtain ⟨fn, tmps, assign, body, hy, hR⟩ := hY x.2 A hj
       have hR' : RoundIn (Fence.wide.inRound l') (5 - 1 - 1 - 1) Tryz.prog l fn tmps assign body A _ := RoundIn.anyD (m' := 5 - 1 - 1 - 1) hR
       clear hR
       gi_wp2_with fail
       refine hR'.mono ?_
       rintro e B ⟨rfl, hj', ho⟩
       gi_wp2_with fail
       exact ⟨hJK A B hj hj' ho, Kx.of_only ho (fun _ _ q => q), hj', hb.only ho (fun q => by have := (hYl _ q).1; omega), Nat.le_trans hsz ho.size⟩)
    | skip
  all_goals (
    rintro D ys A hD _ ⟨hj, hb, hsz⟩ hK
    gi_wp2_with fail
    refine ⟨by simp, .inl ⟨_, _, rfl, run_takeDeferred hK, ?_⟩⟩
    exact ⟨_, results_none rfl _ _ _, ⟨_, rfl⟩, hJn A _ hj ((Only.refl (fun i => W.heap.size ≤ i) A).trans (Only.of_grown (grownBy_putObj' A D (.deferred none)) (fun r e => by injection e with e; have := hBW2.size; omega))) hsz⟩)
end
end Go.Proofs.YtaonkbfekadalaaGreatDoor
