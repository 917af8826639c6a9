/- Joined texts: Db, Ea, Eb, Va, Vb. -/
import Derived.Test.YtaonkbfekadalaaGreatDoorM37
import Derived.Test.YtaonkbfekadalaaGreatDoorM38
/- What Do comes to at any command; at the commands that the tables ask it is told exactly. -/
namespace Go.Proofs.YtaonkbfekadalaaGreatDoor
open Go.RowKit
set_option linter.unusedVariables false

section
variable {w w' : World} {Z : Nat → Prop} {m : Nat} {K L t : List Int}
set_option maxRecDepth 100000 in
theorem mKeysB (hM : MacM Z w m K L t) (c : ByteArray) {A B : Int} :
    Calls Tryz.prog 53 #[.pointer (some ⟨m, 0, none⟩), cmdV c A B] w fun e w' => (∃ (x : An), e = .returned (.agg x.cs) ∧ x.code = 0 ∧ x.len = K.length ∧ RI w' x.A K ∧ ∀ a, x.A = some a → w.heap.size ≤ a.block) ∧ Below w.heap.size w w' := by
  obtain ⟨W0, hW0, a0, a1, hB0, hz0⟩ := boxed c A B w
  have hM0 := hM.below hB0
  obtain ⟨s, P, h1, r, xs, b, Q, h2', r2, xs2, e1, e2, e3, e4, e5, e6⟩ := hM0
  have c0 : W0.cell? ⟨m, 0, none⟩ = some (.pointer (some ⟨s, 0, none⟩)) := by rw [e1.cell]; rfl
  have c1 : W0.cell? ⟨w.heap.size, 1, none⟩ = some (.int .i64 A) := by rw [a0.cell]; rfl
  have c2 : W0.cell? ⟨w.heap.size, 2, none⟩ = some (.int .i64 B) := by rw [a0.cell]; rfl
  have d0 : W0.drew.cell? ⟨m, 0, none⟩ = some (.pointer (some ⟨s, 0, none⟩)) := c0
  have d1 : W0.drew.cell? ⟨w.heap.size, 1, none⟩ = some (.int .i64 A) := c1
  have d2 : W0.drew.cell? ⟨w.heap.size, 2, none⟩ = some (.int .i64 B) := c2
  have hBd : Below W0.heap.size W0 W0.drew := below_drewN (Below.refl _ _) 1
  have a0d := a0.below hBd a0.lt
  have a1d := a1.below hBd a1.lt
  have e1d := e1.below hBd e1.lt
  have hBw : Below w.heap.size w W0.drew := hB0.trans (hBd.mono hB0.size)
  unfold cmdV
  unfold an0 anE An.cs at hW0 a1 a1d
  dsimp only at hW0 a1 a1d
  have hc := SKeys_ok e2
  clear e2 e3 e4 e5 e6 hM
  go_enter Tryz.func53, Tryz.ntmps53
  go_wp2_with fail
  refine hc.mono ?_
  rintro e w1 ⟨⟨v, rfl, ho⟩, hB1⟩
  obtain ⟨A', cap, rfl, hR⟩ := ho.form
  have b1 := a1.below hB1 a1.lt
  obtain ⟨y0, y1, y2, y3, y4, y5, y6, y7⟩ := b1.eight
  obtain ⟨f0, f1, f2, f3, f4, f5, f6, f7⟩ := b1.frozen8
  have HR := Lib.hid (And.intro ho hR)
  clear ho hR
  go_wp2_with fail
  refine bodyPost_ret (results_c rfl _ rfl (b1.put8 _ _ _ _ _ _ _ _) Tryz.underlying33 (by kernel_rfl)) rfl ?_
  refine ⟨⟨⟨0, 0, false, 0, 0, 0, 0, A', _, cap⟩, rfl, rfl, rfl, ?_, ?_⟩, below_put8 (hB0.trans (hB1.mono hB0.size)) (by omega) _ _ _ _ _ _ _ _⟩
  · exact HR.out.1.ri_only ((Only.refl (fun i => i = w.heap.size + 1) w1).put8 (g := w.heap.size + 1) (.inl rfl) _ _ _ _ _ _ _ _) (by omega)
  · rintro a rfl
    have := HR.out.1.base_le a.block (by simp [Value.ownBlock])
    omega
set_option maxRecDepth 100000 in
theorem mHandlesB (hM : MacM Z w m K L t) (c : ByteArray) {A B : Int} :
    Calls Tryz.prog 65 #[.pointer (some ⟨m, 0, none⟩), cmdV c A B] w fun e w' => (∃ (x : An), e = .returned (.agg x.cs) ∧ x.code = 0 ∧ x.len = L.length ∧ RI w' x.A L ∧ ∀ a, x.A = some a → w.heap.size ≤ a.block) ∧ Below w.heap.size w w' := by
  obtain ⟨W0, hW0, a0, a1, hB0, hz0⟩ := boxed c A B w
  have hM0 := hM.below hB0
  obtain ⟨s, P, h1, r, xs, b, Q, h2', r2, xs2, e1, e2, e3, e4, e5, e6⟩ := hM0
  have c0 : W0.cell? ⟨m, 1, none⟩ = some (.pointer (some ⟨b.lb, 0, none⟩)) := by rw [e1.cell]; rfl
  have c1 : W0.cell? ⟨w.heap.size, 1, none⟩ = some (.int .i64 A) := by rw [a0.cell]; rfl
  have c2 : W0.cell? ⟨w.heap.size, 2, none⟩ = some (.int .i64 B) := by rw [a0.cell]; rfl
  have d0 : W0.drew.cell? ⟨m, 1, none⟩ = some (.pointer (some ⟨b.lb, 0, none⟩)) := c0
  have d1 : W0.drew.cell? ⟨w.heap.size, 1, none⟩ = some (.int .i64 A) := c1
  have d2 : W0.drew.cell? ⟨w.heap.size, 2, none⟩ = some (.int .i64 B) := c2
  have hBd : Below W0.heap.size W0 W0.drew := below_drewN (Below.refl _ _) 1
  have a0d := a0.below hBd a0.lt
  have a1d := a1.below hBd a1.lt
  have e1d := e1.below hBd e1.lt
  have hBw : Below w.heap.size w W0.drew := hB0.trans (hBd.mono hB0.size)
  unfold cmdV
  unfold an0 anE An.cs at hW0 a1 a1d
  dsimp only at hW0 a1 a1d
  have hc := LHandles_ok e3
  clear e2 e3 e4 e5 e6 hM
  go_enter Tryz.func65, Tryz.ntmps65
  go_wp2_with fail
  refine hc.mono ?_
  rintro e w1 ⟨⟨v, rfl, ho⟩, hB1⟩
  obtain ⟨A', cap, rfl, hR⟩ := ho.form
  have b1 := a1.below hB1 a1.lt
  obtain ⟨y0, y1, y2, y3, y4, y5, y6, y7⟩ := b1.eight
  obtain ⟨f0, f1, f2, f3, f4, f5, f6, f7⟩ := b1.frozen8
  have HR := Lib.hid (And.intro ho hR)
  clear ho hR
  go_wp2_with fail
  refine bodyPost_ret (results_c rfl _ rfl (b1.put8 _ _ _ _ _ _ _ _) Tryz.underlying33 (by kernel_rfl)) rfl ?_
  refine ⟨⟨⟨0, 0, false, 0, 0, 0, 0, A', _, cap⟩, rfl, rfl, rfl, ?_, ?_⟩, below_put8 (hB0.trans (hB1.mono hB0.size)) (by omega) _ _ _ _ _ _ _ _⟩
  · exact HR.out.1.ri_only ((Only.refl (fun i => i = w.heap.size + 1) w1).put8 (g := w.heap.size + 1) (.inl rfl) _ _ _ _ _ _ _ _) (by omega)
  · rintro a rfl
    have := HR.out.1.base_le a.block (by simp [Value.ownBlock])
    omega
/-- The words that make a handle. -/
def makes (s : ByteArray) : Prop := s = wordK 7 ∨ s = wordK 8 ∨ s = wordK 9
instance (s : ByteArray) : Decidable (makes s) := by unfold makes; infer_instance
theorem or_code (x : An) (hx : x.code = 0) (e : Int) : (x.or e).code = e := by
  unfold An.or
  by_cases he : e = 0
  · rw [if_pos he, hx, he]
  · rw [if_neg he]; rfl
theorem ask_ne (t : List Int) (x : Int) : (askV t x).2 ≠ 16 := by unfold askV; split <;> simp
theorem bef_ne (t : List Int) (x y : Int) : (befV t x y).2 ≠ 16 := by unfold befV; (repeat' split) <;> simp
/-- How a command ends. -/
def RAny (Z : Nat → Prop) (m : Nat) (s0 : ByteArray) (K L t : List Int) (x : An) (W w1 : World) : Prop :=
  x.code ≠ 16 ∧ ∃ s b h2 r2 K' L' t', K'.length ≤ K.length + 1 ∧ L'.length ≤ L.length + 1 ∧ t'.length = t.length + (if x.code = 0 ∧ makes s0 then 1 else 0) ∧ MacE (ZA Z W) w1 m s b h2 r2 K' L' t'
theorem RAny.read {s0 : ByteArray} {x : An} {W w1 : World} (hM : MacM Z W m K L t) (hB : Below W.heap.size W w1) (hx : x.code ≠ 16) (hs : ¬ makes s0) : RAny Z m s0 K L t x W w1 := by
  obtain ⟨s, b, h2, r2, hE⟩ := hM.e
  refine ⟨hx, s, b, h2, r2, K, L, t, by omega, by omega, by rw [if_neg (fun q => hs q.2)]; rfl, (hE.below hB).mono fun i hi q => ?_⟩
  by_cases h : i < W.heap.size
  · exact .inl ⟨q, h⟩
  · exact .inr (by omega)
set_option maxHeartbeats 4000000 in
theorem meth_any {s0 : ByteArray} {A B : Int} {k : Nat} (hk : k < 17) (hs : wordK k = s0) {W : World} (hM : MacM Z W m K L t) (hZ : ∀ i, Z i → i ≠ 2) (iA : inH A) (iB : inH B) (hK : K.length < 2560) (hL : L.length < 2560) (ht : t.length < 1000000) :
    Calls Tryz.prog (funK k) #[.pointer (some ⟨m, 0, none⟩), cmdV s0 A B] W fun e w' => (∃ x : An, e = .returned (.agg x.cs) ∧ RAny Z m s0 K L t x W w') ∧ Only Z W w' := by
  obtain ⟨s, b, h2, r2, hE⟩ := hM.e
  rcases (by omega : k = 0 ∨ k = 1 ∨ k = 2 ∨ k = 3 ∨ k = 4 ∨ k = 5 ∨ k = 6 ∨ k = 7 ∨ k = 8 ∨ k = 9 ∨ k = 10 ∨ k = 11 ∨ k = 12 ∨ k = 13 ∨ k = 14 ∨ k = 15 ∨ k = 16) with rfl | rfl | rfl | rfl | rfl | rfl | rfl | rfl | rfl | rfl | rfl | rfl | rfl | rfl | rfl | rfl | rfl
  · have hno : ¬ makes s0 := by rw [← hs]; decide
    exact (mInsert hE hZ s0 hK iA).mono fun e w' q => by
      obtain ⟨⟨x, e1, e2, K', e3, e4⟩, hO⟩ := q
      exact ⟨⟨x, e1, e2, s, b, h2, r2, K', L, t, e3, by omega, by rw [if_neg (fun q => hno q.2)]; rfl, e4⟩, hO⟩
  · have hno : ¬ makes s0 := by rw [← hs]; decide
    exact (mDrop hE hZ s0 (by omega)).mono fun e w' q => by
      obtain ⟨⟨x, e1, e2, K', e3, e4⟩, hO⟩ := q
      exact ⟨⟨x, e1, e2, s, b, h2, r2, K', L, t, e3, by omega, by rw [if_neg (fun q => hno q.2)]; rfl, e4⟩, hO⟩
  · have hno : ¬ makes s0 := by rw [← hs]; decide
    exact (mHas hM s0).mono fun e w' q => by
      obtain ⟨⟨x, e1, e2⟩, hB⟩ := q
      exact ⟨⟨x, e1, RAny.read hM hB (by omega) hno⟩, Only.of_below hB⟩
  · have hno : ¬ makes s0 := by rw [← hs]; decide
    exact (mSize hM s0).mono fun e w' q => by
      obtain ⟨⟨x, e1, e2⟩, hB⟩ := q
      exact ⟨⟨x, e1, RAny.read hM hB (by omega) hno⟩, Only.of_below hB⟩
  · have hno : ¬ makes s0 := by rw [← hs]; decide
    exact (mKeys hM s0).mono fun e w' q => by
      obtain ⟨⟨x, e1, e2, _⟩, hB⟩ := q
      exact ⟨⟨x, e1, RAny.read hM hB (by omega) hno⟩, Only.of_below hB⟩
  · have hno : ¬ makes s0 := by rw [← hs]; decide
    exact (mFloor hM s0).mono fun e w' q => by
      obtain ⟨⟨x, e1, e2⟩, hB⟩ := q
      exact ⟨⟨x, e1, RAny.read hM hB (by omega) hno⟩, Only.of_below hB⟩
  · have hno : ¬ makes s0 := by rw [← hs]; decide
    exact (mCeil hM s0).mono fun e w' q => by
      obtain ⟨⟨x, e1, e2⟩, hB⟩ := q
      exact ⟨⟨x, e1, RAny.read hM hB (by omega) hno⟩, Only.of_below hB⟩
  · have hno : makes s0 := by rw [← hs]; decide
    rcases hp : pickV (csV (insB r2 0 0) 0 (2 ^ h2)) 0 h2 with ⟨p1, p2, p3, p4⟩
    exact (mFirst hE hZ s0 hL ht hp).mono fun e w' q => by
      obtain ⟨⟨e1, h2', r2', t', e3, e4, e5⟩, hO⟩ := q
      exact ⟨⟨_, e1, (show (0 : Int) ≠ 16 by decide), s, b, h2', r2', K, _, t', by omega, by simp, by rw [e4, if_pos ⟨rfl, hno⟩], e5⟩, hO⟩
  · have hno : makes s0 := by rw [← hs]; decide
    exact (mAfter hE hZ s0 hL ht iA).mono fun e w' q => by
      obtain ⟨⟨x, e1, e2, h2', r2', L', t', e3, e4, e5⟩, hO⟩ := q
      refine ⟨⟨x, e1, e2, s, b, h2', r2', K, L', t', by omega, e3, ?_, e5⟩, hO⟩
      rw [e4]
      by_cases hc : x.code = 0
      · rw [if_pos hc, if_pos ⟨hc, hno⟩]
      · rw [if_neg hc, if_neg (fun q => hc q.1)]
  · have hno : makes s0 := by rw [← hs]; decide
    exact (mAhead hE hZ s0 hL ht iA).mono fun e w' q => by
      obtain ⟨⟨x, e1, e2, h2', r2', L', t', e3, e4, e5⟩, hO⟩ := q
      refine ⟨⟨x, e1, e2, s, b, h2', r2', K, L', t', by omega, e3, ?_, e5⟩, hO⟩
      rw [e4]
      by_cases hc : x.code = 0
      · rw [if_pos hc, if_pos ⟨hc, hno⟩]
      · rw [if_neg hc, if_neg (fun q => hc q.1)]
  · have hno : ¬ makes s0 := by rw [← hs]; decide
    exact (mRemove hE hZ s0 (by omega) iA).mono fun e w' q => by
      obtain ⟨⟨x, e1, e2, h2', r2', L', t', e3, e4, e5⟩, hO⟩ := q
      exact ⟨⟨x, e1, e2, s, b, h2', r2', K, L', t', by omega, by omega, by rw [if_neg (fun q => hno q.2)]; omega, e5⟩, hO⟩
  · have hno : ¬ makes s0 := by rw [← hs]; decide
    exact (mBefore hM s0 iA iB).mono fun e w' q => ⟨⟨_, q.1, RAny.read hM q.2 (by rw [or_code _ rfl]; exact bef_ne _ _ _) hno⟩, Only.of_below q.2⟩
  · have hno : ¬ makes s0 := by rw [← hs]; decide
    exact (mLabel hM s0 iA).mono fun e w' q => ⟨⟨_, q.1, RAny.read hM q.2 (by rw [or_code _ rfl]; exact ask_ne _ _) hno⟩, Only.of_below q.2⟩
  · have hno : ¬ makes s0 := by rw [← hs]; decide
    exact (mHandles hM s0).mono fun e w' q => by
      obtain ⟨⟨x, e1, e2, _⟩, hB⟩ := q
      exact ⟨⟨x, e1, RAny.read hM hB (by omega) hno⟩, Only.of_below hB⟩
  · have hno : ¬ makes s0 := by rw [← hs]; decide
    exact (mRank hM s0).mono fun e w' q => by
      obtain ⟨⟨x, e1, e2⟩, hB⟩ := q
      exact ⟨⟨x, e1, RAny.read hM hB (by omega) hno⟩, Only.of_below hB⟩
  · have hno : ¬ makes s0 := by rw [← hs]; decide
    exact (mPick hM s0).mono fun e w' q => by
      obtain ⟨⟨x, e1, e2⟩, hB⟩ := q
      exact ⟨⟨x, e1, RAny.read hM hB (by omega) hno⟩, Only.of_below hB⟩
  · have hno : ¬ makes s0 := by rw [← hs]; decide
    exact (mCount hM s0).mono fun e w' q => by
      obtain ⟨⟨x, e1, e2⟩, hB⟩ := q
      exact ⟨⟨x, e1, RAny.read hM hB (by omega) hno⟩, Only.of_below hB⟩
set_option maxHeartbeats 4000000 in
/-- Do at any command. -/
theorem Do_any {s : ByteArray} {A B : Int} (hM : MacM Z w m K L t) (hZ : ∀ i, Z i → i ≠ 2) (hs : s.size ≤ 40) (iA : inH A) (iB : inH B) (hT : Tab10 w) (hK : K.length < 2560) (hL : L.length < 2560) (ht : t.length < 1000000) :
    Calls Tryz.prog 6 #[.pointer (some ⟨m, 0, none⟩), cmdV s A B] w fun e w' => (∃ x : An, e = .returned (.agg x.cs) ∧ x.code ≠ 16 ∧ ∃ K' L' t', K'.length ≤ K.length + 1 ∧ L'.length ≤ L.length + 1 ∧ t'.length = t.length + (if x.code = 0 ∧ makes s then 1 else 0) ∧ MacM (ZA Z w) w' m K' L' t') ∧ Only Z w w' := by
  have h2 : 2 < w.heap.size := hM.tab.pos
  by_cases hok : ∃ k, okW s A B k
  · obtain ⟨k, hok⟩ := hok
    refine (Do_word (R := RAny (fun i => Z i ∧ i < w.heap.size) m s K L t) hok hs iA iB hT (by omega) (Zc := fun i => Z i ∧ i < w.heap.size) (fun i q => q.2) (fun W hB hsz => ?_)).mono ?_
    · exact meth_any hok.1 hok.2.1 ((hM.mono fun i hi q => ⟨q, hi⟩).below hB) (fun i q => hZ i q.1) iA iB hK hL ht
    · rintro e w' ⟨x, W, w1, rfl, ⟨r1, s', b, h2', r2, K', L', t', r2', r3, r4, r5⟩, hB, hsz, hO1, hO2⟩
      have hf := mac_end r5 hB hO1 (hO2.mono fun i _ q => ⟨by omega, by omega⟩) h2
      exact ⟨⟨x, rfl, r1, K', L', t', r2', r3, r4, hf.1.mac⟩, hf.2⟩
  · refine (Do_no hs iA iB hT (by omega) hok).mono ?_
    rintro e w' ⟨⟨code, rfl, hc⟩, hB⟩
    have hc' : (anE code).code = code := rfl
    refine ⟨⟨anE code, rfl, by rw [hc']; omega, K, L, t, by omega, by omega, ?_, (hM.below hB).mono fun i hi q => ?_⟩, Only.of_below hB⟩
    · rw [if_neg (fun q => by rw [hc'] at q; omega)]; rfl
    · by_cases h : i < w.heap.size
      · exact .inl ⟨q, h⟩
      · exact .inr (by omega)
/-- Do at a command that only asks. -/
theorem Do_read {s : ByteArray} {A B : Int} {k : Nat} {R : An → World → World → Prop} (hok : okW s A B k) (hs : s.size ≤ 40) (iA : inH A) (iB : inH B) (hT : Tab10 w) (h1 : 1 < w.heap.size)
    (hmeth : ∀ W, Below w.heap.size w W → w.heap.size + 2 ≤ W.heap.size → Calls Tryz.prog (funK k) #[.pointer (some ⟨m, 0, none⟩), cmdV s A B] W fun e w' => (∃ x : An, e = .returned (.agg x.cs) ∧ R x W w') ∧ Below W.heap.size W w') :
    Calls Tryz.prog 6 #[.pointer (some ⟨m, 0, none⟩), cmdV s A B] w fun e w' => (∃ (x : An) (W w1 : World), e = .returned (.agg x.cs) ∧ R x W w1 ∧ w.heap.size + 2 ≤ W.heap.size ∧ Only (fun i => i = w.heap.size + 1) w1 w') ∧ Below w.heap.size w w' := by
  refine (Do_word hok hs iA iB hT h1 (Zc := fun _ => False) (fun i q => q.elim) (fun W hB hsz => (hmeth W hB hsz).mono fun e w' q => ⟨q.1, Only.of_below q.2⟩)).mono ?_
  rintro e w' ⟨x, W, w1, rfl, r, hB, hsz, hO1, hO2⟩
  exact ⟨⟨x, W, w1, rfl, r, hsz, hO2⟩, Only.below (Only.below hB hO1 hB.size (fun i q => q.elim)) hO2 (by have := hB.size; have := hO1.size; omega) (fun i q => by omega)⟩
theorem inH0 : inH 0 := by unfold inH; omega
theorem RI.only_ {X : Nat → Prop} {A : Option Addr} {xs : List Int} (h : RI w A xs) (ho : Only X w w') (hX : ∀ a, A = some a → ¬ X a.block) : RI w' A xs := by
  intro hx
  obtain ⟨b, off, rfl, hr⟩ := h hx
  refine ⟨b, off, rfl, fun k hk => ?_⟩
  have h1 := hr k hk
  have hlt : b < w.heap.size := World.block_lt_of_cell? w ⟨b, off + k, none⟩ h1
  have h2 := ho.block b hlt (hX _ rfl)
  rw [show w'.cell? ⟨b, off + k, none⟩ = w.cell? ⟨b, off + k, none⟩ by simp only [World.cell?, h2]]
  exact h1
theorem Do_label {A : Int} (hM : MacM Z w m K L t) (iA : inH A) (hT : Tab10 w) :
    Calls Tryz.prog 6 #[.pointer (some ⟨m, 0, none⟩), cmdV (wordK 12) A 0] w fun e w' => e = .returned (.agg ((An.mk 0 (askV t A).1 false 0 0 0 0 none 0 0).or (askV t A).2).cs) ∧ Below w.heap.size w w' := by
  refine (Do_read (k := 12) (R := fun x _ _ => x = (An.mk 0 (askV t A).1 false 0 0 0 0 none 0 0).or (askV t A).2) ⟨by decide, rfl, fun q => absurd q (by decide), fun _ => rfl⟩ (by decide) iA inH0 hT (by have := hM.tab.pos; omega) (fun W hB hsz => ?_)).mono ?_
  · exact (mLabel (hM.below hB) _ iA).mono fun e w' q => ⟨⟨_, q.1, rfl⟩, q.2⟩
  · rintro e w' ⟨⟨x, W, w1, rfl, rfl, _, _⟩, hB⟩
    exact ⟨rfl, hB⟩
theorem Do_before {A B : Int} (hM : MacM Z w m K L t) (iA : inH A) (iB : inH B) (hT : Tab10 w) :
    Calls Tryz.prog 6 #[.pointer (some ⟨m, 0, none⟩), cmdV (wordK 11) A B] w fun e w' => e = .returned (.agg ((An.mk 0 0 (befV t A B).1 0 0 0 0 none 0 0).or (befV t A B).2).cs) ∧ Below w.heap.size w w' := by
  refine (Do_read (k := 11) (R := fun x _ _ => x = (An.mk 0 0 (befV t A B).1 0 0 0 0 none 0 0).or (befV t A B).2) ⟨by decide, rfl, fun q => absurd q (by decide), fun q => absurd q (by decide)⟩ (by decide) iA iB hT (by have := hM.tab.pos; omega) (fun W hB hsz => ?_)).mono ?_
  · exact (mBefore (hM.below hB) _ iA iB).mono fun e w' q => ⟨⟨_, q.1, rfl⟩, q.2⟩
  · rintro e w' ⟨⟨x, W, w1, rfl, rfl, _, _⟩, hB⟩
    exact ⟨rfl, hB⟩
theorem Do_handles (hM : MacM Z w m K L t) (hT : Tab10 w) :
    Calls Tryz.prog 6 #[.pointer (some ⟨m, 0, none⟩), cmdV (wordK 13) 0 0] w fun e w' => (∃ x : An, e = .returned (.agg x.cs) ∧ x.code = 0 ∧ x.len = L.length ∧ RI w' x.A L ∧ ∀ a, x.A = some a → w.heap.size ≤ a.block) ∧ Below w.heap.size w w' := by
  refine (Do_read (k := 13) (R := fun x W w1 => x.code = 0 ∧ x.len = L.length ∧ RI w1 x.A L ∧ ∀ a, x.A = some a → W.heap.size ≤ a.block) ⟨by decide, rfl, fun _ => rfl, fun _ => rfl⟩ (by decide) inH0 inH0 hT (by have := hM.tab.pos; omega) (fun W hB hsz => ?_)).mono ?_
  · exact mHandlesB (hM.below hB) _
  · rintro e w' ⟨⟨x, W, w1, rfl, ⟨r1, r2, r3, r4⟩, hsz, ho⟩, hB⟩
    exact ⟨⟨x, rfl, r1, r2, r3.only_ ho (fun a ha q => by have := r4 a ha; omega), fun a ha => by have := r4 a ha; omega⟩, hB⟩
theorem Do_keys (hM : MacM Z w m K L t) (hT : Tab10 w) :
    Calls Tryz.prog 6 #[.pointer (some ⟨m, 0, none⟩), cmdV (wordK 4) 0 0] w fun e w' => (∃ x : An, e = .returned (.agg x.cs) ∧ x.code = 0 ∧ x.len = K.length ∧ RI w' x.A K ∧ ∀ a, x.A = some a → w.heap.size ≤ a.block) ∧ Below w.heap.size w w' := by
  refine (Do_read (k := 4) (R := fun x W w1 => x.code = 0 ∧ x.len = K.length ∧ RI w1 x.A K ∧ ∀ a, x.A = some a → W.heap.size ≤ a.block) ⟨by decide, rfl, fun _ => rfl, fun _ => rfl⟩ (by decide) inH0 inH0 hT (by have := hM.tab.pos; omega) (fun W hB hsz => ?_)).mono ?_
  · exact mKeysB (hM.below hB) _
  · rintro e w' ⟨⟨x, W, w1, rfl, ⟨r1, r2, r3, r4⟩, hsz, ho⟩, hB⟩
    exact ⟨⟨x, rfl, r1, r2, r3.only_ ho (fun a ha q => by have := r4 a ha; omega), fun a ha => by have := r4 a ha; omega⟩, hB⟩
end
end Go.Proofs.YtaonkbfekadalaaGreatDoor
/- Of the machine at the top: New, Rising, what the commands read as, a row of truths, what the handles' table says. -/
namespace Go.Proofs.YtaonkbfekadalaaGreatDoor
open Go.RowKit
set_option linter.unusedVariables false

section
variable {w w' : World} {Z : Nat → Prop} {m : Nat} {K L t : List Int}
set_option maxRecDepth 100000 in
theorem NewM_ok (w : World) (hT : Tab w) : Calls Tryz.prog 5 #[] w fun e w' => (∃ m, e = .returned (.pointer (some ⟨m, 0, none⟩)) ∧ MacM (fun i => w.heap.size ≤ i) w' m [] [] []) ∧ Below w.heap.size w w' := by
  have h1 := SNewS_ok w hT
  go_enter Tryz.func5, Tryz.ntmps5
  go_wp2_with fail
  refine h1.mono ?_
  rintro e w1 ⟨s, P, rfl, q1, q2, hB1⟩
  have h2 := LNew_ok w1 (hT.below hB1)
  have HQ := Lib.hid (And.intro q1 q2)
  clear q1 q2
  go_wp2_with fail
  refine h2.mono ?_
  rintro e w2 ⟨b, Q, rfl, q3, q4, hB2⟩
  have HR := Lib.hid (And.intro q3 q4)
  clear q3 q4
  go_wp2_with fail
  go_ret
  obtain ⟨q1, q2⟩ := HQ.out
  obtain ⟨q3, q4⟩ := HR.out
  have q1' := q1.below hB2
  have hb := Blk.made w2 58 #[.pointer (some ⟨s, 0, none⟩), .pointer (some ⟨b.lb, 0, none⟩)]
  have hBa : Below w2.heap.size w2 (w2.alloc (.cells #[.pointer (some ⟨s, 0, none⟩), .pointer (some ⟨b.lb, 0, none⟩)] 58)) := (Below.refl _ _).alloc (Nat.le_refl _) _
  have s1 := hB1.size
  have s2 := hB2.size
  refine ⟨⟨w2.heap.size, rfl, s, P, 2, _, _, b, Q, 2, _, _, hb, q1'.below hBa, q3.below hBa, ?_, ?_, ?_⟩, (hB1.trans (hB2.mono s1)).alloc (by omega) _⟩
  · intro i hi hj
    have := setB'.lt q1 hi
    have := q4 i hj
    omega
  · rintro i (hi | hi)
    · have := setB'.lt q1 hi; omega
    · have := q3.lt hi; omega
  · rintro i (hi | hi | rfl)
    · exact q2 i hi
    · have := q4 i hi; omega
    · omega
set_option maxRecDepth 100000 in
theorem Rising_ok {A : Option Addr} {c n : Nat} (hl : K.length = n) (hR : RI w A K) (hri : Rise K) (hn : n ≤ 4096) :
    Calls Tryz.prog 7 #[.slice A n c] w fun e w' => e = .returned (.bool true) ∧ Below w.heap.size w w' := by
  have HS := Lib.hid hl
  have HRI := Lib.hid hri
  clear hl hri
  go_enter Tryz.func7, Tryz.ntmps7
  go_wp2_with fail
  go_loopw [3] (fun i wr => ∃ q : Nat, 1 ≤ q ∧ i = .int .i64 q ∧ Below w.heap.size w wr) (fun i _ => n - (intOf i).toNat)
  case atStart => exact ⟨1, Nat.le_refl _, rfl, Below.refl _ _⟩
  case round =>
    obtain ⟨q, hq, rfl, hB⟩ := hrel
    by_cases hlt : q < n
    · obtain ⟨g, off, rfl, hc⟩ := (hR.below hB (Nat.le_refl _)) (by rw [HS.out]; omega)
      have hr := HRI.out (q - 1) q (by omega) (by rw [HS.out]; exact hlt)
      have c0 := hc q (by rw [HS.out]; exact hlt)
      have c1 := hc (q - 1) (by rw [HS.out]; omega)
      have j0 : (1 : Int) ≤ (q : Int) := by omega
      have j1 : (0 : Int) ≤ (q : Int) := by omega
      have j2 : (q : Int) < (n : Int) := by omega
      have n1 : IntKind.i64.wrap ((q : Int) + 1) = (q : Int) + 1 := IntWalk.i64_in _ (by omega)
      have n2 : IntKind.i64.wrap ((q : Int) - 1) = ((q - 1 : Nat) : Int) := by rw [IntWalk.i64_in _ (by omega)]; omega
      have j3 : ((q - 1 : Nat) : Int) < (n : Int) := by omega
      have j4 : (0 : Int) ≤ ((q - 1 : Nat) : Int) := by omega
      have t1 : decide (nth K q ≤ nth K (q - 1)) = false := by simp; omega
      clear hc hr
      generalize hq1 : q - 1 = q1 at *
      generalize nth K q = y at *
      generalize nth K q1 = z at *
      go_wp2_with fail
      go_quiet (fail)
      go_wp2_with fail
      go_round
      case rel => exact ⟨q + 1, by omega, by go_num, below_drewN hB _⟩
      case measure => simp [intOf]; omega
    · have t1 : ¬ ((q : Int) < (n : Int)) := by omega
      go_wp2_with fail
      go_ret
      exact ⟨rfl, hB⟩
end
/-- One command. -/
structure Cd where
  s : ByteArray
  a : Int
  b : Int
/-- The commands lie in a row at A. -/
def CI (w : World) (A : Option Addr) (cs : List Cd) : Prop :=
  0 < cs.length → ∃ b off, A = some ⟨b, off, none⟩ ∧ ∀ k c, cs[k]? = some c → w.cell? ⟨b, off + k * 3, none⟩ = some (.string c.s) ∧ w.cell? ⟨b, off + k * 3 + 1, none⟩ = some (.int .i64 c.a) ∧ w.cell? ⟨b, off + k * 3 + 2, none⟩ = some (.int .i64 c.b)
theorem cell_below {w w' : World} {B b k : Nat} {v : Value} (hb : Below B w w') (hB : w.heap.size ≤ B) (h : w.cell? ⟨b, k, none⟩ = some v) : w'.cell? ⟨b, k, none⟩ = some v := by
  have hlt : b < w.heap.size := World.block_lt_of_cell? w ⟨b, k, none⟩ h
  have h2 := hb.block b (by omega)
  rw [show w'.cell? ⟨b, k, none⟩ = w.cell? ⟨b, k, none⟩ by simp only [World.cell?, h2]]
  exact h
theorem CI.below {w w' : World} {A : Option Addr} {cs : List Cd} (h : CI w A cs) {B : Nat} (hb : Below B w w') (hB : w.heap.size ≤ B) : CI w' A cs := fun hx => by
  obtain ⟨b, off, rfl, hr⟩ := h hx
  refine ⟨b, off, rfl, fun k c hk => ?_⟩
  obtain ⟨h1, h2, h3⟩ := hr k c hk
  exact ⟨cell_below hb hB h1, cell_below hb hB h2, cell_below hb hB h3⟩
/-- What the package's variables are, as far as it is needed. -/
structure GW (w : World) : Prop where
  t2 : Tab w
  t1 : Tab10 w
  t0 : ∃ m : Int, w.cell? ⟨0, 0, none⟩ = some (.int .i64 m)
theorem GW.below {w w' : World} (h : GW w) {B : Nat} (hb : Below B w w') (hB : w.heap.size ≤ B) : GW w' := by
  have hb' := hb.mono hB
  have := h.t2.pos
  exact ⟨h.t2.below hb', h.t1.below hb' (by omega), h.t0.imp fun m q => cell_below hb' (Nat.le_refl _) q⟩
end Go.Proofs.YtaonkbfekadalaaGreatDoor
/- A row of truths; what a machine's table says of its handles. -/
namespace Go.Proofs.YtaonkbfekadalaaGreatDoor
open Go.RowKit
set_option linter.unusedVariables false

/-- Block g begins with m truths. -/
def LB (w : World) (g : Nat) (f : Nat → Bool) (m : Nat) : Prop := ∃ cs, Blk w g 4 cs ∧ ∀ k, k < m → cs[k]? = some (.bool (f k))
section
variable {w w' : World} {g m : Nat} {f : Nat → Bool}
theorem LB.cell (h : LB w g f m) {k : Nat} (hk : k < m) : w.cell? ⟨g, k, none⟩ = some (.bool (f k)) := by
  obtain ⟨cs, hb, hc⟩ := h
  rw [hb.cell, hc k hk]
theorem LB.frozen (h : LB w g f m) (k : Nat) : w.frozen? ⟨g, k, none⟩ = false := by
  obtain ⟨cs, hb, _⟩ := h
  exact hb.frozen k
theorem LB.lt (h : LB w g f m) : g < w.heap.size := by
  obtain ⟨cs, hb, _⟩ := h
  exact hb.lt
theorem LB.put (h : LB w g f m) (i : Nat) (x : Bool) : LB (w.setCell ⟨g, i, none⟩ (.bool x)) g (fun k => if k = i then x else f k) m := by
  obtain ⟨cs, hb, hc⟩ := h
  refine ⟨_, hb.put i _, fun k hk => ?_⟩
  have h1 := hc k hk
  have hlt : k < cs.size := by
    rcases Nat.lt_or_ge k cs.size with h2 | h2
    · exact h2
    · rw [Array.getElem?_eq_none h2] at h1; cases h1
  rw [Array.getElem?_setIfInBounds]
  by_cases e : i = k
  · subst e; simp [hlt]
  · rw [if_neg e, h1]
    simp only [if_neg (fun h : k = i => e h.symm)]
theorem LB.below {B : Nat} (h : LB w g f m) (hb : Below B w w') (hg : g < B) : LB w' g f m := by
  obtain ⟨cs, h1, hc⟩ := h
  exact ⟨cs, h1.below hb hg, hc⟩
theorem LB.only {X : Nat → Prop} (h : LB w g f m) (hb : Only X w w') (hg : ¬ X g) : LB w' g f m := by
  obtain ⟨cs, h1, hc⟩ := h
  exact ⟨cs, h1.only hb hg, hc⟩
theorem LB.congr {f' : Nat → Bool} (h : LB w g f m) (e : ∀ k, k < m → f k = f' k) : LB w g f' m := by
  obtain ⟨cs, h1, hc⟩ := h
  exact ⟨cs, h1, fun k hk => by rw [← e k hk]; exact hc k hk⟩
end
theorem Tryz.infoB : (Tryz.prog.info? 4).map (fun i => (i.zero, i.size, i.bytes)) = some (some (.bool false), 1, 1) := by kernel_rfl
def falses (n : Nat) : Array Value := (List.replicate n (Value.bool false)).toArray
theorem made_falses (n : Nat) : madeCells #[.bool false] (n * 1) = falses n := by
  apply Array.ext
  · simp [madeCells, falses]
  · intro i h1 h2
    simp [madeCells, falses, Nat.mod_one]
theorem make_bools (n : Nat) (hn : n ≤ 4398046511104) (W : World) :
    (Instr.makeSlice 35 (.int .i64 (n : Int)) (.int .i64 (n : Int))).run Tryz.prog W = .ok (.slice (some ⟨W.heap.size, 0, none⟩) n n) (W.alloc (.cells (falses n) 4)) := by
  obtain ⟨i0, hi, hz0, hz1, hz2⟩ := info_parts Tryz.infoB
  have h := run_make (P := Tryz.prog) W 35 4 i0 (.bool false) Tryz.underlying35 hi hz0 .i64 .i64 (n : Int) (n : Int) (by omega) (by omega) (by rw [hz2]; omega) (by omega)
  rw [h, hz1]
  simp only [Int.toNat_natCast, Value.cells, made_falses]
theorem LB.made (w : World) (n : Nat) : LB (w.alloc (.cells (falses n) 4)) w.heap.size (fun _ => false) n := ⟨_, Blk.made w 4 _, fun k hk => by simp [falses, hk]⟩
/-- What a machine's table says of its handles. -/
structure DF (t L : List Int) : Prop where
  at_ : ∀ j, j < L.length → live t (nth L j) = true ∧ 1 ≤ nth L j ∧ nth L j ≤ (t.length : Int) ∧ 0 ≤ slotV t (nth L j) ∧ slotV t (nth L j) < 4096
  ri : ∀ i j, i < j → j < L.length → slotV t (nth L i) < slotV t (nth L j)
  inj : ∀ i j, i < L.length → j < L.length → nth L i = nth L j → i = j
  all : ∀ h, live t h = true → ∃ j, j < L.length ∧ nth L j = h
section
variable {w w' : World} {Z : Nat → Prop} {m : Nat} {K L t : List Int}
theorem MacM.df (h : MacM Z w m K L t) : DF t L := by
  obtain ⟨s, P, h1, r, xs, b, Q, h2, r2, xs2, e1, e2, e3, e4, e5, e6⟩ := h
  have hag := e3.ag
  have hlen := e3.len
  have bd := e3.rp.pm.hh
  have hb := capN_bd bd.1 bd.2
  have hps : ∀ j, j < L.length → ∃ s : Nat, s < capN h2 ∧ cnt r2 s = j ∧ on r2 s = true ∧ slotV t (nth L j) = (s : Int) := fun j hj => by
    obtain ⟨s, h3, h4, h5⟩ := cnt_slot (r := r2) (n := j) (m := capN h2) (by omega)
    exact ⟨s, h3, h5, h4, by rw [(hag.at_ j hj).2.1, ← h5, pos_nth h4]⟩
  refine ⟨fun j hj => ?_, fun i j hij hj => ?_, hag.inj, fun x hx => hag.all x hx (fun q => by cases q)⟩
  · obtain ⟨s, h3, h4, h5, h6⟩ := hps j hj
    have hl := (hag.at_ j hj).1
    obtain ⟨k, hk, hk2, hk3⟩ := live_true hl
    exact ⟨hl, by omega, by omega, by omega, by omega⟩
  · obtain ⟨s, h3, h4, h5, h6⟩ := hps i (by omega)
    obtain ⟨s', h3', h4', h5', h6'⟩ := hps j hj
    rcases Nat.lt_or_ge s s' with q | q
    · omega
    · have := cnt_mono r2 q
      omega
theorem MacM.rise (h : MacM Z w m K L t) : Rise K := by
  obtain ⟨s, P, h1, r, xs, b, Q, h2, r2, xs2, e1, e2, e3, e4, e5, e6⟩ := h
  exact e2.ri
end
end Go.Proofs.YtaonkbfekadalaaGreatDoor
/- Thirty keys put in front of each other: the set that the example looks at. -/
namespace Go.Proofs.YtaonkbfekadalaaGreatDoor
open Go.RowKit
set_option linter.unusedVariables false

section
variable {w w' : World} {P : PB} {h s : Nat} {r : List Bool} {xs L : List Int} {key : Int}
theorem SFront_ok (hm : SetM w s P h r xs L) (hN : L.length < 2560) (hk : inH key) (hlt : ∀ j, j < L.length → key < nth L j) :
    Calls Tryz.prog 9 #[.pointer (some ⟨s, 0, none⟩), .int .i64 key] w fun e w' => (∃ (P' : PB) (xs' : List Int) (a b c d : Int), e = .returned (.tuple #[.agg #[.int .i64 a, .int .i64 b, .int .i64 c, .int .i64 d], .int .i64 0]) ∧
      SetM w' s P' (stepB (insB r 0 0) 0 h).2 (stepB (insB r 0 0) 0 h).1 xs' (key :: L) ∧ (∀ i, P'.has i → P.has i ∨ w.heap.size ≤ i)) ∧ Only P.has w w' := by
  have hq : ∀ q, on r q = true → key < nth xs q := fun q ho => by
    have h1 := its_nth (xs := xs) ho
    rw [hm.rp.its] at h1
    rw [← h1]
    apply hlt
    have := cnt_lt (on_lt ho) ho
    rw [hm.rp.pm.lr] at this
    rwa [hm.len] at this
  refine (SInsert_any hm hN hk).mono ?_
  rintro e w' ⟨⟨P', h', r', xs', L', code, a, b, c, d, rfl, hs, hf, hp⟩, hO⟩
  rcases hp with ⟨rfl, rfl, rfl, rfl, q, h1, h2⟩ | ⟨rfl, _, x, sg, nx, hb, hpt, hst, rfl, _⟩
  · have := hq q h1; omega
  · rcases hpt with ⟨_, rfl, rfl⟩ | ⟨y, rfl, _, hy, _⟩
    · rw [show cnt r 0 = 0 from rfl, insI_zero] at hs
      have e1 : r' = (stepB (insB r 0 0) 0 h).1 := by rw [hst]
      have e2 : h' = (stepB (insB r 0 0) 0 h).2 := by rw [hst]
      rw [← e1, ← e2]
      exact ⟨⟨P', xs', a, b, c, d, rfl, hs, hf⟩, hO⟩
    · rcases hb with ⟨j, e1, h1, h2, _⟩ | ⟨e1, _⟩
      · have := hq j h1; omega
      · omega
end
/-- What the bits come to. -/
def insF : Nat → List Bool × Nat
  | 0 => (offs 32, 2)
  | k + 1 => stepB (insB (insF k).1 0 0) 0 (insF k).2
/-- The keys from 30 down. -/
def dn : Nat → List Int
  | 0 => []
  | k + 1 => (30 - (k : Int)) :: dn k
theorem dn_len : ∀ k : Nat, (dn k).length = k
  | 0 => rfl
  | k + 1 => by simp [dn, dn_len k]
theorem dn_lt : ∀ k j : Nat, j < k → 30 - (k : Int) < nth (dn k) j
  | 0, j, h => by omega
  | k + 1, 0, _ => by
    show 30 - ((k + 1 : Nat) : Int) < 30 - (k : Int)
    omega
  | k + 1, j + 1, h => by
    have := dn_lt k j (by omega)
    show 30 - ((k + 1 : Nat) : Int) < nth (dn k) j
    omega
set_option maxRecDepth 100000 in
theorem insF_end : (insF 30).2 = 3 := by decide +kernel
end Go.Proofs.YtaonkbfekadalaaGreatDoor
/- The audit of a row: counts that the bits say, within the bounds. -/
namespace Go.Proofs.YtaonkbfekadalaaGreatDoor
open Go.RowKit
set_option linter.unusedVariables false

/-- How many of the first k elements lie in segment q. -/
def pcn (r : List Bool) (k q : Nat) : Nat := min k (cnt r (8 * q + 8)) - min k (cnt r (8 * q))
theorem pcn_zero (r : List Bool) (q : Nat) : pcn r 0 q = 0 := by unfold pcn; omega
theorem pcn_all (r : List Bool) {k q : Nat} (hk : cnt r (8 * q + 8) ≤ k) : pcn r k q = segC r q := by
  have := cnt_mono r (show 8 * q ≤ 8 * q + 8 by omega)
  unfold pcn segC
  omega
theorem pcn_step {r : List Bool} {s : Nat} (ho : on r s = true) (q : Nat) : pcn r (cnt r s + 1) q = if q = s / 8 then pcn r (cnt r s) q + 1 else pcn r (cnt r s) q := by
  unfold pcn
  by_cases e : q = s / 8
  · subst e
    rw [if_pos rfl]
    have h1 := cnt_mono r (show 8 * (s / 8) ≤ s by omega)
    have h2 := cnt_lt (show s < 8 * (s / 8) + 8 by omega) ho
    omega
  · rw [if_neg e]
    rcases Nat.lt_or_ge q (s / 8) with h | h
    · have h1 := cnt_mono r (show 8 * q + 8 ≤ s by omega)
      have h2 := cnt_mono r (show 8 * q ≤ 8 * q + 8 by omega)
      omega
    · have h1 := cnt_lt (show s < 8 * q by omega) ho
      have h2 := cnt_mono r (show 8 * q ≤ 8 * q + 8 by omega)
      omega
section
variable {w w' : World} {b : SB} {h g c : Nat} {r : List Bool} {xs : List Int}
set_option maxRecDepth 100000 in
set_option maxHeartbeats 4000000 in
theorem ARow_ok (hs : SM w b (capN h) r xs) (hT : Tab w) (h1 : 2 ≤ h) (h2 : h ≤ 9) (hb : BI w g (csV r 0 (2 ^ h))) (hmx : Lib.maxOf (csV r 0 (2 ^ h)) ≤ 7) (hmn : 1 ≤ Lib.minOf (csV r 0 (2 ^ h))) :
    Calls Tryz.prog 90 #[.pointer (some ⟨b.s, 0, none⟩), .slice (some ⟨g, 0, none⟩) (2 ^ h) c] w fun e w' => e = .returned (.int .i64 0) ∧ Below w.heap.size w w' := by
  obtain ⟨bd1, bd2⟩ := capN_bd h1 h2
  have hcp := SCap_ok hs
  have hmay := May_ok h1 h2 w
  have hlr := hs.lr
  have e8 : capN h = 8 * 2 ^ h := rfl
  have hmk := make_ints (2 ^ h) (by omega)
  have hB0 : Below w.heap.size w (w.alloc (.cells (cells (zeros (2 ^ h))) 3)) := (Below.refl _ w).alloc (Nat.le_refl _) _
  have HG := Lib.hid (BI.of_blk (Blk.made w 3 (cells (zeros (2 ^ h)))))
  have hpl := SPlaces_ok (hs.below hB0) (hT.below hB0)
  have HS := Lib.hid hs
  have HB := Lib.hid hb
  have HMX := Lib.hid (And.intro hmx hmn)
  clear hmx hmn hs hb
  have hq : Int.tdiv ((capN h : Nat) : Int) 8 = ((2 ^ h : Nat) : Int) := by
    rw [Int.tdiv_eq_ediv_of_nonneg (by omega), e8]
    generalize 2 ^ h = m
    omega
  generalize hm : 2 ^ h = m at *
  generalize hcn : capN h = cp at *
  have HM := Lib.hid (And.intro hm hcn)
  have HE := Lib.hid e8
  have HLR := Lib.hid hlr
  have HBD := Lib.hid (And.intro bd1 bd2)
  clear hm hcn e8 hlr bd1 bd2
  generalize hW0 : w.alloc (.cells (cells (zeros m)) 3) = w0 at *
  have hm512 : m ≤ 512 := by have := HE.out; have := HBD.out; omega
  have n0 : IntKind.i64.wrap (m : Int) = (m : Int) := IntWalk.i64_in _ (by omega)
  have hw0s : w0.heap.size = w.heap.size + 1 := by rw [← hW0]; simp
  have HZ := Lib.hid hw0s
  clear hw0s
  go_enter Tryz.func90, Tryz.ntmps90
  go_wp2_with fail
  refine hcp.mono ?_
  rintro e w1 ⟨rfl, rfl⟩
  go_wp2_with fail
  refine hmay.mono ?_
  rintro e w1 ⟨rfl, rfl⟩
  go_wp2_with fail
  refine hcp.mono ?_
  rintro e w1 ⟨rfl, rfl⟩
  go_wp2_with fail
  refine hpl.mono ?_
  rintro e w1 ⟨⟨v, rfl, ho⟩, hB1⟩
  obtain ⟨A', c', rfl, hR⟩ := ho.form
  have hpl2 := pos_len r
  rw [HLR.out] at hpl2
  have hle := cnt_le r cp
  have hab0 : ∀ a, A' = some a → w.heap.size + 1 ≤ a.block := by
    rintro a rfl
    have := ho.base_le a.block (by simp [Value.ownBlock])
    have := HZ.out
    omega
  have HR := Lib.hid (And.intro hR hab0)
  clear ho hR hab0
  generalize hpn : (pos r).length = pn at *
  have HPN := Lib.hid (And.intro hpn hpl2)
  clear hpn
  have hpn2 : pn ≤ 4096 := by have := HE.out; omega
  clear hpl2 hle
  have hBw1 : Below w.heap.size w w1 := hB0.trans (hB1.mono hB0.size)
  have HG1 := Lib.hid (HG.out.below hB1 HG.out.lt)
  go_wp2_with fail
  go_loopw [23] (fun i wr => ∃ (k : Nat) (ys : List Int), k ≤ pn ∧ i = .int .i64 k ∧ ys.length = m ∧ BI wr w.heap.size ys ∧ (∀ q, q < m → nth ys q = ((pcn r k q : Nat) : Int)) ∧ RI wr A' (pos r) ∧ Below w.heap.size w wr ∧ (∀ a, A' = some a → w.heap.size + 1 ≤ a.block)) (fun i _ => pn - (intOf i).toNat)
  case atStart =>
    exact ⟨0, zeros m, Nat.zero_le _, rfl, zeros_length m, HG1.out, fun q hq => by rw [nth_zeros, pcn_zero]; rfl, HR.out.1, hBw1, HR.out.2⟩
  case round =>
    obtain ⟨k, ys, hk, rfl, hyl, hbi, hys, hr, hB, hab⟩ := hrel
    by_cases hlt : k < pn
    · obtain ⟨s, hs1, hs2, hs3⟩ := cnt_slot (r := r) (n := k) (m := cp) (by have := HPN.out.2; omega)
      obtain ⟨ga, off, rfl, hc⟩ := hr (by have := HPN.out.1; omega)
      have cs := hc k (by have := HPN.out.1; omega)
      have hns := pos_nth hs2
      rw [hs3] at hns
      rw [hns] at cs
      have hE := HE.out
      have hs8 : s / 8 < m := by omega
      have hq8 : (s : Int).tdiv 8 = ((s / 8 : Nat) : Int) := by rw [Int.tdiv_eq_ediv_of_nonneg (by omega)]; omega
      have c8 := hbi.cell (k := s / 8) (by omega)
      have f8 := hbi.frozen (s / 8)
      have v8 := hys (s / 8) hs8
      rw [v8] at c8
      have hpc : pcn r k (s / 8) ≤ 4096 := by unfold pcn; omega
      have n1 : IntKind.i64.wrap ((k : Int) + 1) = (k : Int) + 1 := IntWalk.i64_in _ (by omega)
      have n2 : IntKind.i64.wrap (((pcn r k (s / 8) : Nat) : Int) + 1) = ((pcn r k (s / 8) : Nat) : Int) + 1 := IntWalk.i64_in _ (by omega)
      have n3 : IntKind.i64.wrap ((s / 8 : Nat) : Int) = ((s / 8 : Nat) : Int) := IntWalk.i64_in _ (by omega)
      have j0 : (0 : Int) ≤ (k : Int) := by omega
      have j1 : (k : Int) < (pn : Int) := by omega
      have j2 : (0 : Int) ≤ ((s / 8 : Nat) : Int) := by omega
      have j3 : ((s / 8 : Nat) : Int) < (m : Int) := by omega
      have hga : w.heap.size + 1 ≤ ga := hab _ rfl
      have hst : ∀ q, pcn r (k + 1) q = if q = s / 8 then pcn r k q + 1 else pcn r k q := fun q => by
        have := pcn_step hs2 q
        rw [hs3] at this
        exact this
      have HS9 := Lib.hid (And.intro hyl (And.intro hbi (And.intro hys (And.intro hr (And.intro hB (And.intro hab hst))))))
      clear hyl hbi hys hr hB hab hst hc hns v8 hpc hs1 hs2 hs3 hE
      generalize hp : pcn r k (s / 8) = p at *
      generalize hs8e : s / 8 = s8 at *
      have HP := Lib.hid (And.intro hp hs8e)
      clear hp hs8e
      go_wp2_with fail
      obtain ⟨hyl, hbi, hys, hr, hB, hab, hst⟩ := HS9.out
      have hO : Only (fun i => i = w.heap.size) wr (wr.setCell ⟨w.heap.size, s8, none⟩ (.int .i64 ((p : Int) + 1))) := (Only.refl (fun i => i = w.heap.size) wr).put (p := ⟨w.heap.size, s8, none⟩) (.inl rfl) _
      refine ⟨⟨k + 1, ys.set s8 ((p : Int) + 1), by omega, by push_cast; rfl, by simpa using hyl, hbi.put s8 _, fun q hq => ?_, hr.only_ hO (by rintro a e q; cases e; simp at q; omega), hB.setCell (p := ⟨w.heap.size, s8, none⟩) (Nat.le_refl _) _, hab⟩, by simp [intOf]; omega⟩
      rw [hst q]
      obtain ⟨hp, hs8e⟩ := HP.out
      rw [hs8e] at *
      by_cases e : q = s8
      · subst e
        rw [if_pos rfl, nth_set_self _ (by omega), hp]
        push_cast; rfl
      · rw [if_neg e, nth_set_other _ (fun h => e h.symm)]
        exact hys q hq
    · obtain rfl : k = pn := by omega
      clear hlt
      have hbc : BI wr w.heap.size (csV r 0 m) := by
        obtain ⟨bl, hbl, hbc⟩ := hbi
        refine ⟨bl, hbl, fun q hq => ?_⟩
        rw [csV_len] at hq
        rw [hbc q (by omega), hys q hq, nth_csV hq, Nat.zero_add, pcn_all]
        rw [HPN.out.2]
        exact cnt_mono r (by have := HE.out; omega)
      have hb2 := HB.out.below hB HB.out.lt
      have hlc := csV_len r 0 m
      have heq := Tryz.slices_Equal_int w.heap.size 0 m m g 0 m c (csV r 0 m) (csV r 0 m) wr (by omega) (by omega) (by omega) (by omega) (fun j hj => by rw [Nat.zero_add]; exact hbc.cell hj) (fun j hj => by rw [Nat.zero_add]; exact hb2.cell hj)
      have hm1 : 1 ≤ m := by have := HE.out; have := HBD.out; omega
      have htk : (csV r 0 m).take m = csV r 0 m := List.take_of_length_le (by omega)
      have hmxc := fun (W : World) (hW : BI W w.heap.size (csV r 0 m)) => Tryz.slices_Max_int w.heap.size 0 m m (csV r 0 m) W (by omega) (by omega) (by omega) (fun j hj => by rw [Nat.zero_add]; exact hW.cell hj)
      have hmnc := fun (W : World) (hW : BI W w.heap.size (csV r 0 m)) => Tryz.slices_Min_int w.heap.size 0 m m (csV r 0 m) W (by omega) (by omega) (by omega) (fun j hj => by rw [Nat.zero_add]; exact hW.cell hj)
      rw [htk] at heq hmxc hmnc
      have hself : (csV r 0 m == csV r 0 m) = true := by simp
      rw [hself] at heq
      have mx := HMX.out.1
      have mn := HMX.out.2
      have HB9 := Lib.hid (And.intro hB hbc)
      have HCP := Lib.hid (fun (W : World) (hW : Below w.heap.size w W) => SCap_ok (HS.out.below hW))
      clear hbi hys hr hB hab hyl hbc hb2 hself hcp hmay hpl hB0 hB1 hBw1 htk
      generalize hmxe : Lib.maxOf (csV r 0 m) = vx at *
      generalize hmne : Lib.minOf (csV r 0 m) = vn at *
      have t1 : ¬ ((7 : Int) < vx) := by omega
      have t2 : ¬ (vn < (1 : Int)) := by omega
      clear hmxe hmne
      go_wp2_with fail
      refine heq.mono ?_
      rintro e w2 ⟨rfl, qn, rfl⟩
      have hx := hmxc _ (HB9.out.2.drewN qn)
      have hx2 := hmnc _ (HB9.out.2.drewN qn)
      have hx3 := HCP.out _ (below_drewN HB9.out.1 qn)
      have hB9 := below_drewN HB9.out.1 qn
      clear hmxc hmnc heq
      generalize wr.drewN qn = W9 at *
      go_wp2_with fail
      refine hx.mono ?_
      rintro e w2 ⟨rfl, rfl⟩
      go_wp2_with fail
      refine hx3.mono ?_
      rintro e w2 ⟨rfl, rfl⟩
      by_cases hc32 : 32 < cp
      · have k32 : (32 : Int) < (cp : Int) := by omega
        go_wp2_with fail
        refine hx2.mono ?_
        rintro e w2 ⟨rfl, rfl⟩
        go_wp2_with fail
        go_ret
        exact ⟨rfl, hB9⟩
      · have k32 : ¬ ((32 : Int) < (cp : Int)) := by omega
        go_wp2_with fail
        go_ret
        exact ⟨rfl, hB9⟩
end
end Go.Proofs.YtaonkbfekadalaaGreatDoor
