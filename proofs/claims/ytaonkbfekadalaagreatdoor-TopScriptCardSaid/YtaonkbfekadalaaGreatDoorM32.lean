/- Joined texts: Sd, Se. -/
import Derived.Test.YtaonkbfekadalaaGreatDoorM31
/- Lists that rise; a set in memory; what Insert and Delete of a set come to. -/
namespace Go.Proofs.YtaonkbfekadalaaGreatDoor
open Go.RowKit
set_option linter.unusedVariables false

/-- The numbers of a list rise. -/
def Rise (L : List Int) : Prop := ∀ i j, i < j → j < L.length → nth L i < nth L j
theorem Rise.nil : Rise [] := fun i j _ h => by simp at h
theorem Rise.sorted {r : List Bool} {xs L : List Int} (h : Rise L) (e : its r xs = L) : Sorted r xs := fun i j hij hi hj => by
  subst e
  rw [← its_nth hi, ← its_nth hj]
  have h1 := cnt_lt hij hi
  exact h _ _ h1 (by rw [its_len]; exact cnt_lt (on_lt hj) hj)
theorem Rise.ins {L : List Int} {c : Nat} {x : Int} (h : Rise L) (hc : c ≤ L.length) (hl : ∀ i, i < c → nth L i < x) (hg : ∀ i, c ≤ i → i < L.length → x < nth L i) : Rise (insI L c x) := fun i j hij hj => by
  rw [insI_len hc] at hj
  rw [nth_insI hc, nth_insI hc]
  by_cases h1 : j < c
  · rw [if_pos h1, if_pos (by omega)]; exact h i j hij (by omega)
  · rw [if_neg h1]
    by_cases h2 : j = c
    · rw [if_pos h2, if_pos (by omega)]; exact hl i (by omega)
    · rw [if_neg h2]
      by_cases h3 : i < c
      · rw [if_pos h3]; exact h i (j - 1) (by omega) (by omega)
      · rw [if_neg h3]
        by_cases h4 : i = c
        · rw [if_pos h4]; exact hg (j - 1) (by omega) (by omega)
        · rw [if_neg h4]; exact h (i - 1) (j - 1) (by omega) (by omega)
theorem Rise.erase {L : List Int} {c : Nat} (h : Rise L) : Rise (L.eraseIdx c) := fun i j hij hj => by
  rw [nth_erase, nth_erase]
  by_cases hc : c < L.length
  · rw [List.length_eraseIdx, if_pos hc] at hj
    split <;> split
    · exact h _ _ hij (by omega)
    · exact h _ _ (by omega) (by omega)
    · omega
    · exact h _ _ (by omega) (by omega)
  · rw [List.length_eraseIdx, if_neg hc] at hj
    rw [if_pos (by omega), if_pos (by omega)]
    exact h _ _ hij hj
theorem insI_zero (L : List Int) (x : Int) : insI L 0 x = x :: L := by simp [insI]

/-- Where a key is put that is not there: which segment is touched, and from which slot on there is room. -/
def PutAt (r : List Bool) (a : Int) (sg nx : Nat) : Prop := (a = -1 ∧ sg = 0 ∧ nx = 0) ∨ (∃ b : Nat, a = b ∧ sg = b / 8 ∧ on r b = true ∧ nx = b + 1)
theorem IsBefore.putAt {r : List Bool} {xs : List Int} {key a : Int} {h : Nat} (hb : IsBefore r xs key a) (hl : r.length = capN h) : ∃ sg nx, PutAt r a sg nx ∧ sg < 2 ^ h := by
  rcases hb with ⟨j, rfl, ho, _⟩ | ⟨rfl, _⟩
  · exact ⟨j / 8, j + 1, .inr ⟨j, rfl, rfl, ho, rfl⟩, by have := on_lt ho; unfold capN at hl; omega⟩
  · exact ⟨0, 0, .inl ⟨rfl, rfl, rfl⟩, Nat.pos_of_ne_zero (by have := Nat.one_le_two_pow (n := h); omega)⟩
theorem IsBefore.rise {r : List Bool} {xs L : List Int} {key a : Int} {sg nx : Nat} (hb : IsBefore r xs key a) (hp : PutAt r a sg nx) (hL : its r xs = L) (hR : Rise L) (hno : ∀ q, on r q = true → nth xs q ≠ key) : cnt r nx ≤ L.length ∧ Rise (insI L (cnt r nx) key) := by
  have hS := hR.sorted hL
  have hnx : nx ≤ r.length := by
    rcases hp with ⟨_, _, rfl⟩ | ⟨b, _, _, ho, rfl⟩
    · omega
    · exact on_lt ho
  have hle : cnt r nx ≤ L.length := by rw [← hL, its_len]; exact cnt_mono r hnx
  have low : ∀ q, q < nx → on r q = true → nth xs q < key := by
    intro q hq ho
    rcases hb with ⟨j, rfl, hj, hk, _⟩ | ⟨rfl, _⟩
    · have e : nx = j + 1 := by
        rcases hp with ⟨e, _, _⟩ | ⟨b, e, _, _, rfl⟩
        · omega
        · omega
      by_cases c : q = j
      · rw [c]; exact hk
      · have := hS q j (by omega) ho hj; omega
    · rcases hp with ⟨_, _, rfl⟩ | ⟨b, e, _⟩
      · omega
      · omega
  have high : ∀ q, nx ≤ q → on r q = true → key < nth xs q := by
    intro q hq ho
    have hne := hno q ho
    rcases hb with ⟨j, rfl, hj, hk, hh⟩ | ⟨rfl, hh⟩
    · have e : nx = j + 1 := by
        rcases hp with ⟨e, _, _⟩ | ⟨b, e, _, _, rfl⟩
        · omega
        · omega
      have := hh q (by omega) ho; omega
    · have := hh q ho; omega
  refine ⟨hle, hR.ins hle ?_ ?_⟩
  · intro i hi
    obtain ⟨s, s1, s2, s3⟩ := cnt_slot hi
    rw [← hL, ← s3, its_nth s2]
    exact low s s1 s2
  · intro i hi hl
    rw [← hL, its_len] at hl
    obtain ⟨s, s1, s2, s3⟩ := cnt_slot hl
    rw [← hL, ← s3, its_nth s2]
    refine high s ?_ s2
    by_cases c : s < nx
    · have := cnt_lt c s2; omega
    · omega

section
variable {w w' : World} {P : PB} {h : Nat} {r : List Bool} {xs L : List Int} {key : Int} {s : Nat}
/-- A set lies there: of the keys L, that rise. -/
structure SetM (w : World) (s : Nat) (P : PB) (h : Nat) (r : List Bool) (xs L : List Int) : Prop where
  st : ST w s P
  rp : RP w P none h r xs [] L none 0
  ri : Rise L
  de : Dense r h
theorem mv_none (i : Nat) : P.mv none i ↔ P.has i := ⟨fun q => q.resolve_right id, .inl⟩
theorem RP.only {X : Nat → Prop} {pd : Option Int} {T : Nat} {t : List Int} (hp : RP w P none h r xs t L pd T) (ho : Only X w w') (h1 : ∀ i, P.has i → ¬ X i) (h2 : ∀ i, X i → i ≠ 2) : RP w' P none h r xs t L pd T :=
  ⟨hp.pm.only ho h1, trivial, hp.hT.only ho h2, hp.its, hp.ag, hp.tl⟩
theorem SetM.below (hm : SetM w s P h r xs L) (hb : Below w.heap.size w w') : SetM w' s P h r xs L := ⟨hm.st.below hb hm.st.lt, hm.rp.below hb, hm.ri, hm.de⟩
theorem SetM.so (hm : SetM w s P h r xs L) : Sorted r xs := hm.ri.sorted hm.rp.its
theorem SetM.len (hm : SetM w s P h r xs L) : cnt r (capN h) = L.length := by rw [← hm.rp.its, its_len, hm.rp.pm.lr]
theorem SetM.only {X : Nat → Prop} (hm : SetM w s P h r xs L) (ho : Only X w w') (h0 : ¬ X s) (h1 : ∀ i, P.has i → ¬ X i) (h2 : ∀ i, X i → i ≠ 2) : SetM w' s P h r xs L := ⟨Blk.only hm.st ho h0, hm.rp.only ho h1 h2, hm.ri, hm.de⟩
/-- The blocks of a set. -/
def setB' (s : Nat) (P : PB) (i : Nat) : Prop := i = s ∨ P.has i
theorem SetM.ns (hm : SetM w s P h r xs L) : ¬ P.has s := by
  obtain ⟨t, ht⟩ := hm.rp.pm.tm
  rintro ((q | q | q | q) | q | q | q)
  · exact Blk.ne_ hm.st hm.rp.pm.sm.hs (by decide) q
  · exact (hm.rp.pm.sm.hx.ne_ hm.st (by decide)) q.symm
  · exact Blk.ne_ hm.st hm.rp.pm.sm.hb.hp (by decide) q
  · obtain ⟨cs, h1, _⟩ := hm.rp.pm.sm.hb.hg
    exact Blk.ne_ hm.st h1 (by decide) q
  · exact Blk.ne_ hm.st hm.rp.pm.pw (by decide) q
  · exact Blk.ne_ hm.st ht.hp (by decide) q
  · exact ht.hg.ne_ hm.st (by decide) q.symm

theorem PInsert_set {r' : List Bool} {h' sg nx : Nat} {bh x : Int} (hp : RP w P none h r xs [] L none 0) (hd : Dense r h) (hN : L.length < 2560) (hsg : sg < 2 ^ h) (hb : PutAt r bh sg nx) (hx : inH x) (hst : stepB (insB r sg nx) sg h = (r', h')) :
    Calls Tryz.prog 24 #[.pointer (some ⟨P.pp, 0, none⟩), .int .i64 bh, .int .i64 x] w fun e w' =>
      (∃ sl a b c d, e = .returned (.tuple #[.int .i64 sl, .agg #[.int .i64 a, .int .i64 b, .int .i64 c, .int .i64 d], .int .i64 0])) ∧
      (∃ (P' : PB) (xs' : List Int), RP w' P' none h' r' xs' [] (insI L (cnt r nx) x) none 0 ∧ P'.pp = P.pp ∧ ∀ i, P'.has i → P.has i ∨ w.heap.size ≤ i) ∧ Only P.has w w' ∧ Dense r' h' := by
  have hN' : cnt r (capN h) < 2560 := by rw [← hp.pm.lr, ← its_len r xs, hp.its]; exact hN
  refine (PInsert_ok hp hd hN' hsg hb hx (fun b q => by cases q)).mono ?_
  rintro e w' ⟨⟨sl, rfl⟩, ⟨P', xs', t', h1, h2, h3⟩, hO, hD⟩
  rw [hst] at h1 hD
  have ht : t' = [] := List.eq_nil_of_length_eq_zero h1.tl
  subst ht
  exact ⟨⟨sl, _, _, _, _, rfl⟩, ⟨P', xs', h1, h2, h3⟩, hO.mono fun i _ q => (mv_none i).1 q, hD⟩
theorem atBeforeM (hm : SetM w s P h r xs L) (key : Int) :
    Calls Tryz.prog 22 #[.pointer (some ⟨s, 0, none⟩), .func (.func 25) #[] #[], .int .i64 key] w fun e w' => (∃ a, e = .returned (.int .i64 a) ∧ IsBefore r xs key a) ∧ SetM w' s P h r xs L ∧ Below w.heap.size w w' :=
  (atBefore_ok hm.st hm.rp.pm hm.rp.hT hm.so key).mono fun e w' q => ⟨q.1, hm.below q.2, q.2⟩
theorem SetM.d0 (hm : SetM w s P h r xs L) : w.cell? ⟨s, 0, none⟩ = some (.pointer (some ⟨P.pp, 0, none⟩)) := by rw [Blk.cell hm.st]; rfl
theorem ST.d0 (hm : ST w s P) : w.cell? ⟨s, 0, none⟩ = some (.pointer (some ⟨P.pp, 0, none⟩)) := by rw [Blk.cell hm]; rfl
theorem ST.alloc (hm : ST w s P) (o : Obj) : ST (w.alloc o) s P := Blk.alloc hm o
theorem ST.only {X : Nat → Prop} (hm : ST w s P) (ho : Only X w w') (h0 : ¬ X s) : ST w' s P := Blk.only hm ho h0
theorem ST.put4 {g : Nat} (hm : ST w s P) (hg : s ≠ g) (a b c d : Value) : ST ((((w.setCell ⟨g, 0, none⟩ a).setCell ⟨g, 1, none⟩ b).setCell ⟨g, 2, none⟩ c).setCell ⟨g, 3, none⟩ d) s P :=
  Blk.far (p := ⟨g, 3, none⟩) (Blk.far (p := ⟨g, 2, none⟩) (Blk.far (p := ⟨g, 1, none⟩) (Blk.far (p := ⟨g, 0, none⟩) hm hg _) hg _) hg _) hg _
/-- What an Insert comes to. -/
def InsPost (r : List Bool) (xs L : List Int) (h : Nat) (key : Int) (code : Int) (r' : List Bool) (h' : Nat) (L' : List Int) : Prop :=
  (code = 15 ∧ r' = r ∧ h' = h ∧ L' = L ∧ ∃ q, on r q = true ∧ nth xs q = key) ∨
  (code = 0 ∧ (∀ q, on r q = true → nth xs q ≠ key) ∧ ∃ a sg nx, IsBefore r xs key a ∧ PutAt r a sg nx ∧ stepB (insB r sg nx) sg h = (r', h') ∧ L' = insI L (cnt r nx) key ∧ L'.length = L.length + 1)
theorem RP.beside {P' : PB} {w0 : World} {h' : Nat} {r' : List Bool} {xs' L' : List Int} {g : Nat} (hp : RP w0 P' none h' r' xs' [] L' none 0) (hg : ¬ P'.has g) (h2 : g ≠ 2) (hO : Only (fun i => i = g) w0 w') : RP w' P' none h' r' xs' [] L' none 0 :=
  hp.only hO (fun i hi e => hg (e ▸ hi)) (fun i e => e ▸ h2)
/-- How a change of a set ends. -/
theorem ins_close {w2 w3 W6 : World} {P' : PB} {h' : Nat} {r' : List Bool} {xs' L' : List Int} (hst : ST w s P) (hslt : s < w.heap.size) (hBw : Below w.heap.size w w2) (hO3 : Only P.has w2 w3) (hns : ¬ P.has s) (hlt : ∀ i, P.has i → i < w.heap.size) (h2 : 2 < w.heap.size)
    (hp3 : RP w3 P' none h' r' xs' [] L' none 0) (hpp : P'.pp = P.pp) (hf3 : ∀ i, P'.has i → P.has i ∨ w2.heap.size ≤ i) (hR : Rise L') (hD : Dense r' h') (hO5 : Only (fun i => w.heap.size ≤ i ∧ i < w2.heap.size) w3 W6) :
    SetM W6 s P' h' r' xs' L' ∧ (∀ i, P'.has i → P.has i ∨ w.heap.size ≤ i) ∧ Only P.has w W6 := by
  have hs2 := hBw.size
  have st3 : ST w3 s P := (Blk.below hst hBw hslt).only hO3 hns
  refine ⟨⟨?_, ?_, hR, hD⟩, ?_, ?_⟩
  · have := Blk.only st3 hO5 (by rintro ⟨q, _⟩; omega)
    unfold ST
    rw [hpp]; exact this
  · refine hp3.only hO5 ?_ ?_
    · rintro i hi ⟨q1, q2⟩
      rcases hf3 i hi with c | c
      · have := hlt i c; omega
      · omega
    · rintro i ⟨q1, _⟩; omega
  · intro i hi
    rcases hf3 i hi with c | c
    · exact .inl c
    · exact .inr (by omega)
  · refine ((Only.of_below hBw).trans hO3).trans' hO5 ?_
    rintro i hi ⟨q, _⟩; omega
theorem Blk.put4far {g g' : Nat} {t : TypeId} {cs : Array Value} (hb : Blk w g t cs) (hg : g ≠ g') (a b c d : Value) : Blk ((((w.setCell ⟨g', 0, none⟩ a).setCell ⟨g', 1, none⟩ b).setCell ⟨g', 2, none⟩ c).setCell ⟨g', 3, none⟩ d) g t cs :=
  Blk.far (p := ⟨g', 3, none⟩) (Blk.far (p := ⟨g', 2, none⟩) (Blk.far (p := ⟨g', 1, none⟩) (Blk.far (p := ⟨g', 0, none⟩) hb hg _) hg _) hg _) hg _
theorem Only.put4 {X : Nat → Prop} {g : Nat} (ho : Only X w w') (hX : X g ∨ w.heap.size ≤ g) (a b c d : Value) : Only X w ((((w'.setCell ⟨g, 0, none⟩ a).setCell ⟨g, 1, none⟩ b).setCell ⟨g, 2, none⟩ c).setCell ⟨g, 3, none⟩ d) :=
  (((ho.put (p := ⟨g, 0, none⟩) hX a).put (p := ⟨g, 1, none⟩) hX b).put (p := ⟨g, 2, none⟩) hX c).put (p := ⟨g, 3, none⟩) hX d
theorem IsBefore.post {r : List Bool} {xs L : List Int} {key a : Int} {sg nx h h' : Nat} {r' : List Bool} (hL : its r xs = L) (hR : Rise L) (ha : IsBefore r xs key a ∧ PutAt r a sg nx) (hno : ∀ q, on r q = true → nth xs q ≠ key) (hst : stepB (insB r sg nx) sg h = (r', h')) :
    Rise (insI L (cnt r nx) key) ∧ InsPost r xs L h key 0 r' h' (insI L (cnt r nx) key) := by
  obtain ⟨q1, q2⟩ := ha.1.rise ha.2 hL hR hno
  exact ⟨q2, .inr ⟨rfl, hno, a, sg, nx, ha.1, ha.2, hst, rfl, insI_len q1 key⟩⟩
set_option maxRecDepth 100000 in
set_option maxHeartbeats 8000000 in
theorem SInsert_any (hm : SetM w s P h r xs L) (hN : L.length < 2560) (hk : inH key) :
    Calls Tryz.prog 9 #[.pointer (some ⟨s, 0, none⟩), .int .i64 key] w fun e w' => (∃ (P' : PB) (h' : Nat) (r' : List Bool) (xs' L' : List Int) (code a b c d : Int), e = .returned (.tuple #[.agg #[.int .i64 a, .int .i64 b, .int .i64 c, .int .i64 d], .int .i64 code]) ∧
      SetM w' s P' h' r' xs' L' ∧ (∀ i, P'.has i → P.has i ∨ w.heap.size ≤ i) ∧ InsPost r xs L h key code r' h' L') ∧ Only P.has w w' := by
  have b0 := Blk.made w 30 #[.int .i64 0, .int .i64 0, .int .i64 0, .int .i64 0]
  have hB0 : Below w.heap.size w (w.alloc (.cells #[.int .i64 0, .int .i64 0, .int .i64 0, .int .i64 0] 30)) := (Below.refl _ w).alloc (Nat.le_refl _) _
  have hz0 : (w.alloc (.cells #[.int .i64 0, .int .i64 0, .int .i64 0, .int .i64 0] 30)).heap.size = w.heap.size + 1 := by simp
  have hm0 := hm.below hB0
  have hns := hm.ns
  have hlt : ∀ i, P.has i → i < w.heap.size := fun i hi => hm.rp.pm.lt hi
  have hslt := hm.st.lt
  have h2 := hm.rp.hT.pos
  generalize hW0 : w.alloc (.cells #[.int .i64 0, .int .i64 0, .int .i64 0, .int .i64 0] 30) = W0 at *
  have hex := atExact_ok hm0.st hm0.rp.pm hm0.rp.hT hm0.so key
  have HM := Lib.hid hm
  have HM0 := Lib.hid hm0
  have HLT := Lib.hid hlt
  have HNS := Lib.hid hns
  have HN := Lib.hid hN
  clear hm hm0 hlt hns hN
  go_enter Tryz.func9, Tryz.ntmps9
  go_wp2_with fail
  refine hex.mono ?_
  rintro e w1 ⟨⟨a, rfl, ha⟩, hB1⟩
  have b1 := b0.below hB1 b0.lt
  obtain ⟨f0, f1, f2, f3⟩ := b1.frozens
  obtain ⟨c0, c1, c2, c3⟩ := b1.four
  have hm1 := HM0.out.below hB1
  rcases ha with ⟨j, rfl, ho, he⟩ | ⟨rfl, hno⟩
  · have t1 : decide ((j : Int) < 0) = false := by simp
    have t2 : decide (0 ≤ (j : Int)) = true := by simp
    have HM1 := Lib.hid hm1
    have HO := Lib.hid (And.intro ho he)
    clear hm1 ho he
    go_wp2_with fail
    refine bodyPost_ret (results_c_t rfl _ rfl (b1.put4 _ _ _ _) Tryz.underlying30 (by kernel_rfl)) rfl ?_
    have hB := below_put4 (hB0.trans (hB1.mono hB0.size)) (Nat.le_refl w.heap.size) (.int .i64 0) (.int .i64 0) (.int .i64 0) (.int .i64 0)
    exact ⟨⟨P, h, r, xs, L, 15, 0, 0, 0, 0, rfl, HM.out.below hB, fun i hi => .inl hi, .inl ⟨rfl, rfl, rfl, rfl, j, HO.out.1, HO.out.2⟩⟩, Only.of_below hB⟩
  · have hm1' : SetM w1.drew s P h r xs L := hm1.below (below_drewN (Below.refl _ _) 1)
    have d0 : w1.cell? ⟨s, 0, none⟩ = some (.pointer (some ⟨P.pp, 0, none⟩)) := hm1.d0
    have b1' : Blk w1.drew w.heap.size 30 #[.int .i64 0, .int .i64 0, .int .i64 0, .int .i64 0] := b1
    have hsz1 : w.heap.size + 1 ≤ w1.drew.heap.size := by have := hB1.size; show _ ≤ w1.heap.size; omega
    have hBd : Below w.heap.size w w1.drew := (hB0.trans (hB1.mono hB0.size)).trans (below_drewN (Below.refl _ _) 1)
    have hAl : Below w.heap.size w (w1.alloc (.cells #[.int .i64 0, .int .i64 0, .int .i64 0, .int .i64 0] 30)).drew := below_drewN ((hB0.trans (hB1.mono hB0.size)).alloc (by have := hB1.size; omega) (.cells #[.int .i64 0, .int .i64 0, .int .i64 0, .int .i64 0] 30)) 1
    have hmA : SetM (w1.alloc (.cells #[.int .i64 0, .int .i64 0, .int .i64 0, .int .i64 0] 30)).drew s P h r xs L := (hm1.below ((Below.refl _ w1).alloc (Nat.le_refl _) (.cells #[.int .i64 0, .int .i64 0, .int .i64 0, .int .i64 0] 30))).below (below_drewN (Below.refl _ _) 1)
    have b7 : Blk (w1.alloc (.cells #[.int .i64 0, .int .i64 0, .int .i64 0, .int .i64 0] 30)).drew w1.heap.size 30 #[.int .i64 0, .int .i64 0, .int .i64 0, .int .i64 0] := Blk.made w1 30 #[.int .i64 0, .int .i64 0, .int .i64 0, .int .i64 0]
    have b1A : Blk (w1.alloc (.cells #[.int .i64 0, .int .i64 0, .int .i64 0, .int .i64 0] 30)).drew w.heap.size 30 #[.int .i64 0, .int .i64 0, .int .i64 0, .int .i64 0] := b1.alloc (.cells #[.int .i64 0, .int .i64 0, .int .i64 0, .int .i64 0] 30)
    have hszA : (w1.alloc (.cells #[.int .i64 0, .int .i64 0, .int .i64 0, .int .i64 0] 30)).drew.heap.size = w1.heap.size + 1 := World.size_alloc w1 _
    have hsz1' : w.heap.size + 1 ≤ w1.heap.size := hsz1
    have d0' := hmA.d0
    have d0d := hm1'.d0
    have n71 : s ≠ w1.heap.size := by omega
    have HMA := Lib.hid hmA
    have HNO := Lib.hid hno
    have HM1 := Lib.hid hm1'
    clear hm1 hm1' hmA hno hB1 b1
    go_wp2_with fail
    go_region_held3 (fun W => W.cell? ⟨s, 0, none⟩ = some (.pointer (some ⟨P.pp, 0, none⟩)))
      (with_reducible first | exact d0 | exact d0d | exact d0' | exact d1 | exact d2 | exact (HS2.out.alloc _).d0 | exact HS3.out.d0 | exact (HS3.out.alloc _).d0 | exact (ST.put4 HS3.out n71 _ _ _ _).d0 | exact (ST.put4 HS3.out n72 _ _ _ _).d0)
      ((first
        | (go_at_call 22
           first
             | (with_reducible refine (atBeforeM HM1.out key).mono ?_)
             | (with_reducible refine (atBeforeM HMA.out key).mono ?_)
           rintro e w2 ⟨⟨a, rfl, ha⟩, hm2, hB2⟩
           first
             | (have k2 : Blk w2 w1.heap.size 30 #[.int .i64 0, .int .i64 0, .int .i64 0, .int .i64 0] := (by with_reducible exact b7.below hB2 b7.lt); have hBw2 : Below w.heap.size w w2 := hAl.trans (hB2.mono (by omega)); have b2 := b1A.below hB2 b1A.lt)
             | (have hBw2 : Below w.heap.size w w2 := hBd.trans (hB2.mono (by omega)); have b2 := b1'.below hB2 b1'.lt)
           have d1 := hm2.d0
           have n72 : s ≠ w2.heap.size := (by have := hBw2.size; omega)
           obtain ⟨sg, nx, hpa, hsg⟩ := ha.putAt hm2.rp.pm.lr
           obtain ⟨r', h', hst⟩ : ∃ r' h', stepB (insB r sg nx) sg h = (r', h') := ⟨_, _, rfl⟩
           have HS2 := Lib.hid hm2.st
           have HST := Lib.hid hst
           have HA := Lib.hid (And.intro ha hpa)
           have HM2 := Lib.hid hm2
           clear hst ha hm2)
        | (go_at_call 24
           first
             | (with_reducible refine (PInsert_set HM2.out.rp HM2.out.de HN.out hsg hpa hk HST.out).mono ?_)
             | (with_reducible refine (PInsert_set (HM2.out.below ((Below.refl _ _).alloc (Nat.le_refl _) _)).rp HM2.out.de HN.out hsg hpa hk HST.out).mono ?_)
           rintro e w3 ⟨⟨sl, p1, p2, p3, p4, rfl⟩, ⟨P', xs', hp3, hpp, hf3⟩, hO3, hD3⟩
           have e3 : ST w3 s P := (by first | (with_reducible exact HS2.out.only hO3 HNS.out) | (with_reducible exact (HS2.out.alloc _).only hO3 HNS.out))
           first
             | (have hO3' : Only P.has w2 w3 := (by with_reducible exact hO3); have k3 := k2.only hO3' (by intro q; have := HLT.out _ q; omega))
             | (have hO3' : Only P.has (w2.alloc (.cells #[.int .i64 0, .int .i64 0, .int .i64 0, .int .i64 0] 30)) w3 := (by with_reducible exact hO3); have k3 := (Blk.made w2 30 #[.int .i64 0, .int .i64 0, .int .i64 0, .int .i64 0]).only hO3' (by intro q; have := HLT.out _ q; have := hBw2.size; omega))
             | skip
           first
             | (obtain ⟨y0, y1, y2, y3⟩ := k3.four; obtain ⟨z0, z1, z2, z3⟩ := k3.frozens)
             | skip
           have d2 := e3.d0
           have HS3 := Lib.hid e3)))
    all_goals (
      have hpost := IsBefore.post HM.out.rp.its HM.out.ri HA.out HNO.out HST.out
      have hslt2 := hBw2.size
      have hslt3 := b2.lt
      first
        | (have hO3' : Only P.has w2 w3 := (by with_reducible exact hO3)
           have hBw := hBw2
           have hw2 : w.heap.size < w2.heap.size := b2.lt)
        | (have hO3' : Only P.has (w2.alloc (.cells #[.int .i64 0, .int .i64 0, .int .i64 0, .int .i64 0] 30)) w3 := (by with_reducible exact hO3)
           have hBw := hBw2.alloc hslt2 (.cells #[.int .i64 0, .int .i64 0, .int .i64 0, .int .i64 0] 30)
           have hw2 : w.heap.size < (w2.alloc (.cells #[.int .i64 0, .int .i64 0, .int .i64 0, .int .i64 0] 30)).heap.size := (b2.alloc (.cells #[.int .i64 0, .int .i64 0, .int .i64 0, .int .i64 0] 30)).lt)
      have b3 : Blk w3 w.heap.size 30 #[.int .i64 0, .int .i64 0, .int .i64 0, .int .i64 0] := (by first | exact b2.only hO3' (fun q => by have := HLT.out _ q; omega) | exact (b2.alloc (.cells #[.int .i64 0, .int .i64 0, .int .i64 0, .int .i64 0] 30)).only hO3' (fun q => by have := HLT.out _ q; omega)))
    all_goals (
      have hX : ∀ g, w.heap.size ≤ g → g < w2.heap.size + 1 → w.heap.size ≤ g ∧ True := fun g q _ => ⟨q, trivial⟩
      first
        | (have k5 := k3.put4 (.int .i64 p1) (.int .i64 p2) (.int .i64 p3) (.int .i64 p4)
           have b5 := b3.put4far (g' := w1.heap.size) (by omega) (.int .i64 p1) (.int .i64 p2) (.int .i64 p3) (.int .i64 p4)
           have hO5 := (Only.refl (fun i => w.heap.size ≤ i ∧ i < w2.heap.size) w3).put4 (g := w1.heap.size) (.inl ⟨by omega, by have := k2.lt; omega⟩) (.int .i64 p1) (.int .i64 p2) (.int .i64 p3) (.int .i64 p4)
           generalize ((((w3.setCell ⟨w1.heap.size, 0, none⟩ (.int .i64 p1)).setCell ⟨w1.heap.size, 1, none⟩ (.int .i64 p2)).setCell ⟨w1.heap.size, 2, none⟩ (.int .i64 p3)).setCell ⟨w1.heap.size, 3, none⟩ (.int .i64 p4)) = W5 at *)
        | (have k5 := k3.put4 (.int .i64 p1) (.int .i64 p2) (.int .i64 p3) (.int .i64 p4)
           have b5 := b3.put4far (g' := w2.heap.size) (by omega) (.int .i64 p1) (.int .i64 p2) (.int .i64 p3) (.int .i64 p4)
           have hO5 := (Only.refl (fun i => w.heap.size ≤ i ∧ i < (w2.alloc (.cells #[.int .i64 0, .int .i64 0, .int .i64 0, .int .i64 0] 30)).heap.size) w3).put4 (g := w2.heap.size) (.inl ⟨by omega, by simp⟩) (.int .i64 p1) (.int .i64 p2) (.int .i64 p3) (.int .i64 p4)
           generalize ((((w3.setCell ⟨w2.heap.size, 0, none⟩ (.int .i64 p1)).setCell ⟨w2.heap.size, 1, none⟩ (.int .i64 p2)).setCell ⟨w2.heap.size, 2, none⟩ (.int .i64 p3)).setCell ⟨w2.heap.size, 3, none⟩ (.int .i64 p4)) = W5 at *)
        | (have k5 := Blk.made w3 30 #[.int .i64 p1, .int .i64 p2, .int .i64 p3, .int .i64 p4]
           have b5 := b3.alloc (.cells #[.int .i64 p1, .int .i64 p2, .int .i64 p3, .int .i64 p4] 30)
           have hO5 := (Only.refl (fun i => w.heap.size ≤ i ∧ i < w2.heap.size) w3).alloc (.cells #[.int .i64 p1, .int .i64 p2, .int .i64 p3, .int .i64 p4] 30))
      obtain ⟨y0, y1, y2, y3⟩ := k5.four
      obtain ⟨f0, f1, f2, f3⟩ := b5.frozens
      obtain ⟨c0, c1, c2, c3⟩ := b5.four
      have HPOST := Lib.hid hpost
      have HF3 := Lib.hid hf3
      have HPP := Lib.hid hpp
      have HW2 := Lib.hid hw2
      clear hpost hf3 hpp hw2)
    all_goals go_wp2_with fail
    all_goals refine bodyPost_ret (results_c_t rfl _ rfl (b5.put4 _ _ _ _) Tryz.underlying30 (by kernel_rfl)) rfl ?_
    all_goals (
      obtain ⟨q1, q2, q3⟩ := ins_close HM.out.st hslt hBw hO3' HNS.out HLT.out h2 hp3 HPP.out HF3.out HPOST.out.1 hD3 (hO5.put4 (g := w.heap.size) (.inl ⟨Nat.le_refl _, HW2.out⟩) (.int .i64 p1) (.int .i64 p2) (.int .i64 p3) (.int .i64 p4))
      exact ⟨⟨P', h', r', xs', _, 0, p1, p2, p3, p4, rfl, q1, q2, HPOST.out.2⟩, q3⟩)
end
end Go.Proofs.YtaonkbfekadalaaGreatDoor
/- What Delete, Has, key, Floor, Ceil, Keys, Len, Cap, Row and New of a set come to. -/
namespace Go.Proofs.YtaonkbfekadalaaGreatDoor
open Go.RowKit
set_option linter.unusedVariables false

section
variable {w w' : World} {P : PB} {h : Nat} {r : List Bool} {xs L : List Int} {key : Int} {s : Nat}
theorem atExactM (hm : SetM w s P h r xs L) (key : Int) :
    Calls Tryz.prog 22 #[.pointer (some ⟨s, 0, none⟩), .func (.func 23) #[] #[], .int .i64 key] w fun e w' => (∃ a, e = .returned (.int .i64 a) ∧ IsExact r xs key a) ∧ SetM w' s P h r xs L ∧ Below w.heap.size w w' :=
  (atExact_ok hm.st hm.rp.pm hm.rp.hT hm.so key).mono fun e w' q => ⟨q.1, hm.below q.2, q.2⟩
theorem atLowerM (hm : SetM w s P h r xs L) (key : Int) :
    Calls Tryz.prog 22 #[.pointer (some ⟨s, 0, none⟩), .func (.func 69) #[] #[], .int .i64 key] w fun e w' => (∃ a, e = .returned (.int .i64 a)) ∧ SetM w' s P h r xs L ∧ Below w.heap.size w w' :=
  (atLower_ok hm.st hm.rp.pm hm.rp.hT hm.so key).mono fun e w' q => ⟨by obtain ⟨⟨a, q1, _⟩, _⟩ := q; exact ⟨a, q1⟩, hm.below q.2, q.2⟩
set_option maxRecDepth 100000 in
theorem SLenS_ok (hm : SetM w s P h r xs L) : Calls Tryz.prog 16 #[.pointer (some ⟨s, 0, none⟩)] w fun e w' => e = .returned (.int .i64 (L.length : Nat)) ∧ w = w' := by
  have d0 := hm.d0
  have hl := PLen_ok hm.rp.pm
  rw [hm.rp.pm.lr, hm.len] at hl
  go_enter Tryz.func16, Tryz.ntmps16
  go_wp2_with fail
  refine hl.mono ?_
  rintro e w1 ⟨rfl, rfl⟩
  go_wp2_with fail
  go_ret
  exact ⟨rfl, rfl⟩
set_option maxRecDepth 100000 in
theorem SCapS_ok (hm : SetM w s P h r xs L) : Calls Tryz.prog 15 #[.pointer (some ⟨s, 0, none⟩)] w fun e w' => e = .returned (.int .i64 (capN h : Nat)) ∧ w = w' := by
  have d0 := hm.d0
  have hl := PCap_ok hm.rp.pm
  generalize capN h = c at *
  go_enter Tryz.func15, Tryz.ntmps15
  go_wp2_with fail
  refine hl.mono ?_
  rintro e w1 ⟨rfl, rfl⟩
  go_wp2_with fail
  go_ret
  exact ⟨rfl, rfl⟩
set_option maxRecDepth 100000 in
theorem SKeys_ok (hm : SetM w s P h r xs L) : Calls Tryz.prog 11 #[.pointer (some ⟨s, 0, none⟩)] w fun e w' => (∃ v, e = .returned v ∧ OL w' w.heap.size v L) ∧ Below w.heap.size w w' := by
  have d0 := hm.d0
  have hl := PItems_ok hm.rp.pm hm.rp.hT
  rw [hm.rp.its] at hl
  go_enter Tryz.func11, Tryz.ntmps11
  go_wp2_with fail
  refine hl.mono ?_
  rintro e w1 ⟨⟨v, rfl, ho⟩, hB⟩
  go_wp2_with fail
  go_ret
  exact ⟨⟨v, rfl, ho⟩, hB⟩
set_option maxRecDepth 100000 in
theorem SRow_ok (hm : SetM w s P h r xs L) : Calls Tryz.prog 43 #[.pointer (some ⟨s, 0, none⟩)] w fun e w' => ∃ P' : PB, e = .returned (.pointer (some ⟨P'.pp, 0, none⟩)) ∧ PM w' P' none h r xs ∧ (∀ i, P'.has i → w.heap.size ≤ i) ∧ Below w.heap.size w w' := by
  have d0 := hm.d0
  have hl := PClone_ok hm.rp.pm
  go_enter Tryz.func43, Tryz.ntmps43
  go_wp2_with fail
  refine hl.mono ?_
  rintro e w1 ⟨P', rfl, q1, q2, q3⟩
  have HQ := Lib.hid (And.intro q1 q2)
  clear q1 q2
  go_wp2_with fail
  go_ret
  exact ⟨P', rfl, HQ.out.1, HQ.out.2, q3⟩
set_option maxRecDepth 100000 in
theorem key_any (hm : SetM w s P h r xs L) (i : Int) : Calls Tryz.prog 157 #[.pointer (some ⟨s, 0, none⟩), .int .i64 i] w fun e w' => (∃ n b, e = .returned (.tuple #[.int .i64 n, .bool b])) ∧ w = w' := by
  have d0 := hm.d0
  have hl := PAt_any hm.rp.pm i
  generalize atV r xs i = z at *
  generalize hasB r i = y at *
  clear hm
  by_cases hi : i < 0
  · go_enter Tryz.func157, Tryz.ntmps157
    go_wp2_with fail
    go_ret2
    exact ⟨⟨_, _, rfl⟩, rfl⟩
  · have t1 : decide (i < 0) = false := by simp; omega
    go_enter Tryz.func157, Tryz.ntmps157
    go_wp2_with fail
    refine hl.mono ?_
    rintro e w1 ⟨rfl, rfl⟩
    go_wp2_with fail
    go_ret2
    exact ⟨⟨_, _, rfl⟩, rfl⟩
set_option maxRecDepth 100000 in
theorem SCeil_any (hm : SetM w s P h r xs L) (key : Int) : Calls Tryz.prog 102 #[.pointer (some ⟨s, 0, none⟩), .int .i64 key] w fun e w' => (∃ n b, e = .returned (.tuple #[.int .i64 n, .bool b])) ∧ Below w.heap.size w w' := by
  have hl := atLowerM hm key
  clear hm
  go_enter Tryz.func102, Tryz.ntmps102
  go_wp2_with fail
  refine hl.mono ?_
  rintro e w1 ⟨⟨a, rfl⟩, hm1, hB1⟩
  have hk := key_any hm1 a
  clear hm1
  go_wp2_with fail
  refine hk.mono ?_
  rintro e w1 ⟨⟨n, b, rfl⟩, rfl⟩
  go_wp2_with fail
  go_ret2
  exact ⟨⟨_, _, rfl⟩, hB1⟩
set_option maxRecDepth 100000 in
theorem SFloor_any (hm : SetM w s P h r xs L) (key : Int) : Calls Tryz.prog 101 #[.pointer (some ⟨s, 0, none⟩), .int .i64 key] w fun e w' => (∃ n b, e = .returned (.tuple #[.int .i64 n, .bool b])) ∧ Below w.heap.size w w' := by
  have hl := atExactM hm key
  clear hm
  go_enter Tryz.func101, Tryz.ntmps101
  go_wp2_with fail
  refine hl.mono ?_
  rintro e w1 ⟨⟨a, rfl, _⟩, hm1, hB1⟩
  by_cases ha : 0 ≤ a
  · have hk := key_any hm1 a
    clear hm1
    go_wp2_with fail
    refine hk.mono ?_
    rintro e w1 ⟨⟨n, b, rfl⟩, rfl⟩
    go_wp2_with fail
    go_ret2
    exact ⟨⟨_, _, rfl⟩, hB1⟩
  · have t1 : decide (0 ≤ a) = false := by simp; omega
    have hl2 := atBeforeM hm1 key
    clear hm1 ha
    go_wp2_with fail
    refine hl2.mono ?_
    rintro e w2 ⟨⟨c, rfl, _⟩, hm2, hB2⟩
    have hk := key_any hm2 c
    clear hm2
    go_wp2_with fail
    refine hk.mono ?_
    rintro e w2 ⟨⟨n, b, rfl⟩, rfl⟩
    go_wp2_with fail
    go_ret2
    exact ⟨⟨_, _, rfl⟩, hB1.trans (hB2.mono hB1.size)⟩
set_option maxRecDepth 100000 in
theorem SHas_any (hm : SetM w s P h r xs L) (key : Int) : Calls Tryz.prog 100 #[.pointer (some ⟨s, 0, none⟩), .int .i64 key] w fun e w' => (∃ b, e = .returned (.bool b)) ∧ Below w.heap.size w w' := by
  have hl := atExactM hm key
  clear hm
  go_enter Tryz.func100, Tryz.ntmps100
  go_wp2_with fail
  refine hl.mono ?_
  rintro e w1 ⟨⟨a, rfl, _⟩, hm1, hB1⟩
  clear hm1
  go_wp2_with fail
  go_ret
  exact ⟨⟨_, rfl⟩, hB1⟩

theorem PDelete_set {r' : List Bool} {h' c : Nat} (hp : RP w P none h r xs [] L none 0) (hd : Dense r h) (hN : L.length ≤ 2560) (hs : on r c = true) (hst : stepB (r.set c false) (c / 8) h = (r', h')) :
    Calls Tryz.prog 156 #[.pointer (some ⟨P.pp, 0, none⟩), .int .i64 (c : Nat)] w fun e w' =>
      (∃ x a b c d, e = .returned (.tuple #[.int .i64 x, .agg #[.int .i64 a, .int .i64 b, .int .i64 c, .int .i64 d], .int .i64 0])) ∧
      (∃ (P' : PB) (xs' : List Int), RP w' P' none h' r' xs' [] (L.eraseIdx (cnt r c)) none 0 ∧ P'.pp = P.pp ∧ ∀ i, P'.has i → P.has i ∨ w.heap.size ≤ i) ∧ Only P.has w w' ∧ Dense r' h' := by
  have hN' : cnt r (capN h) ≤ 2560 := by rw [← hp.pm.lr, ← its_len r xs, hp.its]; exact hN
  refine (PDelete_ok hp.pm hp.tk hp.hT hd hN' hs hp.its (fun b q => by cases q) hp.tl).mono ?_
  rintro e w' ⟨rfl, ⟨P', xs', t', h1, h2, h3⟩, hO, hD⟩
  rw [hst] at h1 hD
  have ht : t' = [] := List.eq_nil_of_length_eq_zero h1.tl
  subst ht
  exact ⟨⟨_, _, _, _, _, rfl⟩, ⟨P', xs', h1, h2, h3⟩, hO.mono fun i _ q => (mv_none i).1 q, hD⟩
set_option maxRecDepth 100000 in
set_option maxHeartbeats 2000000 in
theorem SDelete_any (hm : SetM w s P h r xs L) (hN : L.length ≤ 2560) :
    Calls Tryz.prog 99 #[.pointer (some ⟨s, 0, none⟩), .int .i64 key] w fun e w' => (∃ (P' : PB) (h' : Nat) (r' : List Bool) (xs' L' : List Int) (code a b c d : Int), e = .returned (.tuple #[.agg #[.int .i64 a, .int .i64 b, .int .i64 c, .int .i64 d], .int .i64 code]) ∧
      SetM w' s P' h' r' xs' L' ∧ (∀ i, P'.has i → P.has i ∨ w.heap.size ≤ i) ∧ (code = 0 ∨ code = 14) ∧ L'.length ≤ L.length) ∧ Only P.has w w' := by
  have b0 := Blk.made w 30 #[.int .i64 0, .int .i64 0, .int .i64 0, .int .i64 0]
  have hB0 : Below w.heap.size w (w.alloc (.cells #[.int .i64 0, .int .i64 0, .int .i64 0, .int .i64 0] 30)) := (Below.refl _ w).alloc (Nat.le_refl _) _
  have hz0 : (w.alloc (.cells #[.int .i64 0, .int .i64 0, .int .i64 0, .int .i64 0] 30)).heap.size = w.heap.size + 1 := by simp
  have hm0 := hm.below hB0
  have hns := hm.ns
  have hlt : ∀ i, P.has i → i < w.heap.size := fun i hi => hm.rp.pm.lt hi
  have hslt := hm.st.lt
  have h2 := hm.rp.hT.pos
  generalize hW0 : w.alloc (.cells #[.int .i64 0, .int .i64 0, .int .i64 0, .int .i64 0] 30) = W0 at *
  have hex := atExactM hm0 key
  have HM := Lib.hid hm
  have HLT := Lib.hid hlt
  have HNS := Lib.hid hns
  have HN := Lib.hid hN
  clear hm hm0 hlt hns hN
  go_enter Tryz.func99, Tryz.ntmps99
  go_wp2_with fail
  refine hex.mono ?_
  rintro e w1 ⟨⟨a, rfl, ha⟩, hm1, hB1⟩
  have b1 := b0.below hB1 b0.lt
  obtain ⟨f0, f1, f2, f3⟩ := b1.frozens
  obtain ⟨c0, c1, c2, c3⟩ := b1.four
  rcases ha with ⟨j, rfl, ho, he⟩ | ⟨rfl, hno⟩
  · have t1 : decide ((j : Int) < 0) = false := by simp
    have d0 := hm1.d0
    obtain ⟨r', h', hst⟩ : ∃ r' h', stepB (r.set j false) (j / 8) h = (r', h') := ⟨_, _, rfl⟩
    have hde := PDelete_set hm1.rp hm1.de HN.out ho hst
    have HM1 := Lib.hid hm1
    have hBw : Below w.heap.size w w1 := hB0.trans (hB1.mono hB0.size)
    clear hm1 ho he hst
    go_wp2_with fail
    refine hde.mono ?_
    rintro e w3 ⟨⟨x, p1, p2, p3, p4, rfl⟩, ⟨P', xs', hp3, hpp, hf3⟩, hO3, hD3⟩
    have b3 : Blk w3 w.heap.size 30 #[.int .i64 0, .int .i64 0, .int .i64 0, .int .i64 0] := b1.only hO3 (fun q => by have := HLT.out _ q; omega)
    have b5 := b3.alloc (.cells #[.int .i64 p1, .int .i64 p2, .int .i64 p3, .int .i64 p4] 30)
    have k5 := Blk.made w3 30 #[.int .i64 p1, .int .i64 p2, .int .i64 p3, .int .i64 p4]
    have hO5 := (Only.refl (fun i => w.heap.size ≤ i ∧ i < w1.heap.size) w3).alloc (.cells #[.int .i64 p1, .int .i64 p2, .int .i64 p3, .int .i64 p4] 30)
    obtain ⟨y0, y1, y2, y3⟩ := k5.four
    obtain ⟨f0, f1, f2, f3⟩ := b5.frozens
    obtain ⟨c0, c1, c2, c3⟩ := b5.four
    have HPP := Lib.hid hpp
    have HF3 := Lib.hid hf3
    clear hpp hf3
    go_wp2_with fail
    refine bodyPost_ret (results_c_t rfl _ rfl (b5.put4 _ _ _ _) Tryz.underlying30 (by kernel_rfl)) rfl ?_
    obtain ⟨q1, q2, q3⟩ := ins_close HM.out.st hslt hBw hO3 HNS.out HLT.out h2 hp3 HPP.out HF3.out HM.out.ri.erase hD3 (hO5.put4 (g := w.heap.size) (.inl ⟨Nat.le_refl _, b1.lt⟩) (.int .i64 p1) (.int .i64 p2) (.int .i64 p3) (.int .i64 p4))
    exact ⟨⟨P', h', r', xs', _, 0, p1, p2, p3, p4, rfl, q1, q2, .inl rfl, by rw [List.length_eraseIdx]; split <;> omega⟩, q3⟩
  · have HM1 := Lib.hid hm1
    clear hm1 hno
    go_wp2_with fail
    refine bodyPost_ret (results_c_t rfl _ rfl (b1.put4 _ _ _ _) Tryz.underlying30 (by kernel_rfl)) rfl ?_
    have hB := below_put4 (hB0.trans (hB1.mono hB0.size)) (Nat.le_refl w.heap.size) (.int .i64 0) (.int .i64 0) (.int .i64 0) (.int .i64 0)
    exact ⟨⟨P, h, r, xs, L, 14, 0, 0, 0, 0, rfl, HM.out.below hB, fun i hi => .inl hi, .inr rfl, Nat.le_refl _⟩, Only.of_below hB⟩
theorem SNewS_ok (w : World) (hT : Tab w) : Calls Tryz.prog 8 #[] w fun e w' => ∃ (s : Nat) (P : PB), e = .returned (.pointer (some ⟨s, 0, none⟩)) ∧ SetM w' s P 2 (offs 32) (zeros 32) [] ∧ (∀ i, setB' s P i → w.heap.size ≤ i) ∧ Below w.heap.size w w' := by
  have hn := PNew_ok w
  go_enter Tryz.func8, Tryz.ntmps8
  go_wp2_with fail
  refine hn.mono ?_
  rintro e w1 ⟨P, rfl, hp, hf, hB⟩
  have HP := Lib.hid hp
  have HF := Lib.hid hf
  clear hp hf
  go_wp2_with fail
  go_ret
  have hBA : Below w1.heap.size w1 (w1.alloc (.cells #[.pointer (some ⟨P.pp, 0, none⟩)] 69)) := (Below.refl _ _).alloc (Nat.le_refl _) _
  refine ⟨w1.heap.size, P, rfl, ⟨Blk.made _ _ _, ⟨HP.out.below hBA, trivial, (hT.below hB).below hBA, offs_its _ _, (fun b q => by cases q), rfl⟩, Rise.nil, fun q hq => ⟨8 * q, Nat.le_refl _, by omega, ?_⟩⟩, ?_, hB.trans (hBA.mono hB.size)⟩
  · exact on_offs _ _
  · rintro i (rfl | hi)
    · exact hB.size
    · exact HF.out i hi
end
end Go.Proofs.YtaonkbfekadalaaGreatDoor
