/- Joined texts: Ge, Gf, Le, Pi. -/
import Derived.Test.YtaonkbfekadalaaGreatDoorM14
import Derived.Test.YtaonkbfekadalaaGreatDoorM16
/- Lists of their own in memory; the iterator that goes through the occupied slots of an array: its contract, for every body that leaves the array alone. -/
namespace Go.Proofs.YtaonkbfekadalaaGreatDoor
open Go.RowKit Go.Shelf
attribute [local go_sem] Oper.semAt_some
set_option linter.unusedVariables false

/-- The slice v is a list of its own (its block is base or above), and holds the numbers xs. -/
def OL (w : World) (base : Nat) (v : Value) (xs : List Int) : Prop := w.ownsRow base 3 1 v xs.length (xs.map (Value.int .i64))
theorem OL.nil (w : World) (base : Nat) : OL w base (.slice none 0 0) [] := World.ownsRow_nil w base 3 1
theorem OL.form {w : World} {base : Nat} {v : Value} {xs : List Int} (h : OL w base v xs) : ∃ A cap, v = .slice A xs.length cap ∧ RI w A xs := by
  rcases h.2 with ⟨hv, hn⟩ | ⟨g, cap, cur, hv, _, _, _⟩
  · refine ⟨none, 0, by rw [hv, hn], ?_⟩
    have : xs = [] := List.length_eq_zero_iff.1 hn
    rw [this]; exact RI_nil _ _
  · subst hv
    exact ⟨_, cap, rfl, RI_of_own h rfl⟩
theorem OL.below {w w' : World} {base : Nat} {v : Value} {xs : List Int} (h : OL w base v xs) (hb : Below w.heap.size w w') : OL w' base v xs :=
  World.ownsRow.kept h (grown_of_below hb none) (by
    rcases h.2 with ⟨hv, hn⟩ | ⟨g, cap, cur, hv, _, _, _⟩
    · exact .inl (by rw [hv]; rfl)
    · exact .inr (by rw [hv]; simp [Value.ownBlock]))
theorem OL.grow {w : World} {base : Nat} {v : Value} {xs : List Int} {x : Int} (h : w.ownsRow base 3 1 v (xs.length + 1) (xs.map (Value.int .i64) ++ [.int .i64 x])) : OL w base v (xs ++ [x]) := by
  unfold OL
  simpa using h
theorem OL.base_le {w : World} {base : Nat} {v : Value} {xs : List Int} (h : OL w base v xs) : ∀ k, v.ownBlock = some k → base ≤ k := fun k hk => (World.ownsRow.lt h k hk).1


section
variable {X : Nat → Prop} {A B : World}
theorem Kx.of_only {Z : Nat → Prop} (h : Only Z A B) (hX : ∀ g, g < A.heap.size → Z g → X g) : Kx X A B :=
  ⟨h.size, fun g c t fr hx hg => (h.block g (Array.getElem?_eq_some_iff.1 hg).1 fun q => hx (hX g (Array.getElem?_eq_some_iff.1 hg).1 q)).trans hg⟩
theorem Kx.bi (h : Kx X A B) {g : Nat} {xs : List Int} (hx : ¬ X g) (hb : BI A g xs) : BI B g xs := by
  obtain ⟨cs, h1, h2⟩ := hb
  exact ⟨cs, h.blk hx h1, h2⟩
theorem Kx.bw (h : Kx X A B) {g : Nat} {f : Nat → Nat} {m : Nat} (hx : ¬ X g) (hb : BW A g f m) : BW B g f m := by
  obtain ⟨cs, h1, h2⟩ := hb
  exact ⟨cs, h.blk hx h1, h2⟩
theorem Kx.sm (h : Kx X A B) {b : SB} {n : Nat} {r : List Bool} {xs : List Int} (hx : ∀ i, b.has i → ¬ X i) (hs : SM A b n r xs) : SM B b n r xs :=
  ⟨h.blk (hx _ (.inl rfl)) hs.hs, ⟨hs.hb.hl, hs.hb.hn, h.blk (hx _ (.inr (.inr (.inl rfl)))) hs.hb.hp, h.bw (hx _ (.inr (.inr (.inr rfl)))) hs.hb.hg, hs.hb.cap⟩, h.bi (hx _ (.inr (.inl rfl))) hs.hx, hs.hl, hs.hn, hs.hc⟩
theorem Kx.tab (h : Kx X A B) (hx : ¬ X 2) (hT : Tab A) : Tab B := fun j hj => by
  have h0 := hT j hj
  obtain ⟨o, ho, hc⟩ := cells_of_cell h0
  cases o with
  | cells c t fr =>
    have h2 := h.same 2 c t fr hx ho
    rw [← h0]
    simp only [World.cell?, ho, h2]
  | _ => cases hc
end

/-- The occupied slots, and what they hold, from left to right. -/
def prs (r : List Bool) (xs : List Int) : List (Int × Int) := (pos r).zip (its r xs)
theorem prs_len (r : List Bool) (xs : List Int) : (prs r xs).length = cnt r r.length := by
  unfold prs
  rw [List.length_zip, pos_len, its_len, Nat.min_self]
theorem prs_fst (r : List Bool) (xs : List Int) : (prs r xs).map Prod.fst = pos r := List.map_fst_zip (by rw [pos_len, its_len]; exact Nat.le_refl _)
theorem prs_snd (r : List Bool) (xs : List Int) : (prs r xs).map Prod.snd = its r xs := List.map_snd_zip (by rw [pos_len, its_len]; exact Nat.le_refl _)
theorem pos_get {r : List Bool} {s : Nat} (h : on r s = true) : (pos r)[cnt r s]? = some (s : Int) := by
  have h1 : cnt r s < (pos r).length := by rw [pos_len]; exact cnt_lt (on_lt h) h
  rw [List.getElem?_eq_getElem h1, ← nth_eq h1, pos_nth h]
theorem prs_get {r : List Bool} {xs : List Int} {s : Nat} (h : on r s = true) : (prs r xs)[cnt r s]? = some ((s : Int), nth xs s) := by
  unfold prs
  rw [List.getElem?_zip_eq_some]
  exact ⟨pos_get h, its_get h⟩
theorem prs_step {r : List Bool} {xs : List Int} {s : Nat} (h : on r s = true) : (prs r xs).take (cnt r s + 1) = (prs r xs).take (cnt r s) ++ [((s : Int), nth xs s)] := by
  have h1 := prs_get (xs := xs) h
  obtain ⟨h2, h3⟩ := List.getElem?_eq_some_iff.1 h1
  rw [List.take_succ_eq_append_getElem h2, h3]
theorem cnt_from {r : List Bool} {s : Nat} {j : Int} (h : IsNext r ((s : Int) + 1) j) (ho : on r s = true) : (j = -1 ∧ cnt r s + 1 = cnt r r.length) ∨ (∃ t : Nat, j = t ∧ s < t ∧ on r t = true ∧ cnt r t = cnt r s + 1) := by
  have hc : cnt r (s + 1) = cnt r s + 1 := by rw [cnt_succ, if_pos ho]
  rcases h with ⟨t, rfl, h1, h2, h3⟩ | ⟨rfl, h1⟩
  · refine .inr ⟨t, rfl, by omega, h2, ?_⟩
    rw [← hc]
    exact cnt_none (by omega) fun k a b => h3 k (by omega) b
  · refine .inl ⟨rfl, ?_⟩
    rw [← hc]
    exact (cnt_none (on_lt ho) fun k a b => h1 k (by omega)).symm
theorem cnt_first {r : List Bool} {j : Int} (h : IsNext r 0 j) : (j = -1 ∧ 0 = cnt r r.length) ∨ (∃ t : Nat, j = t ∧ on r t = true ∧ cnt r t = 0) := by
  rcases h with ⟨t, rfl, h1, h2, h3⟩ | ⟨rfl, h1⟩
  · exact .inr ⟨t, rfl, h2, (cnt_none (Nat.zero_le _) fun k a b => h3 k (by omega) b).trans rfl⟩
  · exact .inl ⟨rfl, ((cnt_none (Nat.zero_le _) fun k a b => h1 k (by omega)).trans rfl).symm⟩

def enc2 (x : Int × Int) : Array Value := #[.int .i64 x.1, .int .i64 x.2]
set_option maxRecDepth 100000 in
set_option maxHeartbeats 2000000 in
theorem all1_in {b : SB} {n : Nat} {r : List Bool} {xs : List Int} (m : Nat) (l bx : Nat) (X : Nat → Prop) (W : World)
    (hs : SM W b n r xs) (hT : Tab W) (hbx : Blk W bx 105 #[.pointer (some ⟨b.s, 0, none⟩)]) (x1 : ∀ i, b.has i → ¬ X i) (x2 : ¬ X 2) (x3 : ¬ X bx)
    (J Jx : List (Int × Int) → World → Prop) (hJ : AbidesFrom W.heap.size J) (hJx : AbidesFrom W.heap.size Jx)
    (hY : ∀ pre x W1, J pre W1 → pre.length < cnt r n → YieldAt Fence.wide (m - 1) Tryz.prog l (enc2 x) W1 fun e W' =>
      (e = .returned (.bool true) ∧ J (pre ++ [x]) W' ∧ Kx X W1 W') ∨ (e = .returned (.bool false) ∧ Jx (pre ++ [x]) W'))
    (h0 : J [] W) :
    CallsIn Fence.wide m Tryz.prog 189 #[.func (.yield l) #[] #[], .pointer (some ⟨bx, 0, none⟩)] W fun e W' => (∃ v, e = .returned v) ∧
      ((∃ ys, ys = prs r xs ∧ J ys W') ∨ (∃ pre, pre <+: prs r xs ∧ Jx pre W')) := by
  have bd := hs.bd
  have lr := hs.lr
  have c1 := hbx.cell 0
  have e1 : W.cell? ⟨bx, 0, none⟩ = some (.pointer (some ⟨b.s, 0, none⟩)) := by rw [c1]; rfl
  clear c1
  refine callsIn_of_wp Tryz.func189 rfl trivial ?_ rfl
  simp only [Tryz.ntmps189, List.size_toArray, List.length_cons, List.length_nil, Nat.reduceAdd, Nat.reduceSub, Array.replicate_succ, Array.replicate_zero, List.push_toArray, List.append_toArray, List.nil_append, List.cons_append]
  gi_wp2_with fail
  refine ⟨trivial, fun h => (by cases h), ?_⟩
  refine (callsIn_wide.2 (SNext_any hs hT 0)).mono ?_
  rintro e w' ⟨⟨s, rfl, hn⟩, rfl⟩
  have hf := cnt_first hn
  gi_wp2_with fail
  gi_loopw [3] (fun i wr => Kx X W wr ∧ ((i = .int .i64 (-1) ∧ J (prs r xs) wr) ∨ (∃ t : Nat, i = .int .i64 t ∧ on r t = true ∧ J ((prs r xs).take (cnt r t)) wr))) (fun i _ => if intOf i < 0 then 0 else n - (intOf i).toNat)
  case atStart =>
    refine ⟨Kx.refl X W, ?_⟩
    rcases hf with ⟨rfl, h1⟩ | ⟨t, rfl, h1, h2⟩
    · refine .inl ⟨rfl, ?_⟩
      rw [show prs r xs = [] from List.eq_nil_of_length_eq_zero (by rw [prs_len]; omega)]
      exact h0
    · exact .inr ⟨t, rfl, h1, by rw [h2]; exact h0⟩
  case round =>
    obtain ⟨hK, ⟨rfl, hj⟩ | ⟨t, rfl, ht, hj⟩⟩ := hrel
    · gi_wp2_with fail
      go_end0
      exact ⟨⟨_, rfl⟩, .inl ⟨_, rfl, hj⟩⟩
    · have htn : t < n := by have := on_lt ht; omega
      have i1 : (t : Int) < (n : Int) := by omega
      have i0 : (0 : Int) ≤ (t : Int) := by omega
      have s1 := hK.sm x1 hs
      have b1 := hK.blk x3 hbx
      have k1 : wr.cell? ⟨bx, 0, none⟩ = some (.pointer (some ⟨b.s, 0, none⟩)) := by rw [b1.cell]; rfl
      have k2 := s1.c0
      have k3 := s1.cell htn
      obtain ⟨fn, tmps, assign, body, hy, hR⟩ := hY _ ((t : Int), nth xs t) wr hj (by
        have := cnt_lt htn ht
        rw [List.length_take, prs_len, lr]; omega)
      rw [← prs_step ht] at hR
      simp only [enc2] at hy
      have hR' := hR.mono (fun e W' => round_one (K := fun W' => J ((prs r xs).take (cnt r t + 1)) W' ∧ Kx X wr W') (L := fun W' => Jx ((prs r xs).take (cnt r t + 1)) W') (fun W' h1 h2 => ⟨h1, h2⟩) (fun W' h1 => h1))
      clear hR hj
      gi_wp2_with fail
      refine ⟨fun h => (by cases h), ?_⟩
      refine hR'.mono ?_
      rintro e W3 ⟨bb, rfl, hq⟩
      cases bb
      · have hq' := hq.2 rfl
        gi_wp2_with fail
        refine bodyPost_ret (results_none rfl _ _ _) rfl ?_
        exact ⟨⟨_, rfl⟩, .inr ⟨_, List.take_prefix _ _, hq'⟩⟩
      · have hq' := hq.1 rfl
        have hK3 := hK.trans hq'.2
        have s3 := hK3.sm x1 hs
        have b3 := hK3.blk x3 hbx
        have k4 : W3.cell? ⟨bx, 0, none⟩ = some (.pointer (some ⟨b.s, 0, none⟩)) := by rw [b3.cell]; rfl
        gi_wp2_with fail
        refine ⟨trivial, fun h => (by cases h), ?_⟩
        refine (callsIn_wide.2 (SNext_any s3 (hK3.tab x2 hT) ((t : Int) + 1))).mono ?_
        rintro e w' ⟨⟨s', rfl, hn'⟩, rfl⟩
        have hf' := cnt_from hn' ht
        have hlt := cnt_lt htn ht
        gi_wp2_with fail
        go_roundw
        case rel =>
          refine ⟨hK3, ?_⟩
          rcases hf' with ⟨rfl, h1⟩ | ⟨t', rfl, h1, h2, h3⟩
          · refine .inl ⟨rfl, ?_⟩
            have := hq'.1
            rwa [List.take_of_length_le (by rw [prs_len]; omega)] at this
          · exact .inr ⟨t', rfl, h2, by rw [h3]; exact hq'.1⟩
        case measure =>
          have h0 : ¬ ((t : Int) < 0) := by omega
          rcases hf' with ⟨rfl, h1⟩ | ⟨t', rfl, h1, h2, h3⟩
          · simp [intOf, h0]; omega
          · have h0' : ¬ ((t' : Int) < 0) := by omega
            have := on_lt h2
            simp [intOf, h0, h0']; omega

theorem all_any (p : Nat) (w : World) : Calls Tryz.prog 137 #[.pointer (some ⟨p, 0, none⟩)] w fun e w' => e = .returned (.func (.func 189) #[] #[.pointer (some ⟨w.heap.size, 0, none⟩)]) ∧ w.alloc (.cells #[.pointer (some ⟨p, 0, none⟩)] 105) = w' := by
  have hmf : ∀ (fn : Fn) (first cap : Array Value) (w : World), (Instr.makeFunc fn first cap).run Tryz.prog w = .ok (.func fn first cap) w := fun _ _ _ _ => rfl
  go_enter Tryz.func137, Tryz.ntmps137
  go_wp2
  go_ret
  exact ⟨rfl, rfl⟩
theorem all_stops {b : SB} {n : Nat} {r : List Bool} {xs : List Int} (m : Nat) (bx : Nat) (X : Nat → Prop) (w : World)
    (hs : SM w b n r xs) (hT : Tab w) (hbx : Blk w bx 105 #[.pointer (some ⟨b.s, 0, none⟩)]) (x1 : ∀ i, b.has i → ¬ X i) (x2 : ¬ X 2) (x3 : ¬ X bx) :
    SeqStopsK Fence.wide m Tryz.prog 189 #[.pointer (some ⟨bx, 0, none⟩)] enc2 (Kx X) (fun ys => ys = prs r xs) (fun pre => pre <+: prs r xs) (cnt r n) w :=
  fun l J Jx W hW hJ hJx hY h0 =>
    all1_in m l bx X W (hs.below hW) (hT.below hW) (hbx.below hW hbx.lt) x1 x2 x3 J Jx hJ hJx hY h0
end Go.Proofs.YtaonkbfekadalaaGreatDoor
/- What Items and Places of an array with gaps come to. -/
namespace Go.Proofs.YtaonkbfekadalaaGreatDoor
open Go.RowKit Go.Shelf
attribute [local go_sem] Oper.semAt_some
set_option linter.unusedVariables false

theorem own_mono {w : World} {base base' : Nat} {e : TypeId} {size n : Nat} {v : Value} {xs : List Value} (h : w.ownsRow base e size v n xs) (hb : base' ≤ base) : w.ownsRow base' e size v n xs :=
  ⟨h.1, h.2.imp id fun ⟨g, cap, cur, hv, hg, q⟩ => ⟨g, cap, cur, hv, Nat.le_trans hb hg, q⟩⟩

set_option maxRecDepth 100000 in
set_option maxHeartbeats 4000000 in
theorem SItems_ok {w : World} {b : SB} {n : Nat} {r : List Bool} {xs : List Int} (h : SM w b n r xs) (hT : Tab w) :
    Calls Tryz.prog 82 #[.pointer (some ⟨b.s, 0, none⟩)] w fun e w' => (∃ v, e = .returned v ∧ OL w' w.heap.size v (its r xs)) ∧ Below w.heap.size w w' := by
  have bd := h.bd
  have lr := h.lr
  refine (callsIn_wide (n := 3)).1 ?_
  refine callsIn_of_wp_marks Tryz.func82 rfl trivial ?_ rfl
  simp only [Tryz.ntmps82, List.size_toArray, List.length_cons, List.length_nil, Nat.reduceAdd, Nat.reduceSub, Array.replicate_succ, Array.replicate_zero, List.push_toArray, List.append_toArray, List.nil_append, List.cons_append]
  gi_wp2_with fail
  refine ⟨trivial, ?_⟩
  refine (callsIn_wide.2 (all_any b.s _)).mono ?_
  rintro e w' ⟨rfl, rfl⟩
  gi_wp2_with fail
  obtain ⟨i0, hi, hz0, hz1, hz2⟩ := info_parts Tryz.infoI
  have q1 := Boxed.new w 31 (.slice none 0 0)
  have q2 := Blk.made (w.alloc (.cells #[.slice none 0 0] 31)) 105 #[.pointer (some ⟨b.s, 0, none⟩)]
  simp only [World.size_alloc] at q2
  replace q1 := q1.alloc (.cells #[.pointer (some ⟨b.s, 0, none⟩)] 105)
  have hB0 : Below w.heap.size w ((w.alloc (.cells #[.slice none 0 0] 31)).alloc (.cells #[.pointer (some ⟨b.s, 0, none⟩)] 105)) :=
    ((Below.refl w.heap.size w).alloc (Nat.le_refl _) _).alloc (by simp) _
  have hsz0 : ((w.alloc (.cells #[.slice none 0 0] 31)).alloc (.cells #[.pointer (some ⟨b.s, 0, none⟩)] 105)).heap.size = w.heap.size + 2 := by simp
  have s0 := h.below hB0
  have T0 := hT.below hB0
  generalize ((w.alloc (.cells #[.slice none 0 0] 31)).alloc (.cells #[.pointer (some ⟨b.s, 0, none⟩)] 105)) = W0 at q1 q2 hB0 hsz0 s0 T0 ⊢
  have hrow0 : W0.ownsRow (w.heap.size + 2) 3 1 (.slice none 0 0) 0 [] := World.ownsRow_nil W0 _ 3 1
  have hlt : ∀ i, b.has i → i < w.heap.size := fun i hi => h.lt hi
  have h2 := hT.pos
  refine wpIn_rangeFunc_ownF rfl (by decide) (gf := 189) (lb := #[.pointer (some ⟨w.heap.size + 1, 0, none⟩)]) rfl trivial (enters_of Tryz.func189 (by kernel_rfl) rfl)
    (all_stops _ (w.heap.size + 1) (fun g => g = w.heap.size ∨ w.heap.size + 2 ≤ g) W0 s0 T0 q2 (fun i hi => by have := hlt i hi; omega) (by omega) (by omega))
    Kx.trans (fun W l o o' _ hl ho _ => Kx.putObj W l o o' hl ho) (Below.refl _ _) (fun _ => rfl)
    (fun pre W => (∃ v, Boxed W w.heap.size 31 v ∧ W.ownsRow (w.heap.size + 2) 3 1 v pre.length (pre.map fun x => Value.int .i64 x.2) ∧ True) ∧ Below w.heap.size w W ∧ w.heap.size + 2 ≤ W.heap.size)
    (fun _ _ _ => False)
    (OwnFrom.and (Own.from (holdsRow_own (w.heap.size + 2) w.heap.size 31 3 1 (fun pre : List (Int × Int) => pre.length) (fun pre => pre.map fun x => Value.int .i64 x.2) (fun _ _ => True)) _) (OwnFrom.and (ownFrom_below (Nat.le_refl _) (by omega)) (fun _ A B row hs hg _ => Nat.le_trans hs hg.size)))
    (fun _ _ _ _ _ hs _ _ => hs)
    ⟨⟨_, q1, hrow0, trivial⟩, hB0, by omega⟩
    (fun x => { tmps := #[.pointer (some ⟨b.s, 0, none⟩), undef, .slice none 0 0, .pointer (some ⟨w.heap.size, 0, none⟩), undef, .int .i64 x.2, .pointer (some ⟨b.s, 0, none⟩), .func (.func 189) #[] #[.pointer (some ⟨w.heap.size + 1, 0, none⟩)], .int .i64 x.1, .int .i64 x.2, undef, undef, undef, undef, undef], defers := [] }) ?assign ?body ?done ?stop
  case assign =>
    intro l x W K hK
    simp only [enc2]
    gi_wp2
    exact hK
  case body =>
    rintro l pre x W ⟨⟨v, hv, hrow, _⟩, hB, hWz⟩ hlen
    have hcl : cnt r n ≤ n := cnt_le r n
    have hvc := hv.cell
    gi_wp2_with (gi_at_builtin; refine wpListIn_append_own _ rfl _ _ 31 rfl (w.heap.size + 2) 3 i0 (.int .i64 0) 1 8 Tryz.underlying31 hi hz0 hz1 hz2 rfl (by decide) _ _ _ rfl (World.ownsRow.alloc hrow _) ⟨W.heap.size, 0, none⟩ 1 1 [.int .i64 x.2] rfl rfl (cell_one_new _ _ _) (by simp [Value.oneCell']) (by unfold maxLen; omega) (by omega) (by simp; omega) ?_; intro v' w1 hown' hgrow _; replace hgrow : (W.alloc (.cells #[.int .i64 x.2] 3)).grownBy w1 v.ownBlock := hgrow; obtain ⟨g', cap', rfl⟩ := ownsRow_succ hown'; have hv1 : Boxed w1 w.heap.size 31 v := (hv.alloc _).kept hgrow (hv.not_row (by decide) hrow); have hc1 := hv1.cell; have hf1 := hv1.frozen)
    have hk0 : Kx (fun g => g = w.heap.size ∨ w.heap.size + 2 ≤ g) W w1 := ((Kx.refl _ W).alloc _).trans (Kx.of_grown hgrow fun r e => .inr ((World.ownsRow.alloc hrow (.cells #[.int .i64 x.2] 3)).lt r e).1)
    have hg2 := grownBy_setCell' w1 w.heap.size (.slice (some ⟨g', 0, none⟩) (pre.length + 1) cap')
    have hk1 := hk0.trans (Kx.of_grown (X := fun g => g = w.heap.size ∨ w.heap.size + 2 ≤ g) hg2 fun r e => by injection e with e; exact .inl e.symm)
    have hr2 := hown'.kept hg2 (.inr (hv1.not_row (by decide) hown').symm)
    refine ⟨?_, hk1, ⟨⟨_, hv1.set _, by simpa using hr2, trivial⟩, ?_, Nat.le_trans hWz hk1.size⟩⟩
    · refine ((KeepsOthers.alloc W _).trans (KeepsOthers.of_grownBy hgrow ?_)).trans (KeepsOthers.setCell _ _ _)
      intro j o e hj
      rcases (World.ownsRow.alloc hrow (.cells #[.int .i64 x.2] 3)).2 with ⟨rfl, _⟩ | ⟨g, cap, cur, rfl, _, hgb, _⟩
      · simp [Value.ownBlock] at e
      · obtain rfl : g = j := by simpa [Value.ownBlock] using e
        rw [hgb] at hj; cases hj; rfl
    · refine ((hB.alloc hB.size _).grown hgrow (by simp; omega) fun r e => ?_).setCell (p := ⟨w.heap.size, 0, none⟩) (Nat.le_refl _) _
      have := ((World.ownsRow.alloc hrow (.cells #[.int .i64 x.2] 3)).lt r e).1
      omega
  case done =>
    rintro D ys W hD rfl ⟨⟨v, hv, hrow, _⟩, hB, hWz⟩ hK
    have hvc := hv.cell
    gi_wp2_with fail
    refine ⟨by simp, .inl ⟨_, _, rfl, run_takeDeferred hK, ?_⟩⟩
    refine ⟨_, results_tmp rfl _ _ _, ⟨_, rfl, ?_⟩, hB.grown (grownBy_putObj' W D (.deferred none)) hB.size (row_some (by omega))⟩
    have hm : (prs r xs).map (fun x => Value.int .i64 x.2) = (its r xs).map (Value.int .i64) := by
      rw [← prs_snd r xs, List.map_map]; rfl
    have hl : (prs r xs).length = (its r xs).length := by rw [← prs_snd r xs, List.length_map]
    rw [hm, hl] at hrow
    unfold OL
    exact own_mono (ownsRow_putObj hrow _ hK rfl) (by omega)
  case stop =>
    rintro D c pre W _ _ hh _
    exact hh.elim

set_option maxRecDepth 100000 in
set_option maxHeartbeats 4000000 in
theorem SPlaces_ok {w : World} {b : SB} {n : Nat} {r : List Bool} {xs : List Int} (h : SM w b n r xs) (hT : Tab w) :
    Calls Tryz.prog 148 #[.pointer (some ⟨b.s, 0, none⟩)] w fun e w' => (∃ v, e = .returned v ∧ OL w' w.heap.size v (pos r)) ∧ Below w.heap.size w w' := by
  have bd := h.bd
  have lr := h.lr
  refine (callsIn_wide (n := 3)).1 ?_
  refine callsIn_of_wp_marks Tryz.func148 rfl trivial ?_ rfl
  simp only [Tryz.ntmps148, List.size_toArray, List.length_cons, List.length_nil, Nat.reduceAdd, Nat.reduceSub, Array.replicate_succ, Array.replicate_zero, List.push_toArray, List.append_toArray, List.nil_append, List.cons_append]
  gi_wp2_with fail
  refine ⟨trivial, ?_⟩
  refine (callsIn_wide.2 (all_any b.s _)).mono ?_
  rintro e w' ⟨rfl, rfl⟩
  gi_wp2_with fail
  obtain ⟨i0, hi, hz0, hz1, hz2⟩ := info_parts Tryz.infoI
  have q1 := Boxed.new w 31 (.slice none 0 0)
  have q2 := Blk.made (w.alloc (.cells #[.slice none 0 0] 31)) 105 #[.pointer (some ⟨b.s, 0, none⟩)]
  simp only [World.size_alloc] at q2
  replace q1 := q1.alloc (.cells #[.pointer (some ⟨b.s, 0, none⟩)] 105)
  have hB0 : Below w.heap.size w ((w.alloc (.cells #[.slice none 0 0] 31)).alloc (.cells #[.pointer (some ⟨b.s, 0, none⟩)] 105)) :=
    ((Below.refl w.heap.size w).alloc (Nat.le_refl _) _).alloc (by simp) _
  have hsz0 : ((w.alloc (.cells #[.slice none 0 0] 31)).alloc (.cells #[.pointer (some ⟨b.s, 0, none⟩)] 105)).heap.size = w.heap.size + 2 := by simp
  have s0 := h.below hB0
  have T0 := hT.below hB0
  generalize ((w.alloc (.cells #[.slice none 0 0] 31)).alloc (.cells #[.pointer (some ⟨b.s, 0, none⟩)] 105)) = W0 at q1 q2 hB0 hsz0 s0 T0 ⊢
  have hrow0 : W0.ownsRow (w.heap.size + 2) 3 1 (.slice none 0 0) 0 [] := World.ownsRow_nil W0 _ 3 1
  have hlt : ∀ i, b.has i → i < w.heap.size := fun i hi => h.lt hi
  have h2 := hT.pos
  refine wpIn_rangeFunc_ownF rfl (by decide) (gf := 189) (lb := #[.pointer (some ⟨w.heap.size + 1, 0, none⟩)]) rfl trivial (enters_of Tryz.func189 (by kernel_rfl) rfl)
    (all_stops _ (w.heap.size + 1) (fun g => g = w.heap.size ∨ w.heap.size + 2 ≤ g) W0 s0 T0 q2 (fun i hi => by have := hlt i hi; omega) (by omega) (by omega))
    Kx.trans (fun W l o o' _ hl ho _ => Kx.putObj W l o o' hl ho) (Below.refl _ _) (fun _ => rfl)
    (fun pre W => (∃ v, Boxed W w.heap.size 31 v ∧ W.ownsRow (w.heap.size + 2) 3 1 v pre.length (pre.map fun x => Value.int .i64 x.1) ∧ True) ∧ Below w.heap.size w W ∧ w.heap.size + 2 ≤ W.heap.size)
    (fun _ _ _ => False)
    (OwnFrom.and (Own.from (holdsRow_own (w.heap.size + 2) w.heap.size 31 3 1 (fun pre : List (Int × Int) => pre.length) (fun pre => pre.map fun x => Value.int .i64 x.1) (fun _ _ => True)) _) (OwnFrom.and (ownFrom_below (Nat.le_refl _) (by omega)) (fun _ A B row hs hg _ => Nat.le_trans hs hg.size)))
    (fun _ _ _ _ _ hs _ _ => hs)
    ⟨⟨_, q1, hrow0, trivial⟩, hB0, by omega⟩
    (fun x => { tmps := #[.pointer (some ⟨b.s, 0, none⟩), undef, .slice none 0 0, .pointer (some ⟨w.heap.size, 0, none⟩), .int .i64 x.1, .pointer (some ⟨b.s, 0, none⟩), .func (.func 189) #[] #[.pointer (some ⟨w.heap.size + 1, 0, none⟩)], .int .i64 x.1, .int .i64 x.2, undef, undef, undef, undef, undef], defers := [] }) ?assign ?body ?done ?stop
  case assign =>
    intro l x W K hK
    simp only [enc2]
    gi_wp2
    exact hK
  case body =>
    rintro l pre x W ⟨⟨v, hv, hrow, _⟩, hB, hWz⟩ hlen
    have hcl : cnt r n ≤ n := cnt_le r n
    have hvc := hv.cell
    gi_wp2_with (gi_at_builtin; refine wpListIn_append_own _ rfl _ _ 31 rfl (w.heap.size + 2) 3 i0 (.int .i64 0) 1 8 Tryz.underlying31 hi hz0 hz1 hz2 rfl (by decide) _ _ _ rfl (World.ownsRow.alloc hrow _) ⟨W.heap.size, 0, none⟩ 1 1 [.int .i64 x.1] rfl rfl (cell_one_new _ _ _) (by simp [Value.oneCell']) (by unfold maxLen; omega) (by omega) (by simp; omega) ?_; intro v' w1 hown' hgrow _; replace hgrow : (W.alloc (.cells #[.int .i64 x.1] 3)).grownBy w1 v.ownBlock := hgrow; obtain ⟨g', cap', rfl⟩ := ownsRow_succ hown'; have hv1 : Boxed w1 w.heap.size 31 v := (hv.alloc _).kept hgrow (hv.not_row (by decide) hrow); have hc1 := hv1.cell; have hf1 := hv1.frozen)
    have hk0 : Kx (fun g => g = w.heap.size ∨ w.heap.size + 2 ≤ g) W w1 := ((Kx.refl _ W).alloc _).trans (Kx.of_grown hgrow fun r e => .inr ((World.ownsRow.alloc hrow (.cells #[.int .i64 x.1] 3)).lt r e).1)
    have hg2 := grownBy_setCell' w1 w.heap.size (.slice (some ⟨g', 0, none⟩) (pre.length + 1) cap')
    have hk1 := hk0.trans (Kx.of_grown (X := fun g => g = w.heap.size ∨ w.heap.size + 2 ≤ g) hg2 fun r e => by injection e with e; exact .inl e.symm)
    have hr2 := hown'.kept hg2 (.inr (hv1.not_row (by decide) hown').symm)
    refine ⟨?_, hk1, ⟨⟨_, hv1.set _, by simpa using hr2, trivial⟩, ?_, Nat.le_trans hWz hk1.size⟩⟩
    · refine ((KeepsOthers.alloc W _).trans (KeepsOthers.of_grownBy hgrow ?_)).trans (KeepsOthers.setCell _ _ _)
      intro j o e hj
      rcases (World.ownsRow.alloc hrow (.cells #[.int .i64 x.1] 3)).2 with ⟨rfl, _⟩ | ⟨g, cap, cur, rfl, _, hgb, _⟩
      · simp [Value.ownBlock] at e
      · obtain rfl : g = j := by simpa [Value.ownBlock] using e
        rw [hgb] at hj; cases hj; rfl
    · refine ((hB.alloc hB.size _).grown hgrow (by simp; omega) fun r e => ?_).setCell (p := ⟨w.heap.size, 0, none⟩) (Nat.le_refl _) _
      have := ((World.ownsRow.alloc hrow (.cells #[.int .i64 x.1] 3)).lt r e).1
      omega
  case done =>
    rintro D ys W hD rfl ⟨⟨v, hv, hrow, _⟩, hB, hWz⟩ hK
    have hvc := hv.cell
    gi_wp2_with fail
    refine ⟨by simp, .inl ⟨_, _, rfl, run_takeDeferred hK, ?_⟩⟩
    refine ⟨_, results_tmp rfl _ _ _, ⟨_, rfl, ?_⟩, hB.grown (grownBy_putObj' W D (.deferred none)) hB.size (row_some (by omega))⟩
    have hm : (prs r xs).map (fun x => Value.int .i64 x.1) = (pos r).map (Value.int .i64) := by
      rw [← prs_fst r xs, List.map_map]; rfl
    have hl : (prs r xs).length = (pos r).length := by rw [← prs_fst r xs, List.length_map]
    rw [hm, hl] at hrow
    unfold OL
    exact own_mono (ownsRow_putObj hrow _ hK rfl) (by omega)
  case stop =>
    rintro D c pre W _ _ hh _
    exact hh.elim
end Go.Proofs.YtaonkbfekadalaaGreatDoor
/- What the level functions come to: between, May, Height, Segs, Seg, Window, may, many, few, Within. -/
namespace Go.Proofs.YtaonkbfekadalaaGreatDoor
open Go.RowKit
set_option linter.unusedVariables false

theorem lbetween_true {n lo hi : Int} (h : lo ≤ n ∧ n ≤ hi) (w : World) :
    Calls Tryz.prog 183 #[.int .i64 n, .int .i64 lo, .int .i64 hi] w fun e w' => e = .returned (.bool true) ∧ w = w' := by
  have h1 := h.1
  have h2 := h.2
  go_enter Tryz.func183, Tryz.ntmps183
  go_wp2
  go_ret
  exact ⟨rfl, rfl⟩
/-- The capacities there may be. -/
def capN (h : Nat) : Nat := 8 * 2 ^ h
theorem capN_bd {h : Nat} (h1 : 2 ≤ h) (h2 : h ≤ 9) : 32 ≤ capN h ∧ capN h ≤ 4096 := by
  have a : 2 ^ 2 ≤ 2 ^ h := Nat.pow_le_pow_right (by decide) h1
  have b : 2 ^ h ≤ 2 ^ 9 := Nat.pow_le_pow_right (by decide) h2
  unfold capN
  omega
theorem pop_all : ∀ h : Fin 10, popN (capN h.1) 64 = 1 := by decide +kernel
theorem ctz_all : ∀ h : Fin 10, Lib.ctz 64 (2 ^ h.1) = h.1 := by decide +kernel
theorem OnesCount_ok (x : Nat) (hx : x < 18446744073709551616) (w : World) :
    Calls Tryz.prog 184 #[.int .u64 (x : Nat)] w fun e w' => e = .returned (.int .i64 (popN x 64)) ∧ w = w' := by
  have hc := fun W => Ones_ok x hx W
  go_enter Tryz.func184, Tryz.ntmps184
  go_wp2_with fail
  refine (hc _).mono ?_
  rintro e w1 ⟨rfl, rfl⟩
  go_wp2_with fail
  go_ret
  exact ⟨rfl, rfl⟩
theorem Trailing_ok (x : Nat) (hx : x < 18446744073709551616) (h0 : x ≠ 0) (w : World) (hT : Tab w) :
    Calls Tryz.prog 246 #[.int .u64 (x : Nat)] w fun e w' => e = .returned (.int .i64 (Lib.ctz 64 x)) ∧ w = w' := by
  have hc := Ctz_ok x hx h0 w hT
  go_enter Tryz.func246, Tryz.ntmps246
  go_wp2_with fail
  refine hc.mono ?_
  rintro e w1 ⟨rfl, rfl⟩
  go_wp2_with fail
  go_ret
  exact ⟨rfl, rfl⟩
theorem May_ok {h : Nat} (h1 : 2 ≤ h) (h2 : h ≤ 9) (w : World) :
    Calls Tryz.prog 132 #[.int .i64 (capN h : Nat)] w fun e w' => e = .returned (.bool true) ∧ w = w' := by
  obtain ⟨a, b⟩ := capN_bd h1 h2
  have hp := pop_all ⟨h, by omega⟩
  dsimp only at hp
  generalize capN h = c at *
  have hb := fun W => lbetween_true (n := (c : Int)) (lo := 32) (hi := 4096) (by omega) W
  have hc := fun W => OnesCount_ok c (by omega) W
  rw [hp] at hc
  have e1 : IntKind.u64.wrap (c : Int) = (c : Int) := u64_in c (by omega)
  go_enter Tryz.func132, Tryz.ntmps132
  go_wp2_with fail
  refine (hb _).mono ?_
  rintro e w1 ⟨rfl, rfl⟩
  go_wp2_with fail
  refine (hc _).mono ?_
  rintro e w1 ⟨rfl, rfl⟩
  go_wp2_with fail
  go_ret
  exact ⟨rfl, rfl⟩
theorem Segs_ok {h : Nat} (h1 : 2 ≤ h) (h2 : h ≤ 9) (w : World) :
    Calls Tryz.prog 158 #[.int .i64 (capN h : Nat)] w fun e w' => e = .returned (.tuple #[.int .i64 ((2 ^ h : Nat) : Int), .int .i64 0]) ∧ w = w' := by
  obtain ⟨a, b⟩ := capN_bd h1 h2
  have hm := fun W => May_ok h1 h2 W
  have e1 : ((capN h : Nat) : Int).tdiv 8 = ((2 ^ h : Nat) : Int) := by
    rw [Int.tdiv_eq_ediv_of_nonneg (by omega)]; unfold capN; omega
  have b2 : 2 ^ h ≤ 512 := by unfold capN at b; omega
  generalize capN h = c at *
  generalize 2 ^ h = d at *
  have e2 : (c : Int) / 8 = (d : Int) := by rw [← e1, Int.tdiv_eq_ediv_of_nonneg (by omega)]
  go_enter Tryz.func158, Tryz.ntmps158
  go_wp2_with fail
  refine (hm _).mono ?_
  rintro e w1 ⟨rfl, rfl⟩
  go_wp2_with fail
  go_ret2
  exact ⟨rfl, rfl⟩
theorem Height_ok {h : Nat} (h1 : 2 ≤ h) (h2 : h ≤ 9) (w : World) (hT : Tab w) :
    Calls Tryz.prog 212 #[.int .i64 (capN h : Nat)] w fun e w' => e = .returned (.tuple #[.int .i64 (h : Nat), .int .i64 0]) ∧ w = w' := by
  obtain ⟨a, b⟩ := capN_bd h1 h2
  have hm := fun W => May_ok h1 h2 W
  have e1 : ((capN h : Nat) : Int).tdiv 8 = ((2 ^ h : Nat) : Int) := by
    rw [Int.tdiv_eq_ediv_of_nonneg (by omega)]; unfold capN; omega
  have b2 : 2 ^ h ≤ 512 := by unfold capN at b; omega
  have hz := ctz_all ⟨h, by omega⟩
  dsimp only at hz
  have ht := Trailing_ok (2 ^ h) (by omega) (by have := Nat.one_le_two_pow (n := h); omega) w hT
  rw [hz] at ht
  generalize capN h = c at *
  generalize 2 ^ h = d at *
  have e2 : (c : Int) / 8 = (d : Int) := by rw [← e1, Int.tdiv_eq_ediv_of_nonneg (by omega)]
  have e3 : IntKind.u64.wrap (d : Int) = (d : Int) := u64_in d (by omega)
  go_enter Tryz.func212, Tryz.ntmps212
  go_wp2_with fail
  refine (hm _).mono ?_
  rintro e w1 ⟨rfl, rfl⟩
  go_wp2_with fail
  refine ht.mono ?_
  rintro e w1 ⟨rfl, rfl⟩
  go_wp2_with fail
  go_ret2
  exact ⟨rfl, rfl⟩
theorem Seg_core {s d : Nat} (h : (s : Int) / 8 = (d : Int)) (hd : d < 512) (hb : ∀ W, Calls Tryz.prog 183 #[.int .i64 (s : Nat), .int .i64 0, .int .i64 4095] W fun e w' => e = .returned (.bool true) ∧ W = w') (w : World) :
    Calls Tryz.prog 160 #[.int .i64 (s : Nat)] w fun e w' => e = .returned (.tuple #[.int .i64 (d : Int), .int .i64 0]) ∧ w = w' := by
  have e1 : (s : Int).tdiv 8 = (d : Int) := by rw [Int.tdiv_eq_ediv_of_nonneg (by omega), h]
  go_enter Tryz.func160, Tryz.ntmps160
  go_wp2_with fail
  refine (hb _).mono ?_
  rintro e w1 ⟨rfl, rfl⟩
  go_wp2_with fail
  go_ret2
  exact ⟨rfl, rfl⟩
theorem Seg_ok {s : Nat} (h : s < 4096) (w : World) :
    Calls Tryz.prog 160 #[.int .i64 (s : Nat)] w fun e w' => e = .returned (.tuple #[.int .i64 ((s / 8 : Nat) : Int), .int .i64 0]) ∧ w = w' :=
  Seg_core (by omega) (by omega) (fun W => lbetween_true (by omega) W) w
theorem lmay_ok {k h : Nat} (h1 : 2 ≤ h) (h2 : h ≤ 9) (hk : k ≤ h) (w : World) :
    Calls Tryz.prog 215 #[.int .i64 (k : Nat), .int .i64 (h : Nat)] w fun e w' => e = .returned (.bool true) ∧ w = w' := by
  have hb := fun W => lbetween_true (n := (h : Int)) (lo := 2) (hi := 9) (by omega) W
  have hc := fun W => lbetween_true (n := (k : Int)) (lo := 0) (hi := (h : Int)) (by omega) W
  go_enter Tryz.func215, Tryz.ntmps215
  go_wp2_with fail
  refine (hb _).mono ?_
  rintro e w1 ⟨rfl, rfl⟩
  go_wp2_with fail
  refine (hc _).mono ?_
  rintro e w1 ⟨rfl, rfl⟩
  go_wp2_with fail
  go_ret
  exact ⟨rfl, rfl⟩
/-- What a window has at most, and at least, times the height. -/
def manyV (k h : Nat) : Nat := (7 * h - 2 * k) * 2 ^ k
def fewV (k h : Nat) : Nat := if h = 2 then 0 else (h + k) * 2 ^ k
theorem manyV_le {k h : Nat} (h2 : h ≤ 9) (hk : k ≤ h) : manyV k h ≤ 63 * 512 := by
  unfold manyV
  exact Nat.mul_le_mul (by omega) (Nat.pow_le_pow_right (n := 2) (by decide) (show k ≤ 9 by omega))
theorem many_ok {k h : Nat} (h2 : h ≤ 9) (hk : k ≤ h) (w : World) :
    Calls Tryz.prog 216 #[.int .i64 (k : Nat), .int .i64 (h : Nat)] w fun e w' => e = .returned (.int .i64 (manyV k h : Nat)) ∧ w = w' := by
  have hl := manyV_le h2 hk
  have e0 : ((manyV k h : Nat) : Int) = (7 * (h : Int) - 2 * (k : Int)) * 2 ^ k := by
    unfold manyV
    push_cast
    rw [Int.ofNat_sub (by omega)]
    push_cast
    rfl
  have e1 : IntKind.i64.wrap ((7 * (h : Int) - 2 * (k : Int)) * 2 ^ k) = ((manyV k h : Nat) : Int) := by
    rw [← e0]; exact IntWalk.i64_in _ (by omega)
  go_enter Tryz.func216, Tryz.ntmps216
  go_wp2_with fail
  go_ret
  exact ⟨by rw [e0]; rfl, rfl⟩
theorem few_ok {k h : Nat} (h2 : h ≤ 9) (hk : k ≤ h) (w : World) :
    Calls Tryz.prog 217 #[.int .i64 (k : Nat), .int .i64 (h : Nat)] w fun e w' => e = .returned (.int .i64 (fewV k h : Nat)) ∧ w = w' := by
  by_cases he : h = 2
  · subst he
    have e0 : fewV k 2 = 0 := by unfold fewV; rw [if_pos rfl]
    rw [e0]
    go_enter Tryz.func217, Tryz.ntmps217
    go_wp2_with fail
    go_ret
    exact ⟨rfl, rfl⟩
  · have e2 : fewV k h = (h + k) * 2 ^ k := by unfold fewV; rw [if_neg he]
    have hl : (h + k) * 2 ^ k ≤ 18 * 512 := Nat.mul_le_mul (by omega) (Nat.pow_le_pow_right (n := 2) (by decide) (show k ≤ 9 by omega))
    have e0 : ((fewV k h : Nat) : Int) = ((h : Int) + (k : Int)) * 2 ^ k := by
      rw [e2]
      push_cast
      rfl
    have e1 : IntKind.i64.wrap (((h : Int) + (k : Int)) * 2 ^ k) = ((fewV k h : Nat) : Int) := by
      rw [← e0, e2]; exact IntWalk.i64_in _ (by omega)
    have t : ((h : Int) == 2) = false := by simp; omega
    go_enter Tryz.func217, Tryz.ntmps217
    go_wp2_with fail
    go_ret
    exact ⟨by rw [e0]; rfl, rfl⟩
/-- Whether a window may have so many elements: -1 too few, 0 it may, 1 too many. -/
def withinV (n k h : Nat) : Int := if h * n > manyV k h then 1 else if h * n < fewV k h then -1 else 0
set_option maxRecDepth 100000 in
theorem Within_ok {n k h : Nat} (h1 : 2 ≤ h) (h2 : h ≤ 9) (hk : k ≤ h) (hn : n ≤ 4096) (w : World) :
    Calls Tryz.prog 178 #[.int .i64 (n : Nat), .int .i64 (k : Nat), .int .i64 (h : Nat)] w fun e w' => e = .returned (.tuple #[.int .i64 (withinV n k h), .int .i64 0]) ∧ w = w' := by
  have hm := fun W => lmay_ok h1 h2 hk W
  have hmany := fun W => many_ok h2 hk W
  have hfew := fun W => few_ok h2 hk W
  have hb := manyV_le h2 hk
  have hp : h * n ≤ 9 * 4096 := Nat.mul_le_mul h2 hn
  have e0 : (h : Int) * (n : Int) = ((h * n : Nat) : Int) := by push_cast; rfl
  have e1 : IntKind.i64.wrap ((h : Int) * (n : Int)) = (h : Int) * (n : Int) := by rw [e0]; exact IntWalk.i64_in _ (by omega)
  have t0 : decide ((n : Int) > 4096) = false := by simp; omega
  have t0' : decide (4096 < (n : Int)) = false := by simp; omega
  have t1 : decide ((n : Int) < 0) = false := by simp
  unfold withinV
  generalize h * n = y at *
  generalize manyV k h = a at *
  generalize fewV k h = c at *
  by_cases g1 : y > a
  · rw [if_pos g1]
    have u1 : decide ((a : Int) < (h : Int) * (n : Int)) = true := by rw [e0]; simp; omega
    go_enter Tryz.func178, Tryz.ntmps178
    go_wp2_with fail
    refine (hm _).mono ?_
    rintro e w1 ⟨rfl, rfl⟩
    go_wp2_with fail
    refine (hmany _).mono ?_
    rintro e w1 ⟨rfl, rfl⟩
    go_wp2_with fail
    go_ret2
    exact ⟨rfl, rfl⟩
  · rw [if_neg g1]
    have u1 : decide ((a : Int) < (h : Int) * (n : Int)) = false := by rw [e0]; simp; omega
    by_cases g2 : y < c
    · rw [if_pos g2]
      have u2 : decide ((h : Int) * (n : Int) < (c : Int)) = true := by rw [e0]; simp; omega
      go_enter Tryz.func178, Tryz.ntmps178
      go_wp2_with fail
      refine (hm _).mono ?_
      rintro e w1 ⟨rfl, rfl⟩
      go_wp2_with fail
      refine (hmany _).mono ?_
      rintro e w1 ⟨rfl, rfl⟩
      go_wp2_with fail
      refine (hfew _).mono ?_
      rintro e w1 ⟨rfl, rfl⟩
      go_wp2_with fail
      go_ret2
      exact ⟨rfl, rfl⟩
    · rw [if_neg g2]
      have u2 : decide ((h : Int) * (n : Int) < (c : Int)) = false := by rw [e0]; simp; omega
      go_enter Tryz.func178, Tryz.ntmps178
      go_wp2_with fail
      refine (hm _).mono ?_
      rintro e w1 ⟨rfl, rfl⟩
      go_wp2_with fail
      refine (hmany _).mono ?_
      rintro e w1 ⟨rfl, rfl⟩
      go_wp2_with fail
      refine (hfew _).mono ?_
      rintro e w1 ⟨rfl, rfl⟩
      go_wp2_with fail
      go_ret2
      exact ⟨rfl, rfl⟩
/-- The first segment of a window. -/
def winF (s k : Nat) : Nat := s / 2 ^ k * 2 ^ k
theorem win_all : ∀ s : Fin 512, ∀ k : Fin 10, bits .andNot .i64 (s.1 : Int) ((2 ^ k.1 : Int) - 1) = ((winF s.1 k.1 : Nat) : Int) := by decide +kernel
theorem win_all' {s k : Nat} (hs : s < 512) (hk : k ≤ 9) : bits .andNot .i64 (s : Int) (((2 ^ k : Nat) : Int) - 1) = ((winF s k : Nat) : Int) := by
  have h := win_all ⟨s, hs⟩ ⟨k, by omega⟩
  push_cast at h ⊢
  exact h
theorem Window_core {s k f m : Nat} (hw : bits .andNot .i64 (s : Int) ((m : Int) - 1) = (f : Int)) (hm : (2 : Int) ^ k = (m : Int)) (hl : m ≤ 512) (h1 : 1 ≤ m) (hk : k ≤ 9)
    (hb : ∀ W, Calls Tryz.prog 183 #[.int .i64 (s : Nat), .int .i64 0, .int .i64 511] W fun e w' => e = .returned (.bool true) ∧ W = w') (hc : ∀ W, Calls Tryz.prog 183 #[.int .i64 (k : Nat), .int .i64 0, .int .i64 9] W fun e w' => e = .returned (.bool true) ∧ W = w') (w : World) :
    Calls Tryz.prog 248 #[.int .i64 (s : Nat), .int .i64 (k : Nat)] w fun e w' => e = .returned (.tuple #[.int .i64 (f : Nat), .int .i64 (m : Int), .int .i64 0]) ∧ w = w' := by
  have e1 : IntKind.i64.wrap ((2 : Int) ^ k) = (m : Int) := by rw [hm]; exact IntWalk.i64_in _ (by omega)
  have e2 : IntKind.i64.wrap ((m : Int) - 1) = (m : Int) - 1 := IntWalk.i64_in _ (by omega)
  have i0 : (k : Int) ≤ 9 := by omega
  go_enter Tryz.func248, Tryz.ntmps248
  go_wp2_with fail
  refine (hb _).mono ?_
  rintro e w1 ⟨rfl, rfl⟩
  go_wp2_with fail
  refine (hc _).mono ?_
  rintro e w1 ⟨rfl, rfl⟩
  go_wp2_with fail
  go_ret3
  refine ⟨?_, rfl⟩


  rfl
theorem Window_ok {s k : Nat} (hs : s < 512) (hk : k ≤ 9) (w : World) :
    Calls Tryz.prog 248 #[.int .i64 (s : Nat), .int .i64 (k : Nat)] w fun e w' => e = .returned (.tuple #[.int .i64 (winF s k : Nat), .int .i64 ((2 ^ k : Nat) : Int), .int .i64 0]) ∧ w = w' :=
  Window_core (win_all' hs hk) (by push_cast; rfl) (Nat.pow_le_pow_right (n := 2) (by decide) (show k ≤ 9 by omega)) Nat.one_le_two_pow hk (fun W => lbetween_true (by omega) W) (fun W => lbetween_true (by omega) W) w
end Go.Proofs.YtaonkbfekadalaaGreatDoor
/- What sum, count, Check and windows of the picking layer come to. -/
namespace Go.Proofs.YtaonkbfekadalaaGreatDoor
open Go.RowKit Go.Shelf
set_option linter.unusedVariables false

theorem sumR_small {r : List Int} (h : Smalls r) (a : Nat) : ∀ n, a + n ≤ r.length → 0 ≤ sumR r a n ∧ sumR r a n ≤ 8 * n
  | 0, _ => by simp [sumR_zero]
  | n + 1, hl => by
    have ih := sumR_small h a n (by omega)
    have := h (a + n) (by omega)
    rw [sumR_succ]
    push_cast
    omega
theorem sumR_congr {r r' : List Int} {a a' : Nat} : ∀ {n : Nat}, (∀ j, j < n → nth r (a + j) = nth r' (a' + j)) → sumR r a n = sumR r' a' n
  | 0, _ => rfl
  | n + 1, h => by rw [sumR_succ, sumR_succ, sumR_congr (n := n) (fun j hj => h j (by omega)), h n (by omega)]
/-- The numbers of a part. -/
def partI (r : List Int) (f m : Nat) : List Int := (r.drop f).take m
theorem partI_len {r : List Int} {f m : Nat} (h : f + m ≤ r.length) : (partI r f m).length = m := by
  unfold partI
  rw [List.length_take, List.length_drop]; omega
theorem nth_part {r : List Int} {f m j : Nat} (hj : j < m) : nth (partI r f m) j = nth r (f + j) := by
  unfold partI nth
  simp only [List.getD]
  rw [List.getElem?_take, if_pos hj, List.getElem?_drop]
theorem sum_part {r : List Int} {f m : Nat} : sumR (partI r f m) 0 m = sumR r f m := sumR_congr fun j hj => by rw [Nat.zero_add, nth_part hj]
theorem RI.part {w : World} {b off : Nat} {r : List Int} {f m : Nat} (h : RI w (some ⟨b, off, none⟩) r) (hl : f + m ≤ r.length) : RI w (some ⟨b, off + f, none⟩) (partI r f m) := by
  intro h0
  rw [partI_len hl] at h0
  refine ⟨b, off + f, rfl, fun k hk => ?_⟩
  rw [partI_len hl] at hk
  rw [nth_part hk, Nat.add_assoc]
  exact h.cellN (by omega)
theorem Smalls.part {r : List Int} {f m : Nat} (h : Smalls r) (hl : f + m ≤ r.length) : Smalls (partI r f m) := fun j hj => by
  rw [partI_len hl] at hj
  rw [nth_part hj]
  exact h _ (by omega)

set_option maxRecDepth 100000 in
theorem sum_ok {w : World} {A : Option Addr} {c n : Nat} {xs : List Int} (hl : xs.length = n) (hR : RI w A xs) (hs : Smalls xs) (hn : n ≤ 4096) :
    Calls Tryz.prog 179 #[.slice A n c] w fun e w' => e = .returned (.int .i64 (sumR xs 0 n)) ∧ w = w' := by
  have HS := Lib.hid hl
  have HM := Lib.hid hs
  have HB := Lib.hid (fun k (hk : k ≤ n) => sumR_small hs 0 k (by omega))
  clear hl hs
  go_enter Tryz.func179, Tryz.ntmps179
  go_wp2_with fail
  go_loop [3, 8] (fun a i => ∃ q : Nat, q ≤ n ∧ i = .int .i64 q ∧ a = .int .i64 (sumR xs 0 q)) (fun _ i => n - (intOf i).toNat)
  case atStart => exact ⟨0, Nat.zero_le _, rfl, rfl⟩
  case round =>
    obtain ⟨q, hq, rfl, rfl⟩ := hrel
    by_cases hlt : q < n
    · obtain ⟨g, off, rfl, hc⟩ := hR (by rw [HS.out]; omega)
      have c0 := hc q (by rw [HS.out]; exact hlt)
      have b0 := HB.out q hq
      have b1 := HB.out (q + 1) hlt
      have e1 : sumR xs 0 (q + 1) = sumR xs 0 q + nth xs q := by rw [sumR_succ, Nat.zero_add]
      have j1 : (0 : Int) ≤ (q : Int) := by omega
      have j2 : (q : Int) < (n : Int) := by omega
      have n1 : IntKind.i64.wrap (sumR xs 0 q + nth xs q) = sumR xs 0 q + nth xs q := IntWalk.i64_in _ (by omega)
      clear hc b0 b1
      generalize nth xs q = y at *
      generalize sumR xs 0 q = z at *
      go_wp2_with fail
      go_round
      case rel => exact ⟨q + 1, by omega, by go_num, by rw [e1]⟩
      case measure => simp [intOf]; omega
    · obtain rfl : q = n := by omega
      go_wp2_with fail
      go_ret
      exact ⟨rfl, rfl⟩

theorem checks_ok {n : Int} (h0 : 0 ≤ n) (h8 : n ≤ 8) (w : World) : Calls Tryz.prog 245 #[.int .i64 n] w fun e w' => e = .returned (.bool false) ∧ w = w' := by
  have t1 : decide (n < 0) = false := by simp; omega
  have t2 : decide (8 < n) = false := by simp; omega
  go_enter Tryz.func245, Tryz.ntmps245
  go_wp2
  go_ret
  exact ⟨rfl, rfl⟩
theorem Index_nop {w : World} {A : Option Addr} {c n : Nat} {r : List Int} (hl : r.length = n) (hR : RI w A r) (hs : Smalls r) (hn : n ≤ 4611686018427387904) :
    Calls Tryz.prog 209 #[.slice A n c, .func (.func 245) #[] #[]] w fun e w' => e = .returned (.int .i64 (-1)) ∧ w = w' := by
  have HS := Lib.hid hl
  have HSM := Lib.hid hs
  clear hl hs
  go_enter Tryz.func209, Tryz.ntmps209
  go_wp2_with fail
  go_loop [8] (fun i => ∃ q : Nat, q ≤ n ∧ i = .int .i64 q) (fun i => n - (intOf i).toNat)
  case atStart => exact ⟨0, Nat.zero_le _, rfl⟩
  case round =>
    obtain ⟨q, hq, rfl⟩ := hrel
    by_cases hlt : q < n
    · obtain ⟨g, off, rfl, hc⟩ := hR (by rw [HS.out]; omega)
      have c0 := hc q (by rw [HS.out]; exact hlt)
      have bd := HSM.out q (by rw [HS.out]; exact hlt)
      have hw := fun W => checks_ok bd.1 bd.2 W
      have j1 : (0 : Int) ≤ (q : Int) := by omega
      have j2 : (q : Int) < (n : Int) := by omega
      clear hc bd
      generalize nth r q = y at *
      go_wp2_with fail
      refine (hw _).mono ?_
      rintro e w1 ⟨rfl, rfl⟩
      go_wp2_with fail
      go_round
      case rel => exact ⟨q + 1, by omega, by go_num⟩
      case measure => simp [intOf]; omega
    · obtain rfl : q = n := by omega
      go_wp2_with fail
      go_ret
      exact ⟨rfl, rfl⟩
theorem Contains_nop {w : World} {A : Option Addr} {c n : Nat} {r : List Int} (hl : r.length = n) (hR : RI w A r) (hs : Smalls r) (hn : n ≤ 4611686018427387904) :
    Calls Tryz.prog 171 #[.slice A n c, .func (.func 245) #[] #[]] w fun e w' => e = .returned (.bool false) ∧ w = w' := by
  have hi := Index_nop (c := c) hl hR hs hn
  go_enter Tryz.func171, Tryz.ntmps171
  go_wp2_with fail
  refine hi.mono ?_
  rintro e w1 ⟨rfl, rfl⟩
  go_wp2_with fail
  go_ret
  exact ⟨rfl, rfl⟩
theorem Check_ok {w : World} {A : Option Addr} {c h : Nat} {r : List Int} (hl : r.length = 2 ^ h) (hR : RI w A r) (hs : Smalls r) (h1 : 2 ≤ h) (h2 : h ≤ 9) :
    Calls Tryz.prog 211 #[.slice A (2 ^ h) c] w fun e w' => e = .returned (.int .i64 0) ∧ w = w' := by
  obtain ⟨a, b⟩ := capN_bd h1 h2
  have hm := fun W => May_ok h1 h2 W
  have b2 : 2 ^ h ≤ 512 := by unfold capN at b; omega
  have hc := Contains_nop (c := c) hl hR hs (by omega)
  have e1 : (capN h : Int) = 8 * ((2 ^ h : Nat) : Int) := by unfold capN; push_cast; rfl
  rw [e1] at hm
  clear hl
  generalize 2 ^ h = d at *
  have i1 : (d : Int) ≤ 512 := by omega
  have n1 : IntKind.i64.wrap (8 * (d : Int)) = 8 * (d : Int) := IntWalk.i64_in _ (by omega)
  have t1 : decide ((d : Int) > 4096) = false := by simp; omega
  have t2 : decide (4096 < (d : Int)) = false := by simp; omega
  go_enter Tryz.func211, Tryz.ntmps211
  go_wp2_with fail
  refine (hm _).mono ?_
  rintro e w1 ⟨rfl, rfl⟩
  go_wp2_with fail
  refine hc.mono ?_
  rintro e w1 ⟨rfl, rfl⟩
  go_wp2_with fail
  go_ret
  exact ⟨rfl, rfl⟩
theorem RI.alloc {w : World} {A : Option Addr} {xs : List Int} (h : RI w A xs) (o : Obj) : RI (w.alloc o) A xs := h.below ((Below.refl _ w).alloc (Nat.le_refl _) o) (Nat.le_refl _)
/-- A window as a value. -/
def winV (k f m : Nat) : Value := .agg #[.int .i64 (k : Nat), .int .i64 (f : Nat), .int .i64 (m : Nat)]
theorem count_ok {w : World} {b off c n : Nat} {r : List Int} {k f m : Nat} (hl : r.length = n) (hR : RI w (some ⟨b, off, none⟩) r) (hs : Smalls r) (hn : n ≤ 512) (hfm : f + m ≤ n) (hm : 1 ≤ m) (hc : n ≤ c) (hk : k ≤ 9) :
    Calls Tryz.prog 214 #[winV k f m, .slice (some ⟨b, off, none⟩) n c] w fun e w' => e = .returned (.int .i64 (sumR r f m)) ∧ w.alloc (.cells #[.int .i64 (k : Nat), .int .i64 (f : Nat), .int .i64 (m : Nat)] 193) = w' := by
  have hR2 := ((hR.part (f := f) (m := m) (by omega)).alloc (.cells #[.int .i64 (k : Nat), .int .i64 (f : Nat), .int .i64 (m : Nat)] 193))
  have hs2 := hs.part (f := f) (m := m) (by omega)
  have hl2 := partI_len (r := r) (f := f) (m := m) (by omega)
  have hne : ¬ c = f := by omega
  unfold winV
  go_enter Tryz.func214, Tryz.ntmps214
  go_wp2_with fail
  refine (sum_ok hl2 hR2 hs2 (by omega)).mono ?_
  rintro e w1 ⟨rfl, rfl⟩
  rw [sum_part]
  go_wp2_with fail
  go_ret
  exact ⟨rfl, rfl⟩
theorem windows_any (s h : Int) (w : World) : Calls Tryz.prog 213 #[.int .i64 s, .int .i64 h] w fun e w' => e = .returned (.func (.func 247) #[] #[.pointer (some ⟨w.heap.size + 1, 0, none⟩), .pointer (some ⟨w.heap.size, 0, none⟩)]) ∧
    (w.alloc (.cells #[.int .i64 s] 3)).alloc (.cells #[.int .i64 h] 3) = w' := by
  have hmf : ∀ (fn : Fn) (first cap : Array Value) (w : World), (Instr.makeFunc fn first cap).run Tryz.prog w = .ok (.func fn first cap) w := fun _ _ _ _ => rfl
  go_enter Tryz.func213, Tryz.ntmps213
  go_wp2
  go_ret
  exact ⟨rfl, rfl⟩
end Go.Proofs.YtaonkbfekadalaaGreatDoor
