/- Joined texts: It, Pc. -/
import Derived.RangeFuncNested
import Derived.RangeFuncBound
import Derived.RangeFuncCalls
import Derived.RangeFuncLeaves
import Derived.Shelf.Abstract
import Derived.Shelf.RegionOpen
import Derived.OwnWalkIn
import Derived.TacticsInMore
import Derived.LoopNIn
import Derived.LoopIn
import Derived.Test.YtaonkbfekadalaaGreatDoorM15
/- The iterator that goes through the slots of a spread: its contract, for every body that turns no more than blocks of its own. -/
namespace Go.Proofs.YtaonkbfekadalaaGreatDoor
open Go.RowKit Go.Shelf
attribute [local go_sem] Oper.semAt_some
set_option linter.unusedVariables false

/-- What a round keeps: all blocks of cells but those of X. -/
structure Kx (X : Nat → Prop) (A B : World) : Prop where
  size : A.heap.size ≤ B.heap.size
  same : ∀ g c t fr, ¬ X g → A.heap[g]? = some (.cells c t fr) → B.heap[g]? = some (.cells c t fr)
theorem Kx.trans {X : Nat → Prop} {A B C : World} (h : Kx X A B) (k : Kx X B C) : Kx X A C :=
  ⟨Nat.le_trans h.size k.size, fun g c t fr hx hg => k.same g c t fr hx (h.same g c t fr hx hg)⟩
theorem Kx.refl (X : Nat → Prop) (A : World) : Kx X A A := ⟨Nat.le_refl _, fun _ _ _ _ _ h => h⟩
theorem Kx.alloc {X : Nat → Prop} {A B : World} (h : Kx X A B) (o : Obj) : Kx X A (B.alloc o) :=
  ⟨by have := h.size; simp; omega, fun g c t fr hx hg => by
    have h1 := h.same g c t fr hx hg
    exact (Below.heap_alloc B o g (Array.getElem?_eq_some_iff.1 h1).1).trans h1⟩
theorem Kx.drewN {X : Nat → Prop} {A B : World} (h : Kx X A B) (n : Nat) : Kx X A (B.drewN n) := ⟨h.size, h.same⟩
theorem Kx.drew {X : Nat → Prop} {A B : World} (h : Kx X A B) : Kx X A B.drew := ⟨h.size, h.same⟩
theorem Kx.blk {X : Nat → Prop} {A B : World} (h : Kx X A B) {g : Nat} {t : TypeId} {cs : Array Value} (hx : ¬ X g) (hb : Blk A g t cs) : Blk B g t cs := h.same g cs t (0, 0) hx hb
theorem Kx.of_grown {X : Nat → Prop} {A B : World} {row : Option Nat} (hg : A.grownBy B row) (hr : ∀ r, row = some r → X r) : Kx X A B :=
  ⟨hg.size, fun g c t fr hx h => (hg.block g (Array.getElem?_eq_some_iff.1 h).1 (fun e => hx (hr g e.symm))).trans h⟩
theorem Kx.putObj {X : Nat → Prop} (W : World) (l : Nat) (o o' : Obj) (hl : W.heap[l]? = some o) (ho : o.isCells = false) : Kx X W (W.putObj l o') :=
  ⟨(grownBy_putObj' W l o').size, fun g c t fr _ h => by
    refine (World.putObj_heap_other ?_).trans h
    rintro rfl
    rw [hl] at h
    injection h with h
    subst h
    cases ho⟩

/-- A round's two ends as one. -/
theorem round_one {e : Ending} {W' : World} {K L A B C : World → Prop} (h1 : ∀ W', A W' → B W' → K W') (h2 : ∀ W', C W' → L W') :
    ((e = .returned (.bool true) ∧ A W' ∧ B W') ∨ (e = .returned (.bool false) ∧ C W')) → ∃ b, e = .returned (.bool b) ∧ ((b = true → K W') ∧ (b = false → L W'))
  | .inl ⟨he, a, b⟩ => ⟨true, he, fun _ => h1 _ a b, fun h => (by cases h)⟩
  | .inr ⟨he, c⟩ => ⟨false, he, fun h => (by cases h), fun _ => h2 _ c⟩

set_option maxRecDepth 100000 in
set_option maxHeartbeats 2000000 in
theorem places1_in (n first segs : Int) (hok : okB n segs = true) (hf : 0 ≤ first ∧ first ≤ 512) (m : Nat) (l bn bs bf : Nat) (X : Nat → Prop) (W : World)
    (hn : Blk W bn 3 #[.int .i64 n]) (hs : Blk W bs 3 #[.int .i64 segs]) (hfi : Blk W bf 3 #[.int .i64 first]) (xn : ¬ X bn) (xs : ¬ X bs) (xf : ¬ X bf) (hX : ∀ g, X g → g < W.heap.size)
    (J Jx : List Int → World → Prop) (hJ : AbidesFrom W.heap.size J) (hJx : AbidesFrom W.heap.size Jx)
    (hY : ∀ pre x W1, J pre W1 → pre.length < (pl n first segs).length → YieldAt Fence.wide (m - 1) Tryz.prog l #[.int .i64 x] W1 fun e W' =>
      (e = .returned (.bool true) ∧ J (pre ++ [x]) W' ∧ Kx X W1 W') ∨ (e = .returned (.bool false) ∧ Jx (pre ++ [x]) W'))
    (h0 : J [] W) :
    CallsIn Fence.wide m Tryz.prog 251 #[.func (.yield l) #[] #[], .pointer (some ⟨bn, 0, none⟩), .pointer (some ⟨bs, 0, none⟩), .pointer (some ⟨bf, 0, none⟩)] W fun e W' => (∃ v, e = .returned v) ∧
      ((∃ ys, ys = pl n first segs ∧ J ys W') ∨ (∃ pre, pre <+: pl n first segs ∧ Jx pre W')) := by
  obtain ⟨p1, p2, p3, p4⟩ := okB_true hok
  have f1 := hf.1
  have f2 := hf.2
  have c1 := hn.cell 0
  have c2 := hs.cell 0
  have e1 : W.cell? ⟨bn, 0, none⟩ = some (.int .i64 n) := by rw [c1]; rfl
  have e2 : W.cell? ⟨bs, 0, none⟩ = some (.int .i64 segs) := by rw [c2]; rfl
  clear c1 c2
  refine callsIn_of_wp Tryz.func251 rfl trivial ?_ rfl
  simp only [Tryz.ntmps251, List.size_toArray, List.length_cons, List.length_nil, Nat.reduceAdd, Nat.reduceSub, Array.replicate_succ, Array.replicate_zero, List.push_toArray, List.append_toArray, List.nil_append, List.cons_append]
  gi_wp2_with fail
  refine ⟨trivial, fun h => (by cases h), ?_⟩
  refine (callsIn_wide.2 (ahead_any n segs W)).mono ?_
  rintro e w' ⟨rfl, rfl⟩
  have k1 := (Blk.made W 3 #[.int .i64 n]).alloc (.cells #[.int .i64 segs] 3)
  have k2 := Blk.made (W.alloc (.cells #[.int .i64 n] 3)) 3 #[.int .i64 segs]
  rw [World.size_alloc] at k2
  have hx0 := (Kx.refl X W).alloc (.cells #[.int .i64 n] 3)
  have hx1 := hx0.alloc (.cells #[.int .i64 segs] 3)
  have hJ0 : J [] ((W.alloc (.cells #[.int .i64 n] 3)).alloc (.cells #[.int .i64 segs] 3)) := by
    refine hJ _ _ _ none (hJ _ _ _ none h0 (World.grownBy_alloc _ _ _) (fun r e => by cases e)) (World.grownBy_alloc _ _ _) (fun r e => by cases e)
  have e2' : ((W.alloc (.cells #[.int .i64 n] 3)).alloc (.cells #[.int .i64 segs] 3)).cell? ⟨bs, 0, none⟩ = some (.int .i64 segs) := by rw [((hs.alloc _).alloc _).cell]; rfl
  gi_wp2_with fail
  gi_loopw [13] (fun i wr => ∃ k : Nat, (k : Int) ≤ segs ∧ i = .int .i64 k ∧ J (plTo n first segs k) wr ∧ Kx X ((W.alloc (.cells #[.int .i64 n] 3)).alloc (.cells #[.int .i64 segs] 3)) wr) (fun i _ => (segs - intOf i).toNat)
  case atStart => exact ⟨0, by omega, rfl, hJ0, Kx.refl _ _⟩
  case round =>
    clear hJ0
    obtain ⟨k, hk, rfl, hJk, hKk⟩ := hrel
    by_cases hlt : (k : Int) < segs
    · have i1 : (0 : Int) ≤ (k : Int) := by omega
      have b1 := hKk.blk (by intro h; have := hX _ h; omega) k1
      have b2 := hKk.blk (by intro h; have := hX _ h; omega) k2
      have b3 := hKk.blk xf ((hfi.alloc _).alloc _)
      gi_wp2_with fail
      refine ⟨trivial, fun h => (by cases h), ?_⟩
      refine (callsIn_wide.2 (before_any n segs (k + 1) _ _ _ (by rw [b1.cell]; rfl) (by rw [b2.cell]; rfl) (by omega) (by omega) (by omega) (by omega) (by omega))).mono ?_
      rintro e w' ⟨rfl, rfl⟩
      gi_wp2_with fail
      refine ⟨trivial, fun h => (by cases h), ?_⟩
      refine (callsIn_wide.2 (before_any n segs k _ _ _ (by rw [b1.cell]; rfl) (by rw [b2.cell]; rfl) (by omega) (by omega) (by omega) (by omega) (by omega))).mono ?_
      rintro e w' ⟨rfl, rfl⟩
      have d1 := aZ_bound (a := (k : Int) + 1) hok (by omega) (by omega)
      have d2 := aZ_bound (a := (k : Int)) hok (by omega) (by omega)
      have d3 := sN_eq hok k
      have d4 := sN_le hok k
      have d5 : aZ n segs ((k : Int) + 1) - aZ n segs (k : Int) = ((sN n segs k : Nat) : Int) := by rw [d3]; rfl
      have D5 := Lib.hid d5
      clear d3 d5
      gi_wp2_with fail
      simp only [D5.out]
      gi_loopw [25] (fun i wr' => ∃ j : Nat, j ≤ sN n segs k ∧ i = .int .i64 j ∧ J (plTo n first segs k ++ (seg n first segs k).take j) wr' ∧ Kx X wr wr') (fun i _ => sN n segs k - (intOf i).toNat)
      case atStart => exact ⟨0, Nat.zero_le _, rfl, by simpa using hJk, Kx.refl _ _⟩
      case round =>
        rename_i wo
        obtain ⟨j, hj, rfl, hJj, hKj⟩ := hrel
        by_cases hjt : j < sN n segs k
        · have i2 : (0 : Int) ≤ (j : Int) := by omega
          have i3 : (j : Int) < ((sN n segs k : Nat) : Int) := by omega
          have i4 : ((sN n segs k : Nat) : Int) ≤ 8 := by omega
          have b4 := hKj.blk xf b3
          have b5 : wr.cell? ⟨bf, 0, none⟩ = some (.int .i64 first) := by rw [b4.cell]; rfl
          have q := div_bound (a := (j : Int) * 8) (b := ((sN n segs k : Nat) : Int)) (by omega) (by omega) (by omega)
          have n1 : IntKind.i64.wrap (first + (k : Int)) = first + (k : Int) := IntWalk.i64_in _ (by omega)
          have n2 : IntKind.i64.wrap (8 * (first + (k : Int))) = 8 * (first + (k : Int)) := IntWalk.i64_in _ (by omega)
          have n3 : IntKind.i64.wrap ((j : Int) * 8) = (j : Int) * 8 := IntWalk.i64_in _ (by omega)
          have n4 : ((j : Int) * 8).tdiv ((sN n segs k : Nat) : Int) = (j : Int) * 8 / ((sN n segs k : Nat) : Int) := Int.tdiv_eq_ediv_of_nonneg (by omega)
          have n5 : IntKind.i64.wrap ((j : Int) * 8 / ((sN n segs k : Nat) : Int)) = (j : Int) * 8 / ((sN n segs k : Nat) : Int) := IntWalk.i64_in _ (by omega)
          have n6 : IntKind.i64.wrap (8 * (first + (k : Int)) + (j : Int) * 8 / ((sN n segs k : Nat) : Int)) = 8 * (first + (k : Int)) + (j : Int) * 8 / ((sN n segs k : Nat) : Int) := IntWalk.i64_in _ (by omega)
          have n7 : ¬ ((sN n segs k : Nat) : Int) = 0 := by omega
          obtain ⟨fn, tmps, assign, body, hy, hR⟩ := hY _ (8 * (first + (k : Int)) + (j : Int) * 8 / ((sN n segs k : Nat) : Int)) wr.drew (hJ _ _ _ none hJj (grown_drew (World.grownBy.refl wr none)) (fun r e => by cases e)) (part_length_lt hlt hjt)
          have hmx : Tryz.prog.follows .mixedOrders = true := by kernel_rfl
          gi_wp2_with fail
          have hR' := hR.mono (fun e W' => round_one (K := fun W' => J (plTo n first segs k ++ (seg n first segs k).take (j + 1)) W' ∧ Kx X wr.drew W') (L := fun W' => Jx (plTo n first segs k ++ (seg n first segs k).take (j + 1)) W') (fun W' h1 h2 => ⟨by rw [← part_step hjt]; push_cast; exact h1, h2⟩) (fun W' h1 => by rw [← part_step hjt]; push_cast; exact h1))
          clear hR hJj q
          gi_region_with_o (refine ⟨fun h => (by cases h), ?_⟩; refine hR'.mono ?_; rintro e W3 ⟨b, rfl, hq⟩)
          all_goals (cases b)
          all_goals gi_wp2_with fail
          · have hq' := hq.2 (by simp)
            refine bodyPost_ret (results_none rfl _ _ _) rfl ?_
            exact ⟨⟨_, rfl⟩, .inr ⟨_, part_prefix hlt, hq'⟩⟩
          · have hq' := hq.1 (by simp)
            go_roundw
            case rel => exact ⟨j + 1, by omega, by go_num, hq'.1, hKj.trans ((Kx.refl X wr).drew.trans hq'.2)⟩
            case measure => (simp [intOf]; omega)
          · have hq' := hq.2 (by simp)
            refine bodyPost_ret (results_none rfl _ _ _) rfl ?_
            exact ⟨⟨_, rfl⟩, .inr ⟨_, part_prefix hlt, hq'⟩⟩
          · have hq' := hq.1 (by simp)
            go_roundw
            case rel => exact ⟨j + 1, by omega, by go_num, hq'.1, hKj.trans ((Kx.refl X wr).drew.trans hq'.2)⟩
            case measure => (simp [intOf]; omega)
        · obtain rfl : j = sN n segs k := by omega
          gi_wp2_with fail
          go_roundw
          case rel => exact ⟨k + 1, by omega, by go_num, by rw [plTo_succ]; rw [List.take_of_length_le (by rw [seg_length]; omega)] at hJj; exact hJj, hKk.trans hKj⟩
          case measure => simp [intOf]; omega
    · obtain rfl : (k : Int) = segs := by omega
      have hfin : J (pl n first (k : Int)) wr := by unfold pl; simpa using hJk
      gi_wp2_with fail
      go_end0
      exact ⟨⟨_, rfl⟩, .inl hfin⟩
end Go.Proofs.YtaonkbfekadalaaGreatDoor
/- What Places and Place come to. -/
namespace Go.Proofs.YtaonkbfekadalaaGreatDoor
open Go.RowKit Go.Shelf
attribute [local go_sem] Oper.semAt_some
set_option linter.unusedVariables false

theorem places_any (n first segs : Int) (w : World) :
    Calls Tryz.prog 219 #[.int .i64 n, .int .i64 first, .int .i64 segs] w fun e w' => e = .returned (.func (.func 251) #[] #[.pointer (some ⟨w.heap.size, 0, none⟩), .pointer (some ⟨w.heap.size + 2, 0, none⟩), .pointer (some ⟨w.heap.size + 1, 0, none⟩)]) ∧
      ((w.alloc (.cells #[.int .i64 n] 3)).alloc (.cells #[.int .i64 first] 3)).alloc (.cells #[.int .i64 segs] 3) = w' := by
  have hmf : ∀ (fn : Fn) (first cap : Array Value) (w : World), (Instr.makeFunc fn first cap).run Tryz.prog w = .ok (.func fn first cap) w := fun _ _ _ _ => rfl
  go_enter Tryz.func219, Tryz.ntmps219
  go_wp2
  go_ret
  exact ⟨rfl, rfl⟩

theorem places_stops (n first segs : Int) (hok : okB n segs = true) (hf : 0 ≤ first ∧ first ≤ 512) (m : Nat) (bn bs bf : Nat) (X : Nat → Prop) (w : World)
    (hn : Blk w bn 3 #[.int .i64 n]) (hs : Blk w bs 3 #[.int .i64 segs]) (hfi : Blk w bf 3 #[.int .i64 first]) (xn : ¬ X bn) (xs : ¬ X bs) (xf : ¬ X bf) (hX : ∀ g, X g → g < w.heap.size) :
    SeqStopsK Fence.wide m Tryz.prog 251 #[.pointer (some ⟨bn, 0, none⟩), .pointer (some ⟨bs, 0, none⟩), .pointer (some ⟨bf, 0, none⟩)] (fun x : Int => #[Value.int .i64 x]) (Kx X) (fun ys => ys = pl n first segs) (fun pre => pre <+: pl n first segs) (pl n first segs).length w :=
  fun l J Jx W hW hJ hJx hY h0 =>
    places1_in n first segs hok hf m l bn bs bf X W (hn.below hW hn.lt) (hs.below hW hs.lt) (hfi.below hW hfi.lt) xn xs xf (fun g hg => Nat.lt_of_lt_of_le (hX g hg) hW.size) J Jx hJ hJx hY h0

theorem Tryz.infoI1 : (Tryz.prog.info? 3).map (fun i => (i.zero, i.size, i.bytes)) = some (some (.int .i64 0), 1, 8) := by kernel_rfl
theorem make_room (N : Nat) (hn : N ≤ 4398046511104) (W : World) :
    (Instr.makeSlice 31 (.int .i64 0) (.int .i64 (N : Int))).run Tryz.prog W = .ok (.slice (some ⟨W.heap.size, 0, none⟩) 0 N) (W.alloc (.cells (cells (zeros N)) 3)) := by
  obtain ⟨i0, hi, hz0, hz1, hz2⟩ := info_parts Tryz.infoI1
  have h := run_make (P := Tryz.prog) W 31 3 i0 (.int .i64 0) Tryz.underlying31 hi hz0 .i64 .i64 0 (N : Int) (by omega) (by omega) (by rw [hz2]; omega) (by omega)
  rw [h, hz1]
  simp only [Int.toNat_natCast, Value.cells, made_zeros]
  rfl

theorem own_ne {w : World} {base : Nat} {e : TypeId} {size n : Nat} {v : Value} {xs : List Value} {row : Option Nat} (h : w.ownsRow base e size v n xs) (hr : ∀ r, row = some r → ∃ o : Obj, w.heap[r]? = some o ∧ o.isCells = false) : v.ownBlock = none ∨ v.ownBlock ≠ row := by
  rcases h.2 with ⟨rfl, _⟩ | ⟨g, cap, cur, rfl, _, hh, _⟩
  · exact .inl rfl
  · refine .inr fun e => ?_
    obtain ⟨o, ho, hc⟩ := hr g e.symm
    rw [hh] at ho
    injection ho with ho
    subst ho
    cases hc
theorem own_cells {w : World} {base : Nat} {e : TypeId} {size n g l c : Nat} {xs : List Value} {o : Obj} (h : w.ownsRow base e size (.slice (some ⟨g, 0, none⟩) l c) n xs) (ho : w.heap[g]? = some o) : o.isCells = true := by
  rcases h.2 with ⟨h, _⟩ | ⟨g', cap, cur, hv, _, hh, _⟩
  · cases h
  · injection hv with hv
    injection hv with hv
    injection hv with hv
    subst hv
    rw [hh] at ho
    injection ho with ho
    subst ho
    rfl
theorem blk_ne {w : World} {g : Nat} {t : TypeId} {cs : Array Value} {row : Option Nat} (h : Blk w g t cs) (hr : ∀ r, row = some r → ∃ o : Obj, w.heap[r]? = some o ∧ o.isCells = false) : some g ≠ row := fun e => by
  obtain ⟨o, ho, hc⟩ := hr g e.symm
  unfold Blk at h
  rw [h] at ho
  injection ho with ho
  subst ho
  cases hc
theorem one_new (W : World) (v : Value) (e : TypeId) : ∀ j u, [v][j]? = some u → (W.alloc (.cells #[v] e)).cell? ((⟨W.heap.size, 0, none⟩ : Addr).add j) = some u := by
  intro j u hj
  match j, hj with
  | 0, hj =>
    simp at hj
    subst hj
    simp [Addr.add]

theorem RI_of_own {w : World} {base : Nat} {g cap : Nat} {xs : List Int} {n : Nat} (h : w.ownsRow base 3 1 (.slice (some ⟨g, 0, none⟩) n cap) n (xs.map (Value.int .i64))) (hn : xs.length = n) : RI w (some ⟨g, 0, none⟩) xs := by
  intro hp
  refine ⟨g, 0, rfl, fun k hk => ?_⟩
  have := h.cells (g := g) rfl k (.int .i64 (nth xs k)) (by rw [List.getElem?_map, List.getElem?_eq_getElem hk, nth_eq hk]; rfl)
  have e : (⟨g, 0, none⟩ : Addr).add k = ⟨g, 0 + k, none⟩ := by unfold Addr.add; split <;> simp_all
  rwa [e] at this

set_option maxRecDepth 100000 in
set_option maxHeartbeats 2000000 in
theorem Places_ok (N : Nat) (first segs : Int) (w : World) (h : okB (N : Int) segs = true) (hr : 0 ≤ first ∧ first ≤ 512 - segs) :
    Calls Tryz.prog 182 #[.int .i64 N, .int .i64 first, .int .i64 segs] w fun e w' => e = .returned (.tuple #[.slice (some ⟨w.heap.size, 0, none⟩) N N, .int .i64 0]) ∧
      RI w' (some ⟨w.heap.size, 0, none⟩) (pl N first segs) ∧ Below w.heap.size w w' := by
  obtain ⟨p1, p2, p3, p4⟩ := okB_true h
  have hmk := make_room N (by omega)
  refine (callsIn_wide (n := 3)).1 ?_
  refine callsIn_of_wp_marks Tryz.func182 rfl trivial ?_ rfl
  simp only [Tryz.ntmps182, List.size_toArray, List.length_cons, List.length_nil, Nat.reduceAdd, Nat.reduceSub, Array.replicate_succ, Array.replicate_zero, List.push_toArray, List.append_toArray, List.nil_append, List.cons_append]
  gi_wp2_with fail
  refine ⟨trivial, ?_⟩
  refine (callsIn_wide.2 (check_ok N first segs _ h hr)).mono ?_
  rintro e w' ⟨rfl, rfl⟩
  gi_wp2_with fail
  refine ⟨trivial, ?_⟩
  refine (callsIn_wide.2 (places_any N first segs _)).mono ?_
  rintro e w' ⟨rfl, rfl⟩
  gi_wp2_with fail
  have hl : (pl (N : Int) first segs).length = N := by have := pl_length (first := first) h; omega
  have HL := Lib.hid hl
  clear hl
  obtain ⟨i0, hi, hz0, hz1, hz2⟩ := info_parts Tryz.infoI1
  have q0 := Blk.made w 3 (cells (zeros N))
  have q1 := Blk.made (w.alloc (.cells (cells (zeros N)) 3)) 31 #[.slice (some ⟨w.heap.size, 0, none⟩) 0 N]
  have q2 := Blk.made ((w.alloc (.cells (cells (zeros N)) 3)).alloc (.cells #[.slice (some ⟨w.heap.size, 0, none⟩) 0 N] 31)) 3 #[.int .i64 (N : Int)]
  have q3 := Blk.made (((w.alloc (.cells (cells (zeros N)) 3)).alloc (.cells #[.slice (some ⟨w.heap.size, 0, none⟩) 0 N] 31)).alloc (.cells #[.int .i64 (N : Int)] 3)) 3 #[.int .i64 first]
  have q4 := Blk.made ((((w.alloc (.cells (cells (zeros N)) 3)).alloc (.cells #[.slice (some ⟨w.heap.size, 0, none⟩) 0 N] 31)).alloc (.cells #[.int .i64 (N : Int)] 3)).alloc (.cells #[.int .i64 first] 3)) 3 #[.int .i64 segs]
  simp only [World.size_alloc] at q1 q2 q3 q4
  replace q0 := (((q0.alloc (.cells #[.slice (some ⟨w.heap.size, 0, none⟩) 0 N] 31)).alloc (.cells #[.int .i64 (N : Int)] 3)).alloc (.cells #[.int .i64 first] 3)).alloc (.cells #[.int .i64 segs] 3)
  replace q1 := ((q1.alloc (.cells #[.int .i64 (N : Int)] 3)).alloc (.cells #[.int .i64 first] 3)).alloc (.cells #[.int .i64 segs] 3)
  replace q2 := (q2.alloc (.cells #[.int .i64 first] 3)).alloc (.cells #[.int .i64 segs] 3)
  replace q3 := q3.alloc (.cells #[.int .i64 segs] 3)
  have hB0 : Below w.heap.size w (((((w.alloc (.cells (cells (zeros N)) 3)).alloc (.cells #[.slice (some ⟨w.heap.size, 0, none⟩) 0 N] 31)).alloc (.cells #[.int .i64 (N : Int)] 3)).alloc (.cells #[.int .i64 first] 3)).alloc (.cells #[.int .i64 segs] 3)) :=
    (((((Below.refl w.heap.size w).alloc (Nat.le_refl _) _).alloc (by simp) _).alloc (by simp; omega) _).alloc (by simp; omega) _).alloc (by simp; omega) _
  have hsz : (((((w.alloc (.cells (cells (zeros N)) 3)).alloc (.cells #[.slice (some ⟨w.heap.size, 0, none⟩) 0 N] 31)).alloc (.cells #[.int .i64 (N : Int)] 3)).alloc (.cells #[.int .i64 first] 3)).alloc (.cells #[.int .i64 segs] 3)).heap.size = w.heap.size + 5 := by simp
  generalize (((((w.alloc (.cells (cells (zeros N)) 3)).alloc (.cells #[.slice (some ⟨w.heap.size, 0, none⟩) 0 N] 31)).alloc (.cells #[.int .i64 (N : Int)] 3)).alloc (.cells #[.int .i64 first] 3)).alloc (.cells #[.int .i64 segs] 3)) = W0 at q0 q1 q2 q3 q4 hB0 hsz ⊢
  have hown : W0.ownsRow w.heap.size 3 1 (.slice (some ⟨w.heap.size, 0, none⟩) 0 N) 0 [] := ⟨by simp, .inr ⟨w.heap.size, N, cells (zeros N), rfl, Nat.le_refl _, q0, Nat.zero_le _, by unfold maxLen; omega, by simp [cells, zeros], by simp⟩⟩
  refine wpIn_rangeFunc_ownF rfl (by decide) (gf := 251) (lb := #[.pointer (some ⟨w.heap.size + 1 + 1, 0, none⟩), .pointer (some ⟨w.heap.size + 1 + 1 + 2, 0, none⟩), .pointer (some ⟨w.heap.size + 1 + 1 + 1, 0, none⟩)]) rfl trivial (enters_of Tryz.func251 (by kernel_rfl) rfl)
    (places_stops N first segs h ⟨hr.1, by omega⟩ _ (w.heap.size + 1 + 1) (w.heap.size + 1 + 1 + 2) (w.heap.size + 1 + 1 + 1) (fun g => g = w.heap.size ∨ g = w.heap.size + 1) W0 q2 q4 q3 (by omega) (by omega) (by omega) (by intro g hg; omega))
    Kx.trans (fun W l o o' _ hl ho _ => Kx.putObj W l o o' hl ho) (Below.refl _ _) (fun _ => rfl)
    (fun pre W => (W.ownsRow w.heap.size 3 1 (.slice (some ⟨w.heap.size, 0, none⟩) pre.length N) pre.length (pre.map (Value.int .i64)) ∧ Blk W (w.heap.size + 1) 31 #[.slice (some ⟨w.heap.size, 0, none⟩) pre.length N]) ∧ Below w.heap.size w W)
    (fun _ _ _ => False)
    (OwnFrom.and (Own.from (fun s A B row hs hg hrw => ⟨hs.1.kept hg (own_ne hs.1 hrw), hs.2.grown hg (blk_ne hs.2 hrw)⟩) _) (ownFrom_below (Nat.le_refl _) (by omega)))
    (fun _ _ _ _ _ hs _ _ => hs)
    ⟨⟨hown, q1⟩, hB0⟩
    (fun x => { tmps := #[.int .i64 N, .int .i64 first, .int .i64 segs, undef, undef, undef, .slice none 0 0, .int .i64 0, .int .i64 0, .pointer (some ⟨w.heap.size + 1, 0, none⟩), .int .i64 x, .int .i64 N, .int .i64 first, .int .i64 segs, .int .i64 0, .int .i64 0, .bool false, undef, .int .i64 N, .slice (some ⟨w.heap.size, 0, none⟩) 0 N, .int .i64 N, .int .i64 first, .int .i64 segs,
      .func (.func 251) #[] #[.pointer (some ⟨w.heap.size + 1 + 1, 0, none⟩), .pointer (some ⟨w.heap.size + 1 + 1 + 2, 0, none⟩), .pointer (some ⟨w.heap.size + 1 + 1 + 1, 0, none⟩)], .int .i64 x, undef, undef, undef, undef, undef], defers := [] }) ?assign ?body ?done ?stop
  case assign =>
    intro l x W K hK
    gi_wp2
    exact hK
  case body =>
    rintro l pre x W ⟨⟨ho, hk⟩, hB⟩ hlt
    rw [HL.out] at hlt
    have hc1 : W.cell? ⟨w.heap.size + 1, 0, none⟩ = some (.slice (some ⟨w.heap.size, 0, none⟩) pre.length N) := by rw [hk.cell]; rfl
    have hWz := hk.lt
    gi_wp2_with (gi_at_builtin; refine wpListIn_append_fits _ rfl _ _ 31 rfl w.heap.size 3 i0 1 Tryz.underlying31 hi hz1 w.heap.size pre.length N (pre.map (Value.int .i64)) rfl (ho.alloc _) ⟨W.heap.size, 0, none⟩ 1 1 [.int .i64 x] rfl rfl (one_new W _ 3) (by intro u hu; simp at hu; subst hu; rfl) (by omega) ?_; intro w1 ho1 hg1; have hk1 := (hk.alloc (.cells #[.int .i64 x] 3)).grown hg1 (by simp); have hd1 : w1.cell? ⟨w.heap.size + 1, 0, none⟩ = some (.slice (some ⟨w.heap.size, 0, none⟩) pre.length N) := (by rw [hk1.cell]; rfl); have hf1 := hk1.frozen 0)
    have hg2 := grown_more (w := w1) (d := w.heap.size + 1) (a := w1) (World.grownBy.refl w1 _) (p := ⟨w.heap.size + 1, 0, none⟩) (.inl rfl) (.slice (some ⟨w.heap.size, 0, none⟩) (pre.length + 1) N)
    have hk2 := hk1.put 0 (.slice (some ⟨w.heap.size, 0, none⟩) (pre.length + 1) N)
    refine ⟨?_, ?_, ⟨?_, ?_⟩, ?_⟩
    · refine (KeepsOthers.alloc W (.cells #[.int .i64 x] 3)).trans ((KeepsOthers.of_grownBy hg1 ?_).trans (KeepsOthers.setCell _ _ _))
      intro j o e hj
      injection e with e
      subst e
      exact own_cells (ho.alloc (.cells #[.int .i64 x] 3)) hj
    · refine (((Kx.refl _ W).alloc (.cells #[.int .i64 x] 3)).trans (Kx.of_grown hg1 ?_)).trans (Kx.of_grown hg2 ?_)
      · intro r e; injection e with e; exact .inl e.symm
      · intro r e; injection e with e; exact .inr e.symm
    · have := ho1.kept hg2 (.inr (by simp [Value.ownBlock]))
      simpa using this
    · simpa using hk2
    · exact (((hB.alloc hB.size (.cells #[.int .i64 x] 3)).grown hg1 (by simp; omega) (row_some (Nat.le_refl _)))).setCell (p := ⟨w.heap.size + 1, 0, none⟩) (by simp) _
  case done =>
    rintro D ys W hD rfl ⟨⟨ho, hk⟩, hB⟩ hK
    have hc1 : W.cell? ⟨w.heap.size + 1, 0, none⟩ = some (.slice (some ⟨w.heap.size, 0, none⟩) (pl (N : Int) first segs).length N) := by rw [hk.cell]; rfl
    rw [HL.out] at hc1
    gi_wp2
    refine ⟨by simp, .inl ⟨_, _, rfl, run_takeDeferred hK, ?_⟩⟩
    refine ⟨_, results_tmp2 rfl _ _ _, rfl, ?_, ?_⟩
    · rw [HL.out] at ho
      refine RI_of_own (base := w.heap.size) (cap := N) ?_ HL.out
      exact ho.kept (grownBy_putObj' W D (.deferred none)) (own_ne ho (fun r e => by cases e; exact ⟨_, hK, rfl⟩))
    · exact hB.grown (grownBy_putObj' W D (.deferred none)) hB.size (row_some (by omega))
  case stop =>
    rintro D c pre W _ _ hh _
    exact hh.elim
end Go.Proofs.YtaonkbfekadalaaGreatDoor
