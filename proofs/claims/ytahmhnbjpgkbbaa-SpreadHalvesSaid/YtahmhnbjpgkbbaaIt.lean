/- The iterator that goes through the slots of a spread: its contract, for every body that turns no more than blocks of its own. -/
import Derived.Test.YtahmhnbjpgkbbaaPl
import Derived.RangeFuncNested
import Derived.RangeFuncBound
import Derived.RangeFuncCalls
import Derived.RangeFuncLeaves
import Derived.Shelf.Abstract
import Derived.Shelf.RegionOpen
import Derived.OwnWalkIn
import Derived.TacticsInMore
import Derived.LoopNIn
import Derived.LoopIn
namespace Go.Proofs.Ytahmhnbjpgkbbaa
open Go.RowKit Go.Shelf
attribute [local go_sem] Oper.semAt_some
set_option linter.unusedVariables false

/-- What a round keeps: all blocks of cells but those of X. -/
structure Kx (X : Nat → Prop) (A B : World) : Prop where
  size : A.heap.size ≤ B.heap.size
  same : ∀ g c t fr, ¬ X g → A.heap[g]? = some (.cells c t fr) → B.heap[g]? = some (.cells c t fr)
theorem Kx.trans {X : Nat → Prop} {A B C : World} (h : Kx X A B) (k : Kx X B C) : Kx X A C :=
  ⟨Nat.le_trans h.size k.size, fun g c t fr hx hg => k.same g c t fr hx (h.same g c t fr hx hg)⟩
theorem Kx.refl (X : Nat → Prop) (A : World) : Kx X A A := ⟨Nat.le_refl _, fun _ _ _ _ _ h => h⟩
theorem Kx.alloc {X : Nat → Prop} {A B : World} (h : Kx X A B) (o : Obj) : Kx X A (B.alloc o) :=
  ⟨by have := h.size; simp; omega, fun g c t fr hx hg => by
    have h1 := h.same g c t fr hx hg
    exact (Below.heap_alloc B o g (Array.getElem?_eq_some_iff.1 h1).1).trans h1⟩
theorem Kx.drewN {X : Nat → Prop} {A B : World} (h : Kx X A B) (n : Nat) : Kx X A (B.drewN n) := ⟨h.size, h.same⟩
theorem Kx.drew {X : Nat → Prop} {A B : World} (h : Kx X A B) : Kx X A B.drew := ⟨h.size, h.same⟩
theorem Kx.blk {X : Nat → Prop} {A B : World} (h : Kx X A B) {g : Nat} {t : TypeId} {cs : Array Value} (hx : ¬ X g) (hb : Blk A g t cs) : Blk B g t cs := h.same g cs t (0, 0) hx hb
theorem Kx.of_grown {X : Nat → Prop} {A B : World} {row : Option Nat} (hg : A.grownBy B row) (hr : ∀ r, row = some r → X r) : Kx X A B :=
  ⟨hg.size, fun g c t fr hx h => (hg.block g (Array.getElem?_eq_some_iff.1 h).1 (fun e => hx (hr g e.symm))).trans h⟩
theorem Kx.putObj {X : Nat → Prop} (W : World) (l : Nat) (o o' : Obj) (hl : W.heap[l]? = some o) (ho : o.isCells = false) : Kx X W (W.putObj l o') :=
  ⟨(grownBy_putObj' W l o').size, fun g c t fr _ h => by
    refine (World.putObj_heap_other ?_).trans h
    rintro rfl
    rw [hl] at h
    injection h with h
    subst h
    cases ho⟩

/-- A round's two ends as one. -/
theorem round_one {e : Ending} {W' : World} {K L A B C : World → Prop} (h1 : ∀ W', A W' → B W' → K W') (h2 : ∀ W', C W' → L W') :
    ((e = .returned (.bool true) ∧ A W' ∧ B W') ∨ (e = .returned (.bool false) ∧ C W')) → ∃ b, e = .returned (.bool b) ∧ ((b = true → K W') ∧ (b = false → L W'))
  | .inl ⟨he, a, b⟩ => ⟨true, he, fun _ => h1 _ a b, fun h => (by cases h)⟩
  | .inr ⟨he, c⟩ => ⟨false, he, fun h => (by cases h), fun _ => h2 _ c⟩

set_option maxRecDepth 100000 in
set_option maxHeartbeats 2000000 in
theorem places1_in (n first segs : Int) (hok : okB n segs = true) (hf : 0 ≤ first ∧ first ≤ 512) (m : Nat) (l bn bs bf : Nat) (X : Nat → Prop) (W : World)
    (hn : Blk W bn 3 #[.int .i64 n]) (hs : Blk W bs 3 #[.int .i64 segs]) (hfi : Blk W bf 3 #[.int .i64 first]) (xn : ¬ X bn) (xs : ¬ X bs) (xf : ¬ X bf) (hX : ∀ g, X g → g < W.heap.size)
    (J Jx : List Int → World → Prop) (hJ : AbidesFrom W.heap.size J) (hJx : AbidesFrom W.heap.size Jx)
    (hY : ∀ pre x W1, J pre W1 → pre.length < (pl n first segs).length → YieldAt Fence.wide (m - 1) Try.prog l #[.int .i64 x] W1 fun e W' =>
      (e = .returned (.bool true) ∧ J (pre ++ [x]) W' ∧ Kx X W1 W') ∨ (e = .returned (.bool false) ∧ Jx (pre ++ [x]) W'))
    (h0 : J [] W) :
    CallsIn Fence.wide m Try.prog 31 #[.func (.yield l) #[] #[], .pointer (some ⟨bn, 0, none⟩), .pointer (some ⟨bs, 0, none⟩), .pointer (some ⟨bf, 0, none⟩)] W fun e W' => (∃ v, e = .returned v) ∧
      ((∃ ys, ys = pl n first segs ∧ J ys W') ∨ (∃ pre, pre <+: pl n first segs ∧ Jx pre W')) := by
  obtain ⟨p1, p2, p3, p4⟩ := okB_true hok
  have f1 := hf.1
  have f2 := hf.2
  have c1 := hn.cell 0
  have c2 := hs.cell 0
  have e1 : W.cell? ⟨bn, 0, none⟩ = some (.int .i64 n) := by rw [c1]; rfl
  have e2 : W.cell? ⟨bs, 0, none⟩ = some (.int .i64 segs) := by rw [c2]; rfl
  clear c1 c2
  refine callsIn_of_wp Try.func31 rfl trivial ?_ rfl
  simp only [Try.ntmps31, List.size_toArray, List.length_cons, List.length_nil, Nat.reduceAdd, Nat.reduceSub, Array.replicate_succ, Array.replicate_zero, List.push_toArray, List.append_toArray, List.nil_append, List.cons_append]
  gi_wp2_with fail
  refine ⟨trivial, fun h => (by cases h), ?_⟩
  refine (callsIn_wide.2 (ahead_any n segs W)).mono ?_
  rintro e w' ⟨rfl, rfl⟩
  have k1 := (Blk.made W 3 #[.int .i64 n]).alloc (.cells #[.int .i64 segs] 3)
  have k2 := Blk.made (W.alloc (.cells #[.int .i64 n] 3)) 3 #[.int .i64 segs]
  rw [World.size_alloc] at k2
  have hx0 := (Kx.refl X W).alloc (.cells #[.int .i64 n] 3)
  have hx1 := hx0.alloc (.cells #[.int .i64 segs] 3)
  have hJ0 : J [] ((W.alloc (.cells #[.int .i64 n] 3)).alloc (.cells #[.int .i64 segs] 3)) := by
    refine hJ _ _ _ none (hJ _ _ _ none h0 (World.grownBy_alloc _ _ _) (fun r e => by cases e)) (World.grownBy_alloc _ _ _) (fun r e => by cases e)
  have e2' : ((W.alloc (.cells #[.int .i64 n] 3)).alloc (.cells #[.int .i64 segs] 3)).cell? ⟨bs, 0, none⟩ = some (.int .i64 segs) := by rw [((hs.alloc _).alloc _).cell]; rfl
  gi_wp2_with fail
  gi_loopw [13] (fun i wr => ∃ k : Nat, (k : Int) ≤ segs ∧ i = .int .i64 k ∧ J (plTo n first segs k) wr ∧ Kx X ((W.alloc (.cells #[.int .i64 n] 3)).alloc (.cells #[.int .i64 segs] 3)) wr) (fun i _ => (segs - intOf i).toNat)
  case atStart => exact ⟨0, by omega, rfl, hJ0, Kx.refl _ _⟩
  case round =>
    clear hJ0
    obtain ⟨k, hk, rfl, hJk, hKk⟩ := hrel
    by_cases hlt : (k : Int) < segs
    · have i1 : (0 : Int) ≤ (k : Int) := by omega
      have b1 := hKk.blk (by intro h; have := hX _ h; omega) k1
      have b2 := hKk.blk (by intro h; have := hX _ h; omega) k2
      have b3 := hKk.blk xf ((hfi.alloc _).alloc _)
      gi_wp2_with fail
      refine ⟨trivial, fun h => (by cases h), ?_⟩
      refine (callsIn_wide.2 (before_any n segs (k + 1) _ _ _ (by rw [b1.cell]; rfl) (by rw [b2.cell]; rfl) (by omega) (by omega) (by omega) (by omega) (by omega))).mono ?_
      rintro e w' ⟨rfl, rfl⟩
      gi_wp2_with fail
      refine ⟨trivial, fun h => (by cases h), ?_⟩
      refine (callsIn_wide.2 (before_any n segs k _ _ _ (by rw [b1.cell]; rfl) (by rw [b2.cell]; rfl) (by omega) (by omega) (by omega) (by omega) (by omega))).mono ?_
      rintro e w' ⟨rfl, rfl⟩
      have d1 := aZ_bound (a := (k : Int) + 1) hok (by omega) (by omega)
      have d2 := aZ_bound (a := (k : Int)) hok (by omega) (by omega)
      have d3 := sN_eq hok k
      have d4 := sN_le hok k
      have d5 : aZ n segs ((k : Int) + 1) - aZ n segs (k : Int) = ((sN n segs k : Nat) : Int) := by rw [d3]; rfl
      have D5 := Lib.hid d5
      clear d3 d5
      gi_wp2_with fail
      simp only [D5.out]
      gi_loopw [25] (fun i wr' => ∃ j : Nat, j ≤ sN n segs k ∧ i = .int .i64 j ∧ J (plTo n first segs k ++ (seg n first segs k).take j) wr' ∧ Kx X wr wr') (fun i _ => sN n segs k - (intOf i).toNat)
      case atStart => exact ⟨0, Nat.zero_le _, rfl, by simpa using hJk, Kx.refl _ _⟩
      case round =>
        rename_i wo
        obtain ⟨j, hj, rfl, hJj, hKj⟩ := hrel
        by_cases hjt : j < sN n segs k
        · have i2 : (0 : Int) ≤ (j : Int) := by omega
          have i3 : (j : Int) < ((sN n segs k : Nat) : Int) := by omega
          have i4 : ((sN n segs k : Nat) : Int) ≤ 8 := by omega
          have b4 := hKj.blk xf b3
          have b5 : wr.cell? ⟨bf, 0, none⟩ = some (.int .i64 first) := by rw [b4.cell]; rfl
          have q := div_bound (a := (j : Int) * 8) (b := ((sN n segs k : Nat) : Int)) (by omega) (by omega) (by omega)
          have n1 : IntKind.i64.wrap (first + (k : Int)) = first + (k : Int) := IntWalk.i64_in _ (by omega)
          have n2 : IntKind.i64.wrap (8 * (first + (k : Int))) = 8 * (first + (k : Int)) := IntWalk.i64_in _ (by omega)
          have n3 : IntKind.i64.wrap ((j : Int) * 8) = (j : Int) * 8 := IntWalk.i64_in _ (by omega)
          have n4 : ((j : Int) * 8).tdiv ((sN n segs k : Nat) : Int) = (j : Int) * 8 / ((sN n segs k : Nat) : Int) := Int.tdiv_eq_ediv_of_nonneg (by omega)
          have n5 : IntKind.i64.wrap ((j : Int) * 8 / ((sN n segs k : Nat) : Int)) = (j : Int) * 8 / ((sN n segs k : Nat) : Int) := IntWalk.i64_in _ (by omega)
          have n6 : IntKind.i64.wrap (8 * (first + (k : Int)) + (j : Int) * 8 / ((sN n segs k : Nat) : Int)) = 8 * (first + (k : Int)) + (j : Int) * 8 / ((sN n segs k : Nat) : Int) := IntWalk.i64_in _ (by omega)
          have n7 : ¬ ((sN n segs k : Nat) : Int) = 0 := by omega
          obtain ⟨fn, tmps, assign, body, hy, hR⟩ := hY _ (8 * (first + (k : Int)) + (j : Int) * 8 / ((sN n segs k : Nat) : Int)) wr.drew (hJ _ _ _ none hJj (grown_drew (World.grownBy.refl wr none)) (fun r e => by cases e)) (part_length_lt hlt hjt)
          have hmx : Try.prog.follows .mixedOrders = true := by kernel_rfl
          gi_wp2_with fail
          have hR' := hR.mono (fun e W' => round_one (K := fun W' => J (plTo n first segs k ++ (seg n first segs k).take (j + 1)) W' ∧ Kx X wr.drew W') (L := fun W' => Jx (plTo n first segs k ++ (seg n first segs k).take (j + 1)) W') (fun W' h1 h2 => ⟨by rw [← part_step hjt]; push_cast; exact h1, h2⟩) (fun W' h1 => by rw [← part_step hjt]; push_cast; exact h1))
          clear hR hJj q
          gi_region_with_o (refine ⟨fun h => (by cases h), ?_⟩; refine hR'.mono ?_; rintro e W3 ⟨b, rfl, hq⟩)
          all_goals (cases b)
          all_goals gi_wp2_with fail
          · have hq' := hq.2 (by simp)
            refine bodyPost_ret (results_none rfl _ _ _) rfl ?_
            exact ⟨⟨_, rfl⟩, .inr ⟨_, part_prefix hlt, hq'⟩⟩
          · have hq' := hq.1 (by simp)
            go_roundw
            case rel => exact ⟨j + 1, by omega, by go_num, hq'.1, hKj.trans ((Kx.refl X wr).drew.trans hq'.2)⟩
            case measure => (simp [intOf]; omega)
          · have hq' := hq.2 (by simp)
            refine bodyPost_ret (results_none rfl _ _ _) rfl ?_
            exact ⟨⟨_, rfl⟩, .inr ⟨_, part_prefix hlt, hq'⟩⟩
          · have hq' := hq.1 (by simp)
            go_roundw
            case rel => exact ⟨j + 1, by omega, by go_num, hq'.1, hKj.trans ((Kx.refl X wr).drew.trans hq'.2)⟩
            case measure => (simp [intOf]; omega)
        · obtain rfl : j = sN n segs k := by omega
          gi_wp2_with fail
          go_roundw
          case rel => exact ⟨k + 1, by omega, by go_num, by rw [plTo_succ]; rw [List.take_of_length_le (by rw [seg_length]; omega)] at hJj; exact hJj, hKk.trans hKj⟩
          case measure => simp [intOf]; omega
    · obtain rfl : (k : Int) = segs := by omega
      have hfin : J (pl n first (k : Int)) wr := by unfold pl; simpa using hJk
      gi_wp2_with fail
      go_end0
      exact ⟨⟨_, rfl⟩, .inl hfin⟩
end Go.Proofs.Ytahmhnbjpgkbbaa
