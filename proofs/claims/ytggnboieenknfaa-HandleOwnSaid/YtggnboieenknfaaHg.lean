/- The document's table: Take, Move, Free. -/
import Derived.Test.YtggnboieenknfaaHf
namespace Go.Proofs.Ytggnboieenknfaa
open Go.RowKit Go.Maps
set_option linter.unusedVariables false

set_option maxRecDepth 100000 in
theorem RTake_any {w : World} {g base : Nat} {r : List Int} (h : RM w g base r) (hr : r.length ≤ 1000000) (x : Int) :
    Calls Try.prog 24 #[.pointer (some ⟨g, 0, none⟩), .int .i64 x] w fun e w' => e = .returned (.tuple #[.int .i64 (takeV r x).2.1, .int .i64 (takeV r x).2.2]) ∧ RM w' g base (takeV r x).1 ∧ Below base w w' := by
  have hs := slots_any x w
  obtain ⟨i0, hi, hz0, hz1, hz2⟩ := info_parts Try.infoI
  unfold takeV
  by_cases hx : 0 ≤ x ∧ x < 4096
  · rw [decide_eq_true hx] at hs
    simp only [if_pos hx]
    have hbw : base ≤ w.heap.size := by have := h.lt; have := h.le; omega
    obtain ⟨h0, v, hv, ho⟩ := h
    obtain ⟨A, cap, rfl, hR⟩ := ho.form
    have c := hv.cell
    have ho' : w.ownsRow base 3 1 (.slice A r.length cap) r.length (r.map (Value.int .i64)) := ho
    clear hR
    go_enter Try.func24, Try.ntmps24
    go_wp2_with fail
    refine hs.mono ?_
    rintro e w1 ⟨rfl, rfl⟩
    go_wp2_with (at_builtin; refine wpList_append_own_at _ rfl _ _ 27 rfl base 3 i0 (.int .i64 0) 1 8 Try.underlying27 hi hz0 hz1 hz2 rfl (by decide) _ _ _ rfl (World.ownsRow.alloc ho' _) ⟨w.heap.size, 0, none⟩ 1 1 [.int .i64 x] rfl rfl (cell_one_new _ _ _) (by simp [Value.oneCell']) (by unfold maxLen; omega) (by omega) (by simp; omega) ?_; intro v' w1 hown' hgrow hnil hat; obtain ⟨g', cap', rfl⟩ := ownsRow_succ hown'; obtain ⟨hv1, hv2, hr2, hk2, hb2⟩ := hv.appended (by decide) ho' hbw h0 hown' hgrow; have hc1 := hv1.cell; have hf1 := hv1.frozen; have hc2 := hv2.cell)
    go_ret2
    exact ⟨rfl, ⟨h0, _, hv2, OL.grow hr2⟩, hb2⟩
  · rw [decide_eq_false hx] at hs
    simp only [if_neg hx]
    clear hx
    go_enter Try.func24, Try.ntmps24
    go_wp2_with fail
    refine hs.mono ?_
    rintro e w1 ⟨rfl, rfl⟩
    go_wp2_with fail
    go_ret2
    exact ⟨rfl, h, Below.refl _ _⟩

theorem OL.shape {w : World} {base : Nat} {v : Value} {r : List Int} (h : OL w base v r) (hr : 0 < r.length) : ∃ gb cap, v = .slice (some ⟨gb, 0, none⟩) r.length cap ∧ base ≤ gb ∧ gb < w.heap.size := by
  rcases h.2 with ⟨_, h0⟩ | ⟨gb, cap, cur, rfl, hb, hgg, _⟩
  · omega
  · exact ⟨gb, cap, rfl, hb, (Array.getElem?_eq_some_iff.1 hgg).1⟩
theorem OL.put {w : World} {base gb n cap k : Nat} {r : List Int} (h : OL w base (.slice (some ⟨gb, 0, none⟩) n cap) r) (x : Int) : OL (w.setCell ⟨gb, k, none⟩ (.int .i64 x)) base (.slice (some ⟨gb, 0, none⟩) n cap) (r.set k x) := by
  have hn : n = r.length := by
    rcases h.2 with ⟨h', _⟩ | ⟨g', cap', cur, h', _⟩
    · cases h'
    · injection h'
  subst hn
  have := (World.ownsRow.stored h k (.int .i64 x)).1
  unfold OL
  rw [List.length_set, List.map_set]
  exact this
theorem RM.put {w : World} {g base gb n cap k : Nat} {r : List Int} (h0 : base ≤ g) (hv : Boxed w g 29 (.slice (some ⟨gb, 0, none⟩) n cap)) (ho : OL w base (.slice (some ⟨gb, 0, none⟩) n cap) r) (hne : g ≠ gb) (x : Int) :
    RM (w.setCell ⟨gb, k, none⟩ (.int .i64 x)) g base (r.set k x) :=
  ⟨h0, _, hv.kept (grown_put w gb k _) (fun e => by injection e with e; exact hne e), ho.put x⟩

theorem RMove_any {w : World} {g base : Nat} {r : List Int} (h : RM w g base r) (hr : r.length ≤ 1000000) (y x : Int) :
    Calls Try.prog 25 #[.pointer (some ⟨g, 0, none⟩), .int .i64 y, .int .i64 x] w fun e w' => e = .returned (.int .i64 (moveV r y x).2) ∧ RM w' g base (moveV r y x).1 ∧ Below base w w' := by
  have hl := RLive_any h hr y
  have hs := fun W => slots_any x W
  unfold moveV
  cases ho : live r y
  · rw [ho] at hl
    simp only [Bool.false_eq_true, if_false] at hl ⊢
    clear ho
    go_enter Try.func25, Try.ntmps25
    go_wp2_with fail
    refine hl.mono ?_
    rintro e w1 ⟨rfl, rfl⟩
    go_wp2_with fail
    go_ret
    exact ⟨rfl, h, Below.refl _ _⟩
  · rw [ho] at hl
    simp only [if_true] at hl ⊢
    obtain ⟨k, rfl, hk, _⟩ := live_true ho
    rw [show ((k : Int) + 1 - 1).toNat = k by omega]
    clear ho
    by_cases hx : 0 ≤ x ∧ x < 4096
    · rw [decide_eq_true hx] at hs
      simp only [if_pos hx]
      obtain ⟨h0, v, hv, hoo⟩ := h
      obtain ⟨gb, cap, rfl, hbg, hgl⟩ := hoo.shape (by omega)
      have hne : g ≠ gb := fun e => hv.not_row (by decide) hoo (by rw [e]; rfl)
      have c := hv.cell
      have hcell := World.ownsRow.cellAt hoo k (by omega)
      have hfr := World.ownsRow.frozenAt hoo k
      rw [List.getElem?_map, List.getElem?_eq_getElem hk] at hcell
      simp only [Option.map_some] at hcell
      have hcell' : w.cell? ⟨gb, ((k : Int) + 1 - 1).toNat, none⟩ = some (.int .i64 r[k]) := by rw [show ((k : Int) + 1 - 1).toNat = k by omega]; exact hcell
      have hRM := RM.put (k := k) h0 hv hoo hne x
      have i3 : (0 : Int) ≤ (k : Int) := by omega
      have i4 : (k : Int) < (r.length : Int) := by omega
      have i5 : (r.length : Int) ≤ 1000000 := by omega
      clear hoo hv
      go_enter Try.func25, Try.ntmps25
      go_wp2_with fail
      refine hl.mono ?_
      rintro e w1 ⟨rfl, rfl⟩
      go_wp2_with fail
      refine (hs _).mono ?_
      rintro e w1 ⟨rfl, rfl⟩
      go_wp2_with fail
      go_ret
      exact ⟨rfl, hRM, (Below.refl _ _).setCell (p := ⟨gb, k, none⟩) hbg _⟩
    · rw [decide_eq_false hx] at hs
      simp only [if_neg hx]
      clear hx hk
      go_enter Try.func25, Try.ntmps25
      go_wp2_with fail
      refine hl.mono ?_
      rintro e w1 ⟨rfl, rfl⟩
      go_wp2_with fail
      refine (hs _).mono ?_
      rintro e w1 ⟨rfl, rfl⟩
      go_wp2_with fail
      go_ret
      exact ⟨rfl, h, Below.refl _ _⟩

theorem RFree_any {w : World} {g base : Nat} {r : List Int} (h : RM w g base r) (hr : r.length ≤ 1000000) (y : Int) :
    Calls Try.prog 26 #[.pointer (some ⟨g, 0, none⟩), .int .i64 y] w fun e w' => e = .returned (.int .i64 (freeV r y).2) ∧ RM w' g base (freeV r y).1 ∧ Below base w w' := by
  have hl := RLive_any h hr y
  unfold freeV
  cases ho : live r y
  · rw [ho] at hl
    simp only [Bool.false_eq_true, if_false] at hl ⊢
    clear ho
    go_enter Try.func26, Try.ntmps26
    go_wp2_with fail
    refine hl.mono ?_
    rintro e w1 ⟨rfl, rfl⟩
    go_wp2_with fail
    go_ret
    exact ⟨rfl, h, Below.refl _ _⟩
  · rw [ho] at hl
    simp only [if_true] at hl ⊢
    obtain ⟨k, rfl, hk, _⟩ := live_true ho
    rw [show ((k : Int) + 1 - 1).toNat = k by omega]
    clear ho
    obtain ⟨h0, v, hv, hoo⟩ := h
    obtain ⟨gb, cap, rfl, hbg, hgl⟩ := hoo.shape (by omega)
    have hne : g ≠ gb := fun e => hv.not_row (by decide) hoo (by rw [e]; rfl)
    have c := hv.cell
    have hcell := World.ownsRow.cellAt hoo k (by omega)
    have hfr := World.ownsRow.frozenAt hoo k
    rw [List.getElem?_map, List.getElem?_eq_getElem hk] at hcell
    simp only [Option.map_some] at hcell
    have hcell' : w.cell? ⟨gb, ((k : Int) + 1 - 1).toNat, none⟩ = some (.int .i64 r[k]) := by rw [show ((k : Int) + 1 - 1).toNat = k by omega]; exact hcell
    have hRM := RM.put (k := k) h0 hv hoo hne (-1)
    have i3 : (0 : Int) ≤ (k : Int) := by omega
    have i4 : (k : Int) < (r.length : Int) := by omega
    have i5 : (r.length : Int) ≤ 1000000 := by omega
    clear hoo hv
    go_enter Try.func26, Try.ntmps26
    go_wp2_with fail
    refine hl.mono ?_
    rintro e w1 ⟨rfl, rfl⟩
    go_wp2_with fail
    go_ret
    exact ⟨rfl, hRM, (Below.refl _ _).setCell (p := ⟨gb, k, none⟩) hbg _⟩

theorem plays_any {w : World} {g base : Nat} {r : List Int} (h : RM w g base r) (hr : r.length ≤ 1000000) (o y s : Int) :
    Calls Try.prog 11 #[.pointer (some ⟨g, 0, none⟩), .agg #[.int .i64 o, .int .i64 y, .int .i64 s]] w fun e w' =>
      e = .returned (.tuple #[.int .i64 (actH r o y s).2.1, .int .i64 (actH r o y s).2.2]) ∧ RM w' g base (actH r o y s).1 ∧ Below base w w' := by
  have hbw : base ≤ w.heap.size := by have := h.lt; have := h.le; omega
  have hB := (Below.refl base w).alloc hbw (.cells #[.int .i64 o, .int .i64 y, .int .i64 s] 34)
  have h1 := h.alloc (.cells #[.int .i64 o, .int .i64 y, .int .i64 s] 34)
  have q1 := Blk.made w 34 #[.int .i64 o, .int .i64 y, .int .i64 s]
  have e0 := q1.cell 0
  have e1 := q1.cell 1
  have e2 := q1.cell 2
  simp at e0 e1 e2
  have hT := RTake_any h1 hr s
  have hM := RMove_any h1 hr y s
  have hF := RFree_any h1 hr y
  have hS := RSlot_any h1 hr y
  unfold actH
  by_cases o0 : o = 0
  · subst o0
    simp only [if_true]
    go_enter Try.func11, Try.ntmps11
    go_wp2_with fail
    refine hT.mono ?_
    rintro e w' ⟨rfl, ht', hk⟩
    go_wp2_with fail
    go_ret2
    exact ⟨rfl, ht', hB.trans hk⟩
  · rw [if_neg o0]
    have t0 : (o == 0) = false := by simpa using o0
    by_cases o1 : o = 1
    · subst o1
      simp only [if_true]
      clear t0 o0
      go_enter Try.func11, Try.ntmps11
      go_wp2_with fail
      refine hM.mono ?_
      rintro e w' ⟨rfl, ht', hk⟩
      go_wp2_with fail
      go_ret2
      exact ⟨rfl, ht', hB.trans hk⟩
    · rw [if_neg o1]
      have t1 : (o == 1) = false := by simpa using o1
      by_cases o2 : o = 2
      · subst o2
        simp only [if_true]
        clear t0 o0 t1 o1
        go_enter Try.func11, Try.ntmps11
        go_wp2_with fail
        refine hF.mono ?_
        rintro e w' ⟨rfl, ht', hk⟩
        go_wp2_with fail
        go_ret2
        exact ⟨rfl, ht', hB.trans hk⟩
      · rw [if_neg o2]
        have t2 : (o == 2) = false := by simpa using o2
        clear o0 o1 o2
        go_enter Try.func11, Try.ntmps11
        go_wp2_with fail
        refine hS.mono ?_
        rintro e w' ⟨rfl, rfl⟩
        go_wp2_with fail
        go_ret2
        exact ⟨rfl, h1, hB⟩

set_option maxRecDepth 100000 in
theorem RAll_ok {w : World} {g base : Nat} {r : List Int} (h : RM w g base r) (hr : r.length ≤ 1000000) :
    Calls Try.prog 15 #[.pointer (some ⟨g, 0, none⟩)] w fun e w' => (∃ v, e = .returned v ∧ OL w' w.heap.size v (liveL r)) ∧ Below w.heap.size w w' := by
  obtain ⟨i0, hi, hz0, hz1, hz2⟩ := info_parts Try.infoI
  go_enter Try.func15, Try.ntmps15
  go_wp2_with fail
  have hO0 : OL (w.alloc (.cells #[] 3)) w.heap.size (.slice (some ⟨w.heap.size, 0, none⟩) 0 0) (liveTo r 0) := World.ownsRow_made w #[] 0 (Nat.le_refl _) (by decide) rfl
  go_loopw [3, 4] (fun v i wr => ∃ k : Nat, k ≤ r.length ∧ i = .int .i64 ((k : Int) + 1) ∧ OL wr w.heap.size v (liveTo r k) ∧ Below w.heap.size w wr) (fun _ i _ => r.length + 1 - (intOf i).toNat)
  case atStart => exact ⟨0, Nat.zero_le _, rfl, hO0, (Below.refl _ w).alloc (Nat.le_refl _) _⟩
  case round =>
    obtain ⟨k, hk, rfl, ho, hb⟩ := hrel
    have hRM := h.below hb
    have hkl := liveTo_length_le r k
    have hsucc := liveTo_succ r k
    obtain ⟨h0, v0, hv, hoo⟩ := id hRM
    obtain ⟨A, cap, rfl, hR⟩ := hoo.form
    have c := hv.cell
    have hsz := hb.size
    clear hR hoo hv
    by_cases hlt : k < r.length
    · have i2 : (k : Int) + 1 ≤ (r.length : Int) := by omega
      have i5 : (r.length : Int) ≤ 1000000 := by omega
      have hl := RLive_any hRM hr ((k : Int) + 1)
      cases hlv : live r ((k : Int) + 1)
      · rw [hlv] at hl hsucc
        simp only [Bool.false_eq_true, if_false, List.append_nil] at hsucc
        go_wp2_with fail
        refine hl.mono ?_
        rintro e w1 ⟨rfl, rfl⟩
        go_wp2_with fail
        go_roundw
        case rel => exact ⟨k + 1, by omega, by go_num, by rw [hsucc]; exact ho, hb⟩
        case measure => simp [intOf]; omega
      · rw [hlv] at hl hsucc
        simp only [if_true] at hsucc
        go_wp2_with fail
        refine hl.mono ?_
        rintro e w1 ⟨rfl, rfl⟩
        go_wp2_with (at_builtin; refine wpList_append_own_at _ rfl _ _ 27 rfl w.heap.size 3 i0 (.int .i64 0) 1 8 Try.underlying27 hi hz0 hz1 hz2 rfl (by decide) _ (liveTo r k).length ((liveTo r k).map (Value.int .i64)) rfl (World.ownsRow.alloc ho _) ⟨wr.heap.size, 0, none⟩ 1 1 [.int .i64 ((k : Int) + 1)] rfl rfl (cell_one_new _ _ _) (by simp [Value.oneCell']) (by unfold maxLen; omega) (by omega) (by simp; omega) ?_; intro v' w3 hown hg3 _ hat)
        go_roundw
        case rel =>
          refine ⟨k + 1, by omega, by go_num, ?_, ?_⟩
          · rw [hsucc]
            exact OL.grow hown
          · exact (hb.alloc hsz _).grown hg3 (by simp; omega) (fun j hj => ho.base_le j hj)
        case measure => simp [intOf]; omega
    · obtain rfl : k = r.length := by omega
      go_wp2_with fail
      go_ret
      exact ⟨⟨_, rfl, ho⟩, hb⟩
end Go.Proofs.Ytggnboieenknfaa
