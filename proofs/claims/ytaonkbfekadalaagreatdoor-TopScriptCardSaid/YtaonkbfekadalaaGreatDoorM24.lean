/- The commands of the example's text: what Parse comes to. -/
import Derived.Test.YtaonkbfekadalaaGreatDoorM21
import Derived.Test.YtaonkbfekadalaaGreatDoorM23
namespace Go.Proofs.YtaonkbfekadalaaGreatDoor
open Go.RowKit Go.Shelf
attribute [local go_sem] Oper.semAt_some
set_option linter.unusedVariables false

theorem Lines_ok (s : ByteArray) (w : World) : Calls Tryz.prog 83 #[.string s] w fun e w' => e = .returned (.func (.func 138) #[] #[.pointer (some ⟨w.heap.size, 0, none⟩)]) ∧ w.alloc (.cells #[.string s] 9) = w' := by
  have hmf : ∀ (fn : Fn) (first cap : Array Value) (w : World), (Instr.makeFunc fn first cap).run Tryz.prog w = .ok (.func fn first cap) w := fun _ _ _ _ => rfl
  go_enter Tryz.func83, Tryz.ntmps83
  go_wp2_with fail
  go_ret
  exact ⟨rfl, rfl⟩
def wF : ByteArray := ⟨#[102, 105, 114, 115, 116]⟩
def wB : ByteArray := ⟨#[98, 101, 102, 111, 114, 101]⟩
def wBl : ByteArray := ⟨#[98, 101, 102, 111, 114, 101, 32, 50, 32, 49]⟩
/-- The commands of the text, cell by cell. -/
def cells9 : List Value := [.string wF, .int .i64 0, .int .i64 0, .string wF, .int .i64 0, .int .i64 0, .string wB, .int .i64 2, .int .i64 1]
/-- The text of the k-th line without its end; its command. -/
def bareK : Nat → ByteArray
  | 0 => wF
  | 1 => wF
  | _ => wBl
def cmdK : Nat → List Value
  | 0 => [.string wF, .int .i64 0, .int .i64 0]
  | 1 => [.string wF, .int .i64 0, .int .i64 0]
  | _ => [.string wB, .int .i64 2, .int .i64 1]
theorem cut_line {k : Nat} (hk : k < 3) : (⟨(Lib.trimSuffix (lineK k).data.toList [10]).toArray⟩ : ByteArray) = bareK k ∧ Lib.hasSuffix (lineK k).data.toList [10] = true := by
  rcases (by omega : k = 0 ∨ k = 1 ∨ k = 2) with rfl | rfl | rfl <;> exact ⟨by decide +kernel, by decide +kernel⟩
theorem cells_snoc {k : Nat} (hk : k < 3) : cells9.take (3 * k) ++ cmdK k = cells9.take (3 * (k + 1)) := by
  rcases (by omega : k = 0 ∨ k = 1 ∨ k = 2) with rfl | rfl | rfl <;> rfl
theorem no_list {a : ByteArray} (h : 0 < a.size) : ¬ a.toList = [] := by
  rw [ByteArray.toList_eq]
  intro q
  have q1 : 0 < a.data.toList.length := h
  rw [q] at q1
  cases q1
theorem command_k {w : World} {k : Nat} {m : Int} (hk : k < 3) (hm : w.cell? ⟨0, 0, none⟩ = some (.int .i64 m)) :
    Calls Tryz.prog 85 #[.string (bareK k)] w fun e w' => e = .returned (.tuple #[.agg (cmdK k).toArray, .int .i64 0]) ∧ Below w.heap.size w w' := by
  rcases (by omega : k = 0 ∨ k = 1 ∨ k = 2) with rfl | rfl | rfl
  · exact command_0 (k := 7) (s := wF) (by omega) rfl rfl (by decide +kernel) (by decide +kernel) (no_list (by decide)) (by decide) hm
  · exact command_0 (k := 7) (s := wF) (by omega) rfl rfl (by decide +kernel) (by decide +kernel) (no_list (by decide)) (by decide) hm
  · exact command_2 (k := 11) (s := wB) (u := wBl) (a := ⟨#[50]⟩) (b := ⟨#[49]⟩) (by omega) rfl rfl (by decide +kernel) (by decide +kernel) (no_list (by decide)) (no_list (by decide)) (no_list (by decide)) one_2 one_1 (by decide) (by decide) hm
theorem cmd_form {k : Nat} (hk : k < 3) : ∃ (s : ByteArray) (x y : Int), cmdK k = [.string s, .int .i64 x, .int .i64 y] := by
  rcases (by omega : k = 0 ∨ k = 1 ∨ k = 2) with rfl | rfl | rfl
  · exact ⟨_, _, _, rfl⟩
  · exact ⟨_, _, _, rfl⟩
  · exact ⟨_, _, _, rfl⟩
theorem three_new (W : World) (a b c : Value) : ∀ (j : Nat) u, [a, b, c][j]? = some u → (W.alloc (.cells #[a, b, c] 24)).cell? ((⟨W.heap.size, 0, none⟩ : Addr).add j) = some u := fun j u h => by
  have := (Blk.made W 24 #[a, b, c]).cell j
  rw [show (⟨W.heap.size, 0, none⟩ : Addr).add j = ⟨W.heap.size, j, none⟩ by cases j <;> simp [Addr.add], this]
  simpa using h
theorem results_ccc {fn : Func} {p q r : Tmp} {t1 t2 t3 : TypeId} {P : Program} {w : World} {a1 a2 a3 : Addr} {v1 v2 v3 : Value} (h : fn.results = #[.cell p t1, .cell q t2, .cell r t3]) (tmps : Array Value) (hp : tmps.getD p undef = .pointer (some a1)) (hq : tmps.getD q undef = .pointer (some a2)) (hr : tmps.getD r undef = .pointer (some a3))
    (l1 : (loadVar t1 a1).run P w = .ok v1 w) (l2 : (loadVar t2 a2).run P w = .ok v2 w) (l3 : (loadVar t3 a3).run P w = .ok v3 w) : (results fn tmps).run P w = .ok (.tuple #[v1, v2, v3]) w := by
  have hp' : tmps[p]?.getD undef = .pointer (some a1) := by simpa using hp
  have hq' : tmps[q]?.getD undef = .pointer (some a2) := by simpa using hq
  have hr' : tmps[r]?.getD undef = .pointer (some a3) := by simpa using hr
  simp [results, h, hp', hq', hr', asAddr, l1, l2, l3]
theorem loadVar22 {w : World} {a : Addr} {v : Value} (h : w.cell? a = some v) : (loadVar 22 a).run Tryz.prog w = .ok v w := by
  simp [loadVar, go_sem, Tryz.isAgg22, h]
theorem loadVar3 {w : World} {a : Addr} {v : Value} (h : w.cell? a = some v) : (loadVar 3 a).run Tryz.prog w = .ok v w := by
  simp [loadVar, go_sem, Tryz.isAgg3, h]
theorem loadVar28' {w : World} {a : Addr} {v : Value} (h : w.cell? a = some v) : (loadVar 28 a).run Tryz.prog w = .ok v w := by
  simp [loadVar, go_sem, Tryz.isAgg28, h]
theorem Tryz.infoC : (Tryz.prog.info? 24).map (fun i => (i.zero, i.size, i.bytes)) = some (some (.agg #[.string ⟨#[]⟩, .int .i64 0, .int .i64 0]), 3, 32) := by kernel_rfl
set_option maxRecDepth 100000 in
set_option maxHeartbeats 8000000 in
theorem Parse_ok {w : World} {m : Int} (hm : w.cell? ⟨0, 0, none⟩ = some (.int .i64 m)) :
    Calls Tryz.prog 36 #[.string txA] w fun e w' => (∃ v, e = .returned (.tuple #[v, .int .i64 0, .int .i64 0]) ∧ w'.ownsRow w.heap.size 24 3 v 3 cells9) ∧ Below w.heap.size w w' := by
  have hlt : 0 < w.heap.size := by
    rcases Nat.lt_or_ge 0 w.heap.size with h | h
    · exact h
    · exfalso; simp [World.cell?, h] at hm
  have hts : txA.size = 23 := by decide
  refine (callsIn_wide (n := 5)).1 ?_
  refine callsIn_of_wp_marks Tryz.func36 rfl trivial ?_ rfl
  simp only [Tryz.ntmps36, List.size_toArray, List.length_cons, List.length_nil, Nat.reduceAdd, Nat.reduceSub, Array.replicate_succ, Array.replicate_zero, List.push_toArray, List.append_toArray, List.nil_append, List.cons_append]
  gi_wp2_with fail
  refine ⟨trivial, ?_⟩
  refine (callsIn_wide.2 (Lines_ok txA _)).mono ?_
  rintro e w' ⟨rfl, rfl⟩
  have q2 := ((((Blk.made w 22 #[.slice none 0 0]).alloc (.cells #[.int .i64 0] 3)).alloc (.cells #[.int .i64 0] 28)).alloc (.cells #[.slice none 0 0] 22)).alloc (.cells #[.string txA] 9)
  have q3 := (((Blk.made (w.alloc (.cells #[.slice none 0 0] 22)) 3 #[.int .i64 0]).alloc (.cells #[.int .i64 0] 28)).alloc (.cells #[.slice none 0 0] 22)).alloc (.cells #[.string txA] 9)
  have q4 := ((Blk.made ((w.alloc (.cells #[.slice none 0 0] 22)).alloc (.cells #[.int .i64 0] 3)) 28 #[.int .i64 0]).alloc (.cells #[.slice none 0 0] 22)).alloc (.cells #[.string txA] 9)
  have q5 := (Boxed.new (((w.alloc (.cells #[.slice none 0 0] 22)).alloc (.cells #[.int .i64 0] 3)).alloc (.cells #[.int .i64 0] 28)) 22 (.slice none 0 0)).alloc (.cells #[.string txA] 9)
  have q6 := Blk.made ((((w.alloc (.cells #[.slice none 0 0] 22)).alloc (.cells #[.int .i64 0] 3)).alloc (.cells #[.int .i64 0] 28)).alloc (.cells #[.slice none 0 0] 22)) 9 #[.string txA]
  have hB0 : Below w.heap.size w (((((w.alloc (.cells #[.slice none 0 0] 22)).alloc (.cells #[.int .i64 0] 3)).alloc (.cells #[.int .i64 0] 28)).alloc (.cells #[.slice none 0 0] 22)).alloc (.cells #[.string txA] 9)) :=
    (((((Below.refl w.heap.size w).alloc (Nat.le_refl _) _).alloc (by simp) _).alloc (by simp; omega) _).alloc (by simp; omega) _).alloc (by simp; omega) _
  have hz0 : (((((w.alloc (.cells #[.slice none 0 0] 22)).alloc (.cells #[.int .i64 0] 3)).alloc (.cells #[.int .i64 0] 28)).alloc (.cells #[.slice none 0 0] 22)).alloc (.cells #[.string txA] 9)).heap.size = w.heap.size + 1 + 1 + 1 + 1 + 1 := by simp
  simp only [World.size_alloc] at q3 q4 q5 q6
  gi_wp2_with fail
  generalize (((((w.alloc (.cells #[.slice none 0 0] 22)).alloc (.cells #[.int .i64 0] 3)).alloc (.cells #[.int .i64 0] 28)).alloc (.cells #[.slice none 0 0] 22)).alloc (.cells #[.string txA] 9)) = W0 at *
  obtain ⟨i0, hi, hz0', hz1, hz2⟩ := info_parts Tryz.infoC
  have hrow0 : W0.ownsRow (w.heap.size + 1 + 1 + 1 + 1 + 1) 24 3 (.slice none 0 0) 0 [] := World.ownsRow_nil W0 _ 24 3
  refine range_cell (n := 5) (by decide) (gf := 138) (lb := #[.pointer (some ⟨w.heap.size + 1 + 1 + 1 + 1, 0, none⟩)]) rfl (enters_of Tryz.func138 (by kernel_rfl) rfl) (lines_seq 4 q6) q6.lt rfl
    (fun k W => (∃ v, Boxed W (w.heap.size + 1 + 1 + 1) 22 v ∧ W.ownsRow (w.heap.size + 1 + 1 + 1 + 1 + 1) 24 3 v k (cells9.take (3 * k)) ∧ True) ∧ (Blk W w.heap.size 22 #[.slice none 0 0] ∧ Blk W (w.heap.size + 1) 3 #[.int .i64 0] ∧ Blk W (w.heap.size + 1 + 1) 28 #[.int .i64 0]) ∧ Below w.heap.size w W ∧ w.heap.size + 1 + 1 + 1 + 1 + 1 ≤ W.heap.size)
    ?own ?cell ⟨⟨_, q5, hrow0, trivial⟩, ⟨q2, q3, q4⟩, hB0, by omega⟩
    (fun k => { tmps := #[.string txA, undef, .pointer (some ⟨w.heap.size, 0, none⟩), .pointer (some ⟨w.heap.size + 1, 0, none⟩), .pointer (some ⟨w.heap.size + 1 + 1, 0, none⟩), .pointer (some ⟨w.heap.size + 1 + 1 + 1, 0, none⟩), .string (lineK k), undef, undef, undef, undef, .string txA, .int .i64 23, .bool false, .string txA, .func (.func 138) #[] #[.pointer (some ⟨w.heap.size + 1 + 1 + 1 + 1, 0, none⟩)], .string (lineK k), undef, undef, undef, undef, undef, undef, undef, undef, undef, undef, undef, undef, undef, undef, undef, undef, undef, undef, undef, undef, undef, undef, undef, undef, undef, undef], defers := [] }) ?assign ?body ?done
  case assign =>
    intro l k W K hK
    gi_wp2
    exact hK
  case own =>
    exact OwnFrom.and (Own.from (holdsRow_own (w.heap.size + 1 + 1 + 1 + 1 + 1) (w.heap.size + 1 + 1 + 1) 22 24 3 (fun k : Nat => k) (fun k => cells9.take (3 * k)) (fun _ _ => True)) _)
      (OwnFrom.and (OwnFrom.and (Own.from (boxed_own w.heap.size 22 (fun _ => .slice none 0 0)) _) (OwnFrom.and (Own.from (boxed_own (w.heap.size + 1) 3 (fun _ => .int .i64 0)) _) (Own.from (boxed_own (w.heap.size + 1 + 1) 28 (fun _ => .int .i64 0)) _)))
        (OwnFrom.and (ownFrom_below (Nat.le_refl _) (by omega)) (fun _ A B row hs hg _ => Nat.le_trans hs hg.size)))
  case cell =>
    rintro k W u ⟨⟨v, hv, hrow, _⟩, ⟨b2, b3, b4⟩, hB, hWz⟩
    have hg := grownBy_setCell' W (w.heap.size + 1 + 1 + 1 + 1) u
    refine ⟨⟨v, hv.other (by omega) u, hrow.kept hg (.inr fun e => by have := (hrow.lt _ e).1; omega), trivial⟩, ⟨b2.far (by show w.heap.size ≠ w.heap.size + 1 + 1 + 1 + 1; omega) u, b3.far (by show w.heap.size + 1 ≠ w.heap.size + 1 + 1 + 1 + 1; omega) u, b4.far (by show w.heap.size + 1 + 1 ≠ w.heap.size + 1 + 1 + 1 + 1; omega) u⟩, hB.setCell (p := ⟨w.heap.size + 1 + 1 + 1 + 1, 0, none⟩) (by show w.heap.size ≤ w.heap.size + 1 + 1 + 1 + 1; omega) u, Nat.le_trans hWz hg.size⟩
  case body =>
    rintro l k W ⟨⟨v, hv, hrow, _⟩, ⟨b2, b3, b4⟩, hB, hWz⟩ hk
    obtain ⟨x1, x2⟩ := cut_line hk
    have hcs := Tryz.strings_CutSuffix (lineK k) ⟨#[10]⟩ W (by rcases (by omega : k = 0 ∨ k = 1 ∨ k = 2) with rfl | rfl | rfl <;> decide)
    rw [show (⟨#[10]⟩ : ByteArray).data.toList = [10] from rfl, x1, x2] at hcs
    have hcm := command_k (w := W) hk ((World.cell?_of_block (hB.block 0 hlt)).trans hm)
    have hsn := cells_snoc hk
    obtain ⟨s, x, y, hcf⟩ := cmd_form hk
    rw [hcf] at hcm hsn
    have HSN := Lib.hid hsn
    clear x1 x2 hcf hsn
    gi_wp2_with fail
    refine ⟨trivial, ?_⟩
    refine (CallsIn.inRound l (callsIn_wide.2 hcs)).mono ?_
    rintro e w' ⟨rfl, hw'⟩
    obtain rfl := hw'.symm
    gi_wp2_with fail
    refine ⟨trivial, ?_⟩
    refine (CallsIn.inRound l (callsIn_wide.2 hcm)).mono ?_
    rintro e W1 ⟨rfl, hB1⟩
    have hk1 : W.grownBy W1 none := ⟨hB1.os, hB1.tape, hB1.output, hB1.size, fun i hi _ => hB1.block i hi⟩
    have hv1 := hv.kept hk1 (by simp)
    have hrow1 : W1.ownsRow (w.heap.size + 1 + 1 + 1 + 1 + 1) 24 3 v k (cells9.take (3 * k)) := hrow.kept hk1 (Classical.em _)
    have hv2 := hv1.alloc (.cells #[.string s, .int .i64 x, .int .i64 y] 24)
    have hrow2 := World.ownsRow.alloc hrow1 (.cells #[.string s, .int .i64 x, .int .i64 y] 24)
    have b9 := Blk.made W1 24 #[.string s, .int .i64 x, .int .i64 y]
    have r0 := b9.cell 0
    have r1 := b9.cell 1
    have r2 := b9.cell 2
    have hvc := hv2.cell
    clear hcs hcm
    have hs1 := hB1.size
    have hn3 := three_new (W1.alloc (.cells #[.string s, .int .i64 x, .int .i64 y] 24)) (.string s) (.int .i64 x) (.int .i64 y)
    rw [World.size_alloc] at hn3
    have hrow3 := World.ownsRow.alloc hrow2 (.cells #[.string s, .int .i64 x, .int .i64 y] 24)
    gi_wp2_with (gi_at_builtin; refine wpListIn_append_own _ rfl _ _ 22 rfl (w.heap.size + 1 + 1 + 1 + 1 + 1) 24 i0 (.agg #[.string ⟨#[]⟩, .int .i64 0, .int .i64 0]) 3 32 Tryz.underlying22 hi hz0' hz1 hz2 rfl (by decide) _ _ _ rfl hrow3 ⟨W1.heap.size + 1, 0, none⟩ 1 1 [.string s, .int .i64 x, .int .i64 y] rfl rfl hn3 (by simp [Value.oneCell']) (by unfold maxLen; omega) (by omega) (by simp; omega) ?_; intro v' w3 hown' hgrow _; replace hgrow : ((W1.alloc (.cells #[.string s, .int .i64 x, .int .i64 y] 24)).alloc (.cells #[.string s, .int .i64 x, .int .i64 y] 24)).grownBy w3 v.ownBlock := hgrow; obtain ⟨g', cap', rfl⟩ := ownsRow_succ hown'; have hv3 : Boxed w3 (w.heap.size + 1 + 1 + 1) 22 v := (hv2.alloc _).kept hgrow (hv2.not_row (by decide) hrow2); have hc1 := hv3.cell; have hf1 := hv3.frozen)
    have hlow : ∀ j, j < w.heap.size + 1 + 1 + 1 + 1 + 1 → some j ≠ v.ownBlock := fun j hj e => by have := (hrow3.lt j e.symm).1; omega
    have hfar : ∀ j, j < w.heap.size + 1 + 1 + 1 + 1 + 1 → j ≠ w.heap.size + 1 + 1 + 1 → (w3.setCell ⟨w.heap.size + 1 + 1 + 1, 0, none⟩ (.slice (some ⟨g', 0, none⟩) (k + 1) cap')).heap[j]? = W.heap[j]? := fun j hj hne => by
      rw [set_other _ hne (Nat.lt_of_lt_of_le (by simp; omega) hgrow.size), hgrow.block j (by simp; omega) (hlow j hj), Below.heap_alloc _ _ _ (by simp; omega), Below.heap_alloc _ _ _ (by omega)]
      exact hB1.block j (by omega)
    have hg2 := grownBy_setCell' w3 (w.heap.size + 1 + 1 + 1) (.slice (some ⟨g', 0, none⟩) (k + 1) cap')
    have hr2 := hown'.kept hg2 (.inr (hv3.not_row (by decide) hown').symm)
    rw [HSN.out] at hr2
    have hBf : Below w.heap.size w (w3.setCell ⟨w.heap.size + 1 + 1 + 1, 0, none⟩ (.slice (some ⟨g', 0, none⟩) (k + 1) cap')) :=
      ((((hB.trans (hB1.mono hB.size)).alloc (by omega) _).alloc (by simp; omega) _).grown hgrow (by simp; omega) fun r e => by have := (hrow3.lt r e).1; omega).setCell (p := ⟨w.heap.size + 1 + 1 + 1, 0, none⟩) (by show w.heap.size ≤ w.heap.size + 1 + 1 + 1; omega) _
    refine ⟨?_, hfar _ (by omega) (by omega), ⟨_, hv3.set _, hr2⟩, ⟨(hfar _ (by omega) (by omega)).trans b2, (hfar _ (by omega) (by omega)).trans b3, (hfar _ (by omega) (by omega)).trans b4⟩, hBf, ?_⟩
    · refine (((KeepsOthers.trans ⟨hB1.size, fun i o h _ => (hB1.block i (Array.getElem?_eq_some_iff.1 h).1).trans h⟩ (KeepsOthers.alloc W1 _)).trans (KeepsOthers.alloc _ _)).trans (KeepsOthers.of_grownBy hgrow ?_)).trans (KeepsOthers.setCell _ _ _)
      intro j o e hj
      rcases hrow3.2 with ⟨rfl, _⟩ | ⟨g, cap, cur, rfl, _, hgb, _⟩
      · simp [Value.ownBlock] at e
      · obtain rfl : g = j := by simpa [Value.ownBlock] using e
        rw [hgb] at hj; cases hj; rfl
    · have := hgrow.size
      simp at this ⊢
      omega
  case done =>
    rintro D W hD ⟨⟨v, hv, hrow, _⟩, ⟨b2, b3, b4⟩, hB, hWz⟩ hK
    obtain ⟨g, cap, rfl⟩ := ownsRow_succ hrow
    have hvc := hv.cell
    have y0 := b2.cell 0
    have y0f := b2.frozen 0
    have y1 := b3.cell 0
    have y1f := b3.frozen 0
    have y2 := b4.cell 0
    have y2f := b4.frozen 0
    gi_wp2_with fail
    have hf : ∀ {a b : Nat}, a ≠ b → a ≠ (⟨b, 0, none⟩ : Addr).block := fun h => h
    have t1 := ((b2.put 0 (.slice (some ⟨g, 0, none⟩) 3 cap)).far (p := ⟨w.heap.size + 1, 0, none⟩) (hf (by omega)) (.int .i64 0)).far (p := ⟨w.heap.size + 1 + 1, 0, none⟩) (hf (by omega)) (.int .i64 0)
    have t2 := ((b3.far (p := ⟨w.heap.size, 0, none⟩) (hf (by omega)) (.slice (some ⟨g, 0, none⟩) 3 cap)).put 0 (.int .i64 0)).far (p := ⟨w.heap.size + 1 + 1, 0, none⟩) (hf (by omega)) (.int .i64 0)
    have t3 := ((b4.far (p := ⟨w.heap.size, 0, none⟩) (hf (by omega)) (.slice (some ⟨g, 0, none⟩) 3 cap)).far (p := ⟨w.heap.size + 1, 0, none⟩) (hf (by omega)) (.int .i64 0)).put 0 (.int .i64 0)
    have hBf := ((hB.setCell (p := ⟨w.heap.size, 0, none⟩) (Nat.le_refl _) (.slice (some ⟨g, 0, none⟩) 3 cap)).setCell (p := ⟨w.heap.size + 1, 0, none⟩) (by show w.heap.size ≤ w.heap.size + 1; omega) (.int .i64 0)).setCell (p := ⟨w.heap.size + 1 + 1, 0, none⟩) (by show w.heap.size ≤ w.heap.size + 1 + 1; omega) (.int .i64 0)
    have hrf := ((hrow.kept (grownBy_setCell' W w.heap.size (.slice (some ⟨g, 0, none⟩) 3 cap)) (.inr fun e => by have := (hrow.lt _ e).1; omega)).kept (grownBy_setCell' _ (w.heap.size + 1) (.int .i64 0)) (.inr fun e => by have := (hrow.lt _ e).1; omega)).kept (grownBy_setCell' _ (w.heap.size + 1 + 1) (.int .i64 0)) (.inr fun e => by have := (hrow.lt _ e).1; omega)
    have hlD := (Array.getElem?_eq_some_iff.1 hK).1
    have hKf : (((W.setCell ⟨w.heap.size, 0, none⟩ (.slice (some ⟨g, 0, none⟩) 3 cap)).setCell ⟨w.heap.size + 1, 0, none⟩ (.int .i64 0)).setCell ⟨w.heap.size + 1 + 1, 0, none⟩ (.int .i64 0)).heap[D]? = some (.deferred (some [])) := by
      rw [set_other _ (by omega) (by simpa using hlD), set_other _ (by omega) (by simpa using hlD), set_other _ (by omega) hlD]
      exact hK
    generalize (((W.setCell ⟨w.heap.size, 0, none⟩ (.slice (some ⟨g, 0, none⟩) 3 cap)).setCell ⟨w.heap.size + 1, 0, none⟩ (.int .i64 0)).setCell ⟨w.heap.size + 1 + 1, 0, none⟩ (.int .i64 0)) = Wf at *
    refine ⟨by simp, .inl ⟨_, _, rfl, run_takeDeferred hKf, ?_⟩⟩
    have hgp := grownBy_putObj' Wf D (.deferred none)
    have u1 := t1.grown hgp (fun e => by injection e with e; omega)
    have u2 := t2.grown hgp (fun e => by injection e with e; omega)
    have u3 := t3.grown hgp (fun e => by injection e with e; omega)
    refine ⟨_, results_ccc rfl _ rfl rfl rfl (loadVar22 (u1.cell 0)) (loadVar3 (u2.cell 0)) (loadVar28' (u3.cell 0)), ⟨_, rfl, ?_⟩, hBf.grown hgp hBf.size (row_some (by omega))⟩
    exact own_mono (ownsRow_putObj hrf _ hKf rfl) (by omega)
end Go.Proofs.YtaonkbfekadalaaGreatDoor
