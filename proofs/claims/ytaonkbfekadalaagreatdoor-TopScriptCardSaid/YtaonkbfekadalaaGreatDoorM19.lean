/- Joined texts: Ma, Pa. -/
import Derived.Deep.WholeRow
import Derived.Test.YtaonkbfekadalaaGreatDoorM01
import Derived.Test.YtaonkbfekadalaaGreatDoorM18
/- The commands' words: how many numbers each has; what words comes to. -/
namespace Go.Proofs.YtaonkbfekadalaaGreatDoor
open Go.RowKit
set_option linter.unusedVariables false

/-- The words, and how many numbers each has. -/
def wordsL : List (ByteArray × Nat) := [(⟨#[105, 110, 115, 101, 114, 116]⟩, 1), (⟨#[100, 101, 108, 101, 116, 101]⟩, 1), (⟨#[104, 97, 115]⟩, 1), (⟨#[108, 101, 110]⟩, 0), (⟨#[107, 101, 121, 115]⟩, 0), (⟨#[102, 108, 111, 111, 114]⟩, 1), (⟨#[99, 101, 105, 108]⟩, 1), (⟨#[102, 105, 114, 115, 116]⟩, 0), (⟨#[97, 102, 116, 101, 114]⟩, 1), (⟨#[97, 104, 101, 97, 100]⟩, 1), (⟨#[114, 101, 109, 111, 118, 101]⟩, 1), (⟨#[98, 101, 102, 111, 114, 101]⟩, 2), (⟨#[108, 97, 98, 101, 108]⟩, 1), (⟨#[104, 97, 110, 100, 108, 101, 115]⟩, 0), (⟨#[114, 97, 110, 107]⟩, 1), (⟨#[115, 101, 108, 101, 99, 116]⟩, 1), (⟨#[99, 111, 117, 110, 116]⟩, 2)]
def wordK (k : Nat) : ByteArray := (wordsL.getD k (⟨#[]⟩, 0)).1
def numK (k : Nat) : Nat := (wordsL.getD k (⟨#[]⟩, 0)).2
def wordsA : Array Value := #[.string ⟨#[105, 110, 115, 101, 114, 116]⟩, .int .i64 1, .string ⟨#[100, 101, 108, 101, 116, 101]⟩, .int .i64 1, .string ⟨#[104, 97, 115]⟩, .int .i64 1, .string ⟨#[108, 101, 110]⟩, .int .i64 0, .string ⟨#[107, 101, 121, 115]⟩, .int .i64 0, .string ⟨#[102, 108, 111, 111, 114]⟩, .int .i64 1, .string ⟨#[99, 101, 105, 108]⟩, .int .i64 1, .string ⟨#[102, 105, 114, 115, 116]⟩, .int .i64 0, .string ⟨#[97, 102, 116, 101, 114]⟩, .int .i64 1, .string ⟨#[97, 104, 101, 97, 100]⟩, .int .i64 1, .string ⟨#[114, 101, 109, 111, 118, 101]⟩, .int .i64 1, .string ⟨#[98, 101, 102, 111, 114, 101]⟩, .int .i64 2, .string ⟨#[108, 97, 98, 101, 108]⟩, .int .i64 1, .string ⟨#[104, 97, 110, 100, 108, 101, 115]⟩, .int .i64 0, .string ⟨#[114, 97, 110, 107]⟩, .int .i64 1, .string ⟨#[115, 101, 108, 101, 99, 116]⟩, .int .i64 1, .string ⟨#[99, 111, 117, 110, 116]⟩, .int .i64 2]
def wordsZ : Array Value := #[.string ⟨#[]⟩, .int .i64 0, .string ⟨#[]⟩, .int .i64 0, .string ⟨#[]⟩, .int .i64 0, .string ⟨#[]⟩, .int .i64 0, .string ⟨#[]⟩, .int .i64 0, .string ⟨#[]⟩, .int .i64 0, .string ⟨#[]⟩, .int .i64 0, .string ⟨#[]⟩, .int .i64 0, .string ⟨#[]⟩, .int .i64 0, .string ⟨#[]⟩, .int .i64 0, .string ⟨#[]⟩, .int .i64 0, .string ⟨#[]⟩, .int .i64 0, .string ⟨#[]⟩, .int .i64 0, .string ⟨#[]⟩, .int .i64 0, .string ⟨#[]⟩, .int .i64 0, .string ⟨#[]⟩, .int .i64 0, .string ⟨#[]⟩, .int .i64 0]
theorem results_ca {fn : Func} {p : Tmp} {ty : TypeId} {w : World} {g : Nat} {t : TypeId} {cs : Array Value} {P : Program} (h : fn.results = #[.cell p ty]) (tmps : Array Value) (hp : tmps.getD p undef = .pointer (some ⟨g, 0, none⟩)) (hg : Blk w g t cs)
    {n : Nat} {e : TypeId} (hu : P.underlying ty = some (.array n e)) (hi : (P.info? ty).map (·.size) = some cs.size) :
    (results fn tmps).run P w = .ok (.agg cs) w := by
  have hp' : tmps[p]?.getD undef = .pointer (some ⟨g, 0, none⟩) := by simpa using hp
  simp [results, h, hp', asAddr, run_loadVar_row w g t ty cs (0, 0) (.array n e) hg hu rfl hi]
section
variable {P : Program} {ops : Array Oper} {Q : Exit → Act → World → Prop} {a : Act} {w w' : World} {rest : List Oper} {o : Oper}
theorem wpList_val {v : Value} (hg : o.guard = none) (h : (execOp a.eval o).run P w = .ok (.value v) w) (k : wpList P ops Q rest (a.put o.dst v) w) : wpList P ops Q (o :: rest) a w :=
  wpList_plain hg fun K hK => by unfold Oper.wp; rw [h]; exact hK _ _ k
theorem wpList_did (hg : o.guard = none) (h : (execOp a.eval o).run P w = .ok .skip w') (k : wpList P ops Q rest (a.put o.dst undef) w') : wpList P ops Q (o :: rest) a w :=
  wpList_plain hg fun K hK => by unfold Oper.wp; rw [h]; exact hK _ _ k
end
theorem words_store (w : World) : (Instr.storeAt 179 (.pointer (some ⟨w.heap.size, 0, none⟩)) (.agg wordsA)).run Tryz.prog (w.alloc (.cells wordsZ 179)) = .ok () (w.alloc (.cells wordsA 179)) :=
  run_storeAt_new w 179 wordsZ wordsA (by kernel_rfl) rfl (by kernel_rfl)
set_option maxRecDepth 100000 in
theorem words_ok (w : World) : Calls Tryz.prog 155 #[] w fun e w' => e = .returned (.agg wordsA) ∧ Below w.heap.size w w' := by
  go_enter Tryz.func155, Tryz.ntmps155
  go_upto_region 1 with (fail)
  refine wp_region_lit ?_
  refine wpList_val (v := .agg #[.string ⟨#[105, 110, 115, 101, 114, 116]⟩, .int .i64 1]) rfl (by kernel_rfl) ?_
  refine wpList_val (v := .agg #[.string ⟨#[100, 101, 108, 101, 116, 101]⟩, .int .i64 1]) rfl (by kernel_rfl) ?_
  refine wpList_val (v := .agg #[.string ⟨#[104, 97, 115]⟩, .int .i64 1]) rfl (by kernel_rfl) ?_
  refine wpList_val (v := .agg #[.string ⟨#[108, 101, 110]⟩, .int .i64 0]) rfl (by kernel_rfl) ?_
  refine wpList_val (v := .agg #[.string ⟨#[107, 101, 121, 115]⟩, .int .i64 0]) rfl (by kernel_rfl) ?_
  refine wpList_val (v := .agg #[.string ⟨#[102, 108, 111, 111, 114]⟩, .int .i64 1]) rfl (by kernel_rfl) ?_
  refine wpList_val (v := .agg #[.string ⟨#[99, 101, 105, 108]⟩, .int .i64 1]) rfl (by kernel_rfl) ?_
  refine wpList_val (v := .agg #[.string ⟨#[102, 105, 114, 115, 116]⟩, .int .i64 0]) rfl (by kernel_rfl) ?_
  refine wpList_val (v := .agg #[.string ⟨#[97, 102, 116, 101, 114]⟩, .int .i64 1]) rfl (by kernel_rfl) ?_
  refine wpList_val (v := .agg #[.string ⟨#[97, 104, 101, 97, 100]⟩, .int .i64 1]) rfl (by kernel_rfl) ?_
  refine wpList_val (v := .agg #[.string ⟨#[114, 101, 109, 111, 118, 101]⟩, .int .i64 1]) rfl (by kernel_rfl) ?_
  refine wpList_val (v := .agg #[.string ⟨#[98, 101, 102, 111, 114, 101]⟩, .int .i64 2]) rfl (by kernel_rfl) ?_
  refine wpList_val (v := .agg #[.string ⟨#[108, 97, 98, 101, 108]⟩, .int .i64 1]) rfl (by kernel_rfl) ?_
  refine wpList_val (v := .agg #[.string ⟨#[104, 97, 110, 100, 108, 101, 115]⟩, .int .i64 0]) rfl (by kernel_rfl) ?_
  refine wpList_val (v := .agg #[.string ⟨#[114, 97, 110, 107]⟩, .int .i64 1]) rfl (by kernel_rfl) ?_
  refine wpList_val (v := .agg #[.string ⟨#[115, 101, 108, 101, 99, 116]⟩, .int .i64 1]) rfl (by kernel_rfl) ?_
  refine wpList_val (v := .agg #[.string ⟨#[99, 111, 117, 110, 116]⟩, .int .i64 2]) rfl (by kernel_rfl) ?_
  refine wpList_val (v := .agg wordsA) rfl (by kernel_rfl) ?_
  refine wpList_did rfl (w' := w.alloc (.cells wordsA 179)) ?_ ?_
  · have h := words_store w
    refine Eq.trans (b := ((Instr.storeAt 179 (.pointer (some ⟨w.heap.size, 0, none⟩)) (.agg wordsA)) >>= fun _ => (pure Next.skip : Sem Next)).run Tryz.prog (w.alloc (.cells wordsZ 179))) (by kernel_rfl) ?_
    rw [Sem.run_bind, h]
    rfl
  refine wpList_nil ?_
  rename_i K hK
  refine hK _ _ ?_
  refine wp_ret ?_
  refine bodyPost_ret (results_ca rfl _ (by kernel_rfl) (Blk.made w 179 wordsA) Tryz.underlying179 (by kernel_rfl)) rfl ?_
  exact ⟨rfl, (Below.refl _ w).alloc (Nat.le_refl _) _⟩
end Go.Proofs.YtaonkbfekadalaaGreatDoor
/- What Numbers comes to. -/
namespace Go.Proofs.YtaonkbfekadalaaGreatDoor
open Go.RowKit
set_option linter.unusedVariables false

theorem index_word (k : Nat) (hk : k < 17) (W : World) : (Instr.index 179 (.agg wordsA) (.int .i64 (k : Int))).run Tryz.prog W = .ok (.agg #[.string (wordK k), .int .i64 (numK k : Nat)]) W := by
  rcases (by omega : k = 0 ∨ k = 1 ∨ k = 2 ∨ k = 3 ∨ k = 4 ∨ k = 5 ∨ k = 6 ∨ k = 7 ∨ k = 8 ∨ k = 9 ∨ k = 10 ∨ k = 11 ∨ k = 12 ∨ k = 13 ∨ k = 14 ∨ k = 15 ∨ k = 16) with rfl | rfl | rfl | rfl | rfl | rfl | rfl | rfl | rfl | rfl | rfl | rfl | rfl | rfl | rfl | rfl | rfl <;> kernel_rfl
/-- How many numbers a word has, if there is such a word. -/
def NumPost (s : ByteArray) (e : Ending) : Prop := (∃ k, k < 17 ∧ wordK k = s ∧ e = .returned (.tuple #[.int .i64 (numK k : Nat), .bool true])) ∨ ((∀ k, k < 17 → wordK k ≠ s) ∧ e = .returned (.tuple #[.int .i64 0, .bool false]))
theorem word_same {a b : ByteArray} (h : a = b) : (a.toList == b.toList) = true := by rw [h]; simp
theorem word_diff {a b : ByteArray} (h : ¬ a = b) : (a.toList == b.toList) = false := by
  apply Bool.eq_false_iff.2
  intro q
  have := eq_of_beq q
  rw [ByteArray.toList_eq, ByteArray.toList_eq] at this
  exact h (by cases a; cases b; simp at this; simp [this])
set_option maxRecDepth 100000 in
set_option maxHeartbeats 1000000 in
theorem Numbers_ok (s : ByteArray) (w : World) : Calls Tryz.prog 97 #[.string s] w fun e w' => NumPost s e ∧ Below w.heap.size w w' := by
  have hw := words_ok w
  go_enter Tryz.func97, Tryz.ntmps97
  go_wp2_with fail
  refine hw.mono ?_
  rintro e w1 ⟨rfl, hB1⟩
  have HX := Lib.hid index_word
  obtain ⟨WA, hWA⟩ : ∃ WA, WA = wordsA := ⟨_, rfl⟩
  rw [← hWA] at HX ⊢
  clear hWA hw
  go_wp2_with fail
  go_loopw [7] (fun i wr => ∃ k : Nat, k ≤ 17 ∧ i = .int .i64 k ∧ (∀ j, j < k → wordK j ≠ s) ∧ Below w.heap.size w wr) (fun i _ => 17 - (intOf i).toNat)
  case atStart => exact ⟨0, Nat.zero_le _, rfl, fun j hj => by omega, hB1⟩
  case round =>
    obtain ⟨k, hk, rfl, hno, hB⟩ := hrel
    have HNO := Lib.hid hno
    clear hno
    by_cases hlt : k < 17
    · have i0 : (0 : Int) ≤ (k : Int) := by omega
      have i1 : (k : Int) < 17 := by omega
      have hix := HX.out k hlt
      have n1 : IntKind.i64.wrap ((k : Int) + 1) = (k : Int) + 1 := IntWalk.i64_in _ (by omega)
      have b1 := Blk.made wr 178 #[.string (wordK k), .int .i64 (numK k : Nat)]
      have x0 : (wr.alloc (.cells #[.string (wordK k), .int .i64 (numK k : Nat)] 178)).cell? ⟨wr.heap.size, 0, none⟩ = some (.string (wordK k)) := by rw [b1.cell]; rfl
      have x1 : (wr.alloc (.cells #[.string (wordK k), .int .i64 (numK k : Nat)] 178)).cell? ⟨wr.heap.size, 1, none⟩ = some (.int .i64 (numK k : Nat)) := by rw [b1.cell]; rfl
      have hBa : Below w.heap.size w (wr.alloc (.cells #[.string (wordK k), .int .i64 (numK k : Nat)] 178)) := hB.alloc hB.size _
      by_cases hs : wordK k = s
      · have t1 := word_same hs
        have HS := Lib.hid hs
        clear hs
        generalize hWK : wordK k = wk at *
        generalize hNK : numK k = nk at *
        have HWK := Lib.hid (And.intro hWK hNK)
        clear hWK hNK
        go_wp2_with fail
        go_ret2
        exact ⟨.inl ⟨k, hlt, by rw [HWK.out.1]; exact HS.out, by rw [HWK.out.2]; rfl⟩, hBa⟩
      · have t1 := word_diff hs
        have HS := Lib.hid hs
        clear hs
        generalize hWK : wordK k = wk at *
        generalize hNK : numK k = nk at *
        have HWK := Lib.hid (And.intro hWK hNK)
        clear hWK hNK
        go_wp2_with fail
        go_round
        case rel =>
          refine ⟨k + 1, by omega, by go_num, fun j hj => ?_, hBa⟩
          by_cases e : j = k
          · rw [e, HWK.out.1]; exact HS.out
          · exact HNO.out j (by omega)
        case measure => simp [intOf]; omega
    · obtain rfl : k = 17 := by omega
      go_wp2_with fail
      go_ret2
      exact ⟨.inr ⟨HNO.out, rfl⟩, hB⟩
end Go.Proofs.YtaonkbfekadalaaGreatDoor
