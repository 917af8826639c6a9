/- The line of an answer: what Text comes to. -/
import Derived.Test.YtaonkbfekadalaaGreatDoorM24
import Derived.Test.YtaonkbfekadalaaGreatDoorM39
namespace Go.Proofs.YtaonkbfekadalaaGreatDoor
open Go.RowKit
set_option linter.unusedVariables false

def itB (n : Int) : ByteArray := ⟨(Lib.itoa n).toArray⟩
def ynB (b : Bool) : ByteArray := if b then ⟨#[121, 101, 115]⟩ else ⟨#[110, 111]⟩
def strsV (n : Int) (y : ByteArray) (a b c d : Int) : List ByteArray := [⟨#[111, 107]⟩, itB n, y, itB a, itB b, itB c, itB d]
def textV (n : Int) (y : ByteArray) (a b c d : Int) : ByteArray := ⟨(Lib.join ((strsV n y a b c d).map (·.data.toList)) [32]).toArray⟩
theorem Itoa_ok {n : Int} (hn : inH n) (w : World) (ht : Tab10 w) : Calls Tryz.prog 87 #[.int .i64 n] w fun e w' => e = .returned (.string (itB n)) ∧ Below w.heap.size w w' := by
  unfold inH at hn
  refine (Tryz.strconv_Itoa n (by omega) (by omega) w ht).mono ?_
  rintro e w' ⟨rfl, k, os, rfl⟩
  exact ⟨rfl, below_grow w k os⟩
theorem Tryz.infoS : (Tryz.prog.info? 9).map (fun i => (i.zero, i.size, i.bytes)) = some (some (.string ⟨#[]⟩), 1, 16) := by kernel_rfl
theorem Blk.not_row {w : World} {g : Nat} {t e : TypeId} {cs : Array Value} (h : Blk w g t cs) (hte : t ≠ e) {base size k : Nat} {v : Value} {xs : List Value} (hr : w.ownsRow base e size v k xs) : some g ≠ v.ownBlock := by
  rcases hr.2 with ⟨rfl, _⟩ | ⟨g', cap, cur, rfl, _, hgb, _⟩
  · simp [Value.ownBlock]
  · intro e'
    obtain rfl : g = g' := by simpa [Value.ownBlock] using e'
    have := (show w.heap[g]? = _ from h).symm.trans hgb
    simp at this
    exact hte this.2
theorem own_cap {w : World} {base g n cap size : Nat} {e : TypeId} {xs : List Value} (h : w.ownsRow base e size (.slice (some ⟨g, 0, none⟩) n cap) n xs) : n ≤ cap := by
  rcases h.2 with ⟨h', _⟩ | ⟨g', cap', cur, h', _, _, hc, _⟩
  · cases h'
  · simp only [Value.slice.injEq] at h'
    omega
/-- The words of the line, as values. -/
def wsV (n : Int) (y : ByteArray) (a b c d : Int) : List Value := (strsV n y a b c d).map Value.string
def four (a b c d : Int) (k : Nat) : Int := [a, b, c, d].getD k 0
theorem ws_snoc (n : Int) (y : ByteArray) (a b c d : Int) {k : Nat} (hk : k < 4) : (wsV n y a b c d).take (3 + k) ++ [.string (itB (four a b c d k))] = (wsV n y a b c d).take (3 + (k + 1)) := by
  rcases (by omega : k = 0 ∨ k = 1 ∨ k = 2 ∨ k = 3) with rfl | rfl | rfl | rfl <;> rfl
theorem four_in {a b c d : Int} (ha : inH a) (hb : inH b) (hc : inH c) (hd : inH d) {k : Nat} (hk : k < 4) : inH (four a b c d k) := by
  rcases (by omega : k = 0 ∨ k = 1 ∨ k = 2 ∨ k = 3) with rfl | rfl | rfl | rfl <;> assumption
section
variable {w : World} {n a b c d : Int} {is : Bool} {y : ByteArray}
set_option maxRecDepth 100000 in
set_option maxHeartbeats 8000000 in
theorem Text_ok (hy : y = ynB is) (hn : inH n) (ha : inH a) (hb : inH b) (hc : inH c) (hd : inH d) (hT : Tab10 w) (h1 : 1 < w.heap.size) (hl : (Lib.join ((strsV n y a b c d).map (·.data.toList)) [32]).length ≤ 140737488355328) :
    Calls Tryz.prog 38 #[.agg #[.int .i64 0, .int .i64 n, .bool is, .int .i64 a, .int .i64 b, .int .i64 c, .int .i64 d, .slice none 0 0]] w fun e w' => e = .returned (.string (textV n y a b c d)) ∧ Below w.heap.size w w' := by
  have b0 := Blk.made w 33 #[.int .i64 0, .int .i64 n, .bool is, .int .i64 a, .int .i64 b, .int .i64 c, .int .i64 d, .slice none 0 0]
  have hB0 : Below w.heap.size w (w.alloc (.cells #[.int .i64 0, .int .i64 n, .bool is, .int .i64 a, .int .i64 b, .int .i64 c, .int .i64 d, .slice none 0 0] 33)) := (Below.refl _ w).alloc (Nat.le_refl _) _
  have hT0 := hT.below hB0 h1
  have hz0 : (w.alloc (.cells #[.int .i64 0, .int .i64 n, .bool is, .int .i64 a, .int .i64 b, .int .i64 c, .int .i64 d, .slice none 0 0] 33)).heap.size = w.heap.size + 1 := by simp
  generalize hW0 : w.alloc (.cells #[.int .i64 0, .int .i64 n, .bool is, .int .i64 a, .int .i64 b, .int .i64 c, .int .i64 d, .slice none 0 0] 33) = W0 at *
  obtain ⟨y0, y1, y2, y3, y4, y5, y6, y7⟩ := b0.eight
  have hI := Itoa_ok hn W0 hT0
  have HL := Lib.hid hl
  have HA := Lib.hid (And.intro ha (And.intro hb (And.intro hc hd)))
  clear hl ha hb hc hd
  cases is
  all_goals
    go_enter Tryz.func38, Tryz.ntmps38
    go_wp2_with fail
    refine hI.mono ?_
    rintro e w1 ⟨rfl, hB1⟩
    first
      | rw [show (⟨#[110, 111]⟩ : ByteArray) = y from hy.symm]
      | rw [show (⟨#[121, 101, 115]⟩ : ByteArray) = y from hy.symm]
    clear hy hI hW0
    have b1 := b0.below hB1 b0.lt
    obtain ⟨y0, y1, y2, y3, y4, y5, y6, y7⟩ := (b1.alloc (.cells #[.string ⟨#[111, 107]⟩, .string (itB n), .string y] 9)).eight
    have y8 := ((b1.alloc (.cells #[.string ⟨#[111, 107]⟩, .string (itB n), .string y] 9)).alloc (.cells #[.int .i64 a, .int .i64 b, .int .i64 c, .int .i64 d] 3)).cell 7
    have hT1 := hT0.below hB1 (by omega)
    go_wp2_with fail
    clear y0 y1 y2 y3 y4 y5 y6 y7 y8 b0 b1
    have hs1 := hB1.size
    have hw1 : w.heap.size ≤ w1.heap.size := by omega
    have o3 : ((w1.alloc (.cells #[.string ⟨#[111, 107]⟩, .string (itB n), .string y] 9)).alloc (.cells #[.int .i64 a, .int .i64 b, .int .i64 c, .int .i64 d] 3)).ownsRow w1.heap.size 9 1 (.slice (some ⟨w1.heap.size, 0, none⟩) 3 3) 3 ((wsV n y a b c d).take (3 + 0)) :=
      (World.ownsRow_lit w1 #[.string ⟨#[111, 107]⟩, .string (itB n), .string y] 3 (Nat.le_refl _) (by decide) rfl).alloc _
    have g3 := Blk.made (w1.alloc (.cells #[.string ⟨#[111, 107]⟩, .string (itB n), .string y] 9)) 3 #[.int .i64 a, .int .i64 b, .int .i64 c, .int .i64 d]
    rw [World.size_alloc] at g3
    have hB3 : Below w.heap.size w ((w1.alloc (.cells #[.string ⟨#[111, 107]⟩, .string (itB n), .string y] 9)).alloc (.cells #[.int .i64 a, .int .i64 b, .int .i64 c, .int .i64 d] 3)) :=
      (((hB0.trans (hB1.mono (by omega))).alloc (by omega) _).alloc (by simp; omega) _)
    have hz3 : ((w1.alloc (.cells #[.string ⟨#[111, 107]⟩, .string (itB n), .string y] 9)).alloc (.cells #[.int .i64 a, .int .i64 b, .int .i64 c, .int .i64 d] 3)).heap.size = w1.heap.size + 2 := by simp
    generalize ((w1.alloc (.cells #[.string ⟨#[111, 107]⟩, .string (itB n), .string y] 9)).alloc (.cells #[.int .i64 a, .int .i64 b, .int .i64 c, .int .i64 d] 3)) = W3 at *
    obtain ⟨i0, hi, hz0', hz1, hz2⟩ := info_parts Tryz.infoS
    clear hB1 hT1 hT0 hB0 hz0
    go_loopw [4, 38] (fun v i wr => ∃ k : Nat, k ≤ 4 ∧ i = .int .i64 k ∧ wr.ownsRow w1.heap.size 9 1 v (3 + k) ((wsV n y a b c d).take (3 + k)) ∧ Blk wr (w1.heap.size + 1) 3 #[.int .i64 a, .int .i64 b, .int .i64 c, .int .i64 d] ∧ Below w.heap.size w wr ∧ w1.heap.size + 2 ≤ wr.heap.size) (fun _ i _ => 4 - (intOf i).toNat)
    case atStart => exact ⟨0, by omega, rfl, o3, g3, hB3, by omega⟩
    case round =>
      obtain ⟨k, hk, rfl, hrow, hg, hB, hz⟩ := hrel
      by_cases hlt : k < 4
      · have k0 : (0 : Int) ≤ (k : Int) := by omega
        have k1 : (k : Int) < 4 := by omega
        have k2 : IntKind.i64.wrap ((k : Int) + 1) = (k : Int) + 1 := IntWalk.i64_in _ (by omega)
        have cz : wr.cell? ⟨w1.heap.size + 1, k, none⟩ = some (.int .i64 (four a b c d k)) := by
          rw [hg.cell]
          rcases (by omega : k = 0 ∨ k = 1 ∨ k = 2 ∨ k = 3) with rfl | rfl | rfl | rfl <;> rfl
        have hcall := Itoa_ok (four_in HA.out.1 HA.out.2.1 HA.out.2.2.1 HA.out.2.2.2 hlt) wr (hT.below hB h1)
        have hsn := ws_snoc n y a b c d hlt
        have HSN := Lib.hid hsn
        clear hsn
        generalize four a b c d k = z at *
        go_wp2_with fail
        refine hcall.mono ?_
        rintro e w4 ⟨rfl, hB4⟩
        have hk4 : wr.grownBy w4 none := ⟨hB4.os, hB4.tape, hB4.output, hB4.size, fun i hi _ => hB4.block i hi⟩
        have hs4 := hB4.size
        have hrow4 := World.ownsRow.alloc (hrow.kept hk4 (Classical.em _)) (.cells #[.string (itB z)] 9)
        have hg4 := (hg.below hB4 hg.lt).alloc (.cells #[.string (itB z)] 9)
        have hBw4 := (hB.trans (hB4.mono hB.size)).alloc (Nat.le_trans hB.size hs4) (.cells #[.string (itB z)] 9)
        go_wp2_with (at_builtin; refine wpList_append_own _ rfl _ _ 126 rfl w1.heap.size 9 i0 (.string ⟨#[]⟩) 1 16 Tryz.underlying126 hi hz0' hz1 hz2 rfl (by decide) _ _ _ rfl hrow4 ⟨w4.heap.size, 0, none⟩ 1 1 [.string (itB z)] rfl rfl (cell_one_new _ _ _) (by simp [Value.oneCell']) (by unfold maxLen; omega) (by omega) (by simp; omega) ?_; intro v' w5 hown' hgrow hnil; clear hnil; replace hgrow : (w4.alloc (.cells #[.string (itB z)] 9)).grownBy w5 _ := hgrow)
        have hg5 := hg4.grown hgrow (hg4.not_row (by decide) hrow4)
        have hB5 := hBw4.grown hgrow (by simp; have := hB.size; omega) (fun r e => by have := (hrow4.lt r e).1; have := hB3.size; omega)
        have hs5 := hgrow.size
        rw [World.size_alloc] at hs5
        rw [HSN.out] at hown'
        go_roundw
        case rel => exact ⟨k + 1, by omega, by go_num, hown', hg5, hB5, by omega⟩
        case measure => simp [intOf]; omega
      · obtain rfl : k = 4 := by omega
        obtain ⟨g, cap, rfl⟩ := ownsRow_succ hrow
        have hj := Tryz.strings_Join g 0 cap (strsV n y a b c d) ⟨#[32]⟩ wr (fun j x hx => by
          have hj : j < 7 := (List.getElem?_eq_some_iff.1 hx).1
          rw [Nat.zero_add, World.ownsRow.cellAt hrow j (by omega), show (wsV n y a b c d).take (3 + 4) = (strsV n y a b c d).map Value.string from rfl, List.getElem?_map, hx]
          rfl) (hrow.lt g rfl).2 (by show 7 ≤ _; decide) (own_cap hrow) HL.out
        rw [show (strsV n y a b c d).length = 7 from rfl] at hj
        go_wp2_with fail
        refine hj.mono ?_
        rintro e w5 ⟨rfl, hB5⟩
        go_wp2_with fail
        go_ret
        exact ⟨rfl, hB.trans (hB5.mono hB.size)⟩
end
end Go.Proofs.YtaonkbfekadalaaGreatDoor
