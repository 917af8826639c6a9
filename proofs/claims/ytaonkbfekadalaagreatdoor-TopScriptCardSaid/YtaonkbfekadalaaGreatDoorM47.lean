/- What the listed variables give the walk; and that a world meets the row's condition. -/
import Derived.Test.YtaonkbfekadalaaGreatDoorTie
import Derived.Test.YtaonkbfekadalaaGreatDoorCards
import Derived.LaidMore
import Derived.Lay
import Derived.Lib.SmallJoins
import Derived.SevenTiedAt
import Derived.Stop.Joined
import Derived.HandedShaped
import Derived.Test.YtaonkbfekadalaaGreatDoorM46
namespace Go.Proofs.YtaonkbfekadalaaGreatDoor
open Go.ChangeShapes Go.WideShapes Go.ChangeAt Go.RowKit
set_option linter.unusedVariables false

abbrev listed : List (String × DataW Unit) := [("math/bits.deBruijn32tab", Rows.laid_math_bits_deBruijn32tab), ("math/bits.deBruijn64tab", Rows.laid_math_bits_deBruijn64tab), ("internal/strconv.uint64pow10", Rows.laid_internal_strconv_uint64pow10), ("unicode/utf8.acceptRanges", Rows.laid_unicode_utf8_acceptRanges), ("strconv.ErrRange", Rows.laid_strconv_ErrRange), ("strconv.ErrSyntax", Rows.laid_strconv_ErrSyntax), ("unicode/utf8.first", Rows.laid_unicode_utf8_first)]
theorem row_own : ownKnob Tryz.prog.godebug = none := by kernel_rfl
theorem row_laidOut : laidOutB Tryz.prog = true := by kernel_rfl
theorem laid_tail {P : Program} {x : String × DataW Unit} {r : List (String × DataW Unit)} {W : World} (h : laidMet P (x :: r) W) : laidMet P r W := by
  obtain ⟨ps, ⟨g, t, cs, fuel, p, q, _, _, _, _, hr, rfl⟩, hn, hm⟩ := h
  exact ⟨q, hr, (List.nodup_append.1 hn).2.1, fun b off hb => hm b off (by simp [hb])⟩
theorem gTab : Tryz.prog.globalNamed "math/bits.deBruijn64tab" = some 2 := by kernel_rfl
theorem tTab : (Tryz.prog.globals[2]?).map (·.type) = some 258 := by kernel_rfl
theorem gPow : Tryz.prog.globalNamed "internal/strconv.uint64pow10" = some 1 := by kernel_rfl
theorem tPow : (Tryz.prog.globals[1]?).map (·.type) = some 256 := by kernel_rfl
theorem laid_bits {H : Type} : (Rows.laid_math_bits_deBruijn64tab : DataW H) = .agg (Lib.deBruijn64tab.map fun n => .lit (.int .u8 (n : Nat))) := rfl
theorem laid_pow : (Rows.laid_internal_strconv_uint64pow10 : DataW Unit) = Lib.tabData .u64 Lib.pow10Tab := rfl
theorem bits_of {rest : List (String × DataW Unit)} {W : World} (h : laidMet Tryz.prog (("math/bits.deBruijn64tab", Rows.laid_math_bits_deBruijn64tab) :: rest) W) : Tab W := by
  obtain ⟨ps, ⟨g0, t0, cs0, f0, p0, q0, hg0, ht0, hv0, hd0, _⟩, _⟩ := h
  obtain rfl := Option.some.inj (gTab.symm.trans hg0)
  obtain rfl := Option.some.inj (tTab.symm.trans ht0)
  obtain ⟨xs, m1, rfl, hx1, hlen, hn3, hel⟩ := DataW.trod_array Tryz.underlying258 hd0
  have c5 : Tryz.prog.cellsOf 5 = 1 := by kernel_rfl
  rw [laid_bits] at hx1
  simp only [Prod.mk.injEq, DataW.agg.injEq] at hx1
  intro j hj
  have hcell := World.var?_cell hg0 hv0 j
  have h1 := hel j hj
  rw [c5, Nat.mul_one] at h1
  have hjx : j < xs.length := by omega
  rw [List.getElem?_eq_getElem hjx] at h1
  obtain ⟨k, e1, e2, _⟩ := DataW.trod_int Tryz.underlying5 h1
  have e3 : (Lib.deBruijn64tab.map fun n => (DataW.lit (.int .u8 (n : Nat)) : DataW _))[j]? = (xs.map (·.1))[j]? := by rw [hx1.1]
  rw [List.getElem?_map, List.getElem?_map, List.getElem?_eq_getElem hjx, e2] at e3
  have hjt : j < Lib.deBruijn64tab.length := hj
  rw [List.getElem?_eq_getElem hjt] at e3
  simp at e3
  rw [hcell]
  have e4 : cs0.toList[j]? = some (.int .u8 k) := by
    have := congrArg (fun l => l[0]?) e1
    simpa using this
  rw [← Array.getElem?_toList, e4, ← e3]
  simp [List.getD, hjt]
theorem gw_of {W : World} (h : laidMetH Tryz.prog listed W) (hsh : W.ShapedOpen Tryz.prog) : GW W := by
  rw [MakeChecks.laidMetH_plain _ _ _ (by kernel_rfl)] at h
  have h1 := laid_tail h
  have h2 := laid_tail h1
  refine ⟨bits_of h1, ?_, ?_⟩
  · unfold Tab10
    exact Lib.tabIs_of_head gPow tPow Tryz.underlying256 Tryz.underlying191 (by kernel_rfl) (by kernel_rfl) (by rw [laid_pow] at h2; exact h2)
  · exact cell_of_shapedOpen_int (zero := #[.int .i64 0]) (t := 3) hsh (of_decide_eq_true (by kernel_rfl)) (by kernel_rfl) rfl (by kernel_rfl) (by kernel_rfl) Tryz.underlying3
theorem world_met (os : Os) (args : Array Value) : laidMetH Tryz.prog listed ((World.laidAll Tryz.prog os listed).forCall (fun _ _ => 0) ⟨#[], args, []⟩).memory := by
  rw [MakeChecks.laidMetH_plain _ _ _ (by kernel_rfl)]
  exact laidMet_laidAll _ (by kernel_rfl) (by kernel_rfl)
end Go.Proofs.YtaonkbfekadalaaGreatDoor
