/-
  No cell of these rows narrows 'for every input' (looked for: loops, veiled, ifaces, maps, wideKeys, modest, calm, conditions, laid).
  DERIVED. THE GIVEN ROWS OF THIS SEAT. 6 by the template 'for every input the law returns true; each argument reads behind the call as it read before'; 0 by the template 'total and deterministic' (their statements: YtahmhnbjpgkbbaaTotals.lean).
  GIVEN WITH THE SEED: the statements are not yours to turn. If you find one false, say at which input.
  Laid BY PROGRAM, IN A SANDBOX (cutbox-rows.mjs): the forced cells as the released guide's own fill.sh prints them over the translation 542c9601bd2e58d4… (all of the seat's roots in one cut). By AI agents, Wed Nov 11 2026. No macro, syntax, notation, axiom, sorry.
-/
import Derived.Test.YtahmhnbjpgkbbaaChecked
import GoSem.Claim
import GoSem.ClaimJoined
import GoSem.ClaimMapViews
import Derived.JoinedTies
import Derived.KernelRfl
namespace Go.Proofs.Ytahmhnbjpgkbbaa
/- THE CELL 'sum', in the pinned program and in every row, IS THE sha256 OF THE DUMP (.gsa) THAT YtahmhnbjpgkbbaaProg.lean LOADS. Nothing in Lean hashes anything: it is a label: what it is worth is what the hold of that sum in a sandbox is worth. -/
noncomputable def Try.pinned : Pinned := { name := "ytahmhnbjpgkbbaa", sum := "542c9601bd2e58d488fe0a2a6613d937f87b43ab625423eb3422788a5afacea6", checked := Try.checked }
namespace Rows
def none {H : Type} : Left H := { results := [], args := [] }

/-- 'punnetlaw04.SpreadRises': WHATEVER THE INPUT: true; the input reads as it did. -/
def spreadRisesSpec : ChangeSpec := { name := "spreadRises", fn := fun _ => fun
  | [d1, d2, d3] => { results := [.lit (.bool true)], args := [d1, d2, d3] }
  | _ => none }
def spreadRisesRow : OpenClaim := { program := "ytahmhnbjpgkbbaa", sum := "542c9601bd2e58d488fe0a2a6613d937f87b43ab625423eb3422788a5afacea6", func := "punnet/punnetlaw04.SpreadRises", spec := "spreadRises", unfollowed := true, recurses := true, apart := false }
def SpreadRisesSaid : Prop := spreadRisesRow.holds Try.pinned (OpenSpec.ofChange spreadRisesSpec)

/-- ITS FALSE NEIGHBOUR: 'it returns false'. Refute it at one input. -/
def spreadRisesWrong : ChangeSpec := { name := "spreadRises", fn := fun _ => fun
  | [d1, d2, d3] => { results := [.lit (.bool false)], args := [d1, d2, d3] }
  | _ => none }
def SpreadRisesWrongFalsely : Prop := spreadRisesRow.holds Try.pinned (OpenSpec.ofChange spreadRisesWrong)

/-- 'punnetlaw04.SpreadShares': WHATEVER THE INPUT: true; the input reads as it did. -/
def spreadSharesSpec : ChangeSpec := { name := "spreadShares", fn := fun _ => fun
  | [d1, d2, d3] => { results := [.lit (.bool true)], args := [d1, d2, d3] }
  | _ => none }
def spreadSharesRow : OpenClaim := { program := "ytahmhnbjpgkbbaa", sum := "542c9601bd2e58d488fe0a2a6613d937f87b43ab625423eb3422788a5afacea6", func := "punnet/punnetlaw04.SpreadShares", spec := "spreadShares", unfollowed := true, recurses := true, apart := false }
def SpreadSharesSaid : Prop := spreadSharesRow.holds Try.pinned (OpenSpec.ofChange spreadSharesSpec)

/-- ITS FALSE NEIGHBOUR: 'it returns false'. Refute it at one input. -/
def spreadSharesWrong : ChangeSpec := { name := "spreadShares", fn := fun _ => fun
  | [d1, d2, d3] => { results := [.lit (.bool false)], args := [d1, d2, d3] }
  | _ => none }
def SpreadSharesWrongFalsely : Prop := spreadSharesRow.holds Try.pinned (OpenSpec.ofChange spreadSharesWrong)

/-- 'punnetlaw04.SpreadHalves': WHATEVER THE INPUT: true; the input reads as it did. -/
def spreadHalvesSpec : ChangeSpec := { name := "spreadHalves", fn := fun _ => fun
  | [d1, d2, d3] => { results := [.lit (.bool true)], args := [d1, d2, d3] }
  | _ => none }
def spreadHalvesRow : OpenClaim := { program := "ytahmhnbjpgkbbaa", sum := "542c9601bd2e58d488fe0a2a6613d937f87b43ab625423eb3422788a5afacea6", func := "punnet/punnetlaw04.SpreadHalves", spec := "spreadHalves", unfollowed := true, recurses := true, apart := false }
def SpreadHalvesSaid : Prop := spreadHalvesRow.holds Try.pinned (OpenSpec.ofChange spreadHalvesSpec)

/-- ITS FALSE NEIGHBOUR: 'it returns false'. Refute it at one input. -/
def spreadHalvesWrong : ChangeSpec := { name := "spreadHalves", fn := fun _ => fun
  | [d1, d2, d3] => { results := [.lit (.bool false)], args := [d1, d2, d3] }
  | _ => none }
def SpreadHalvesWrongFalsely : Prop := spreadHalvesRow.holds Try.pinned (OpenSpec.ofChange spreadHalvesWrong)

/-- 'punnetlaw04.SpreadPlaces': WHATEVER THE INPUT: true; the input reads as it did. -/
def spreadPlacesSpec : ChangeSpec := { name := "spreadPlaces", fn := fun _ => fun
  | [d1, d2, d3] => { results := [.lit (.bool true)], args := [d1, d2, d3] }
  | _ => none }
def spreadPlacesRow : OpenClaim := { program := "ytahmhnbjpgkbbaa", sum := "542c9601bd2e58d488fe0a2a6613d937f87b43ab625423eb3422788a5afacea6", func := "punnet/punnetlaw04.SpreadPlaces", spec := "spreadPlaces", unfollowed := true, recurses := true, apart := false }
def SpreadPlacesSaid : Prop := spreadPlacesRow.holds Try.pinned (OpenSpec.ofChange spreadPlacesSpec)

/-- ITS FALSE NEIGHBOUR: 'it returns false'. Refute it at one input. -/
def spreadPlacesWrong : ChangeSpec := { name := "spreadPlaces", fn := fun _ => fun
  | [d1, d2, d3] => { results := [.lit (.bool false)], args := [d1, d2, d3] }
  | _ => none }
def SpreadPlacesWrongFalsely : Prop := spreadPlacesRow.holds Try.pinned (OpenSpec.ofChange spreadPlacesWrong)

/-- 'punnetlaw04.SpreadOffsets': WHATEVER THE INPUT: true; the input reads as it did. -/
def spreadOffsetsSpec : ChangeSpec := { name := "spreadOffsets", fn := fun _ => fun
  | [d1, d2] => { results := [.lit (.bool true)], args := [d1, d2] }
  | _ => none }
def spreadOffsetsRow : OpenClaim := { program := "ytahmhnbjpgkbbaa", sum := "542c9601bd2e58d488fe0a2a6613d937f87b43ab625423eb3422788a5afacea6", func := "punnet/punnetlaw04.SpreadOffsets", spec := "spreadOffsets", unfollowed := true, recurses := true, apart := false }
def SpreadOffsetsSaid : Prop := spreadOffsetsRow.holds Try.pinned (OpenSpec.ofChange spreadOffsetsSpec)

/-- ITS FALSE NEIGHBOUR: 'it returns false'. Refute it at one input. -/
def spreadOffsetsWrong : ChangeSpec := { name := "spreadOffsets", fn := fun _ => fun
  | [d1, d2] => { results := [.lit (.bool false)], args := [d1, d2] }
  | _ => none }
def SpreadOffsetsWrongFalsely : Prop := spreadOffsetsRow.holds Try.pinned (OpenSpec.ofChange spreadOffsetsWrong)

/-- 'punnetlaw04.SpreadWhole': WHATEVER THE INPUT: true; the input reads as it did. -/
def spreadWholeSpec : ChangeSpec := { name := "spreadWhole", fn := fun _ => fun
  | [d1, d2] => { results := [.lit (.bool true)], args := [d1, d2] }
  | _ => none }
def spreadWholeRow : OpenClaim := { program := "ytahmhnbjpgkbbaa", sum := "542c9601bd2e58d488fe0a2a6613d937f87b43ab625423eb3422788a5afacea6", func := "punnet/punnetlaw04.SpreadWhole", spec := "spreadWhole", unfollowed := true, recurses := true, apart := false }
def SpreadWholeSaid : Prop := spreadWholeRow.holds Try.pinned (OpenSpec.ofChange spreadWholeSpec)

/-- ITS FALSE NEIGHBOUR: 'it returns false'. Refute it at one input. -/
def spreadWholeWrong : ChangeSpec := { name := "spreadWhole", fn := fun _ => fun
  | [d1, d2] => { results := [.lit (.bool false)], args := [d1, d2] }
  | _ => none }
def SpreadWholeWrongFalsely : Prop := spreadWholeRow.holds Try.pinned (OpenSpec.ofChange spreadWholeWrong)

/- THE SECOND FORM. 'bulk': how many values and letters a reading holds, each counted each time it is reached (what is shared counts as often as it is met; a slice's spare places count too). A statement '..UptoSaid' is the law's where the arguments, and the package variables that the reading takes, are together of bulk at most 1048576: NARROWER than '..Said'. Prove '..Said' where nothing that the law and all that it calls make is longer than what came in: it says more and counts as full. Else prove '..UptoSaid'. A law counts once. -/
mutual
def uptoBulk {H : Type} : DataW H → Nat
  | .lit (.string bytes) => bytes.length + 1
  | .lit _ => 1
  | .nil => 1
  | .ptr d => uptoBulk d + 1
  | .slice elems spare => uptoBulkAll elems + uptoBulkAll spare + 1
  | .agg parts => uptoBulkAll parts + 1
  | .iface _ d => uptoBulk d + 1
  | .map entries => uptoBulkEntries entries + 1
  | .held _ => 1
def uptoBulkAll {H : Type} : List (DataW H) → Nat
  | [] => 0
  | d :: r => uptoBulk d + uptoBulkAll r
def uptoBulkEntries {H : Type} : List (Lit × DataW H) → Nat
  | [] => 0
  | x :: r => uptoBulkEntry x + uptoBulkEntries r
def uptoBulkEntry {H : Type} : Lit × DataW H → Nat
  | (.string bytes, d) => bytes.length + uptoBulk d + 1
  | (_, d) => uptoBulk d + 1
 end
def uptoSmall : (H : Type) → List (DataW H) → Bool := fun _ ds => decide (uptoBulkAll ds ≤ 1048576)
def OpenSpec.upto (s : _root_.Go.ChangeSpec) : _root_.Go.OpenSpec := { _root_.Go.OpenSpec.ofChange s with cond := some uptoSmall }

/-- 'punnetlaw04.SpreadRises', WHERE WHAT IT READS IS OF BULK AT MOST 1048576: true; the input reads as it did. -/
def spreadRisesUptoRow : OpenClaim := { program := "ytahmhnbjpgkbbaa", sum := "542c9601bd2e58d488fe0a2a6613d937f87b43ab625423eb3422788a5afacea6", func := "punnet/punnetlaw04.SpreadRises", spec := "spreadRises", unfollowed := true, recurses := true, apart := false, narrowed := true }
def SpreadRisesUptoSaid : Prop := spreadRisesUptoRow.holds Try.pinned (OpenSpec.upto spreadRisesSpec)

/-- 'punnetlaw04.SpreadShares', WHERE WHAT IT READS IS OF BULK AT MOST 1048576: true; the input reads as it did. -/
def spreadSharesUptoRow : OpenClaim := { program := "ytahmhnbjpgkbbaa", sum := "542c9601bd2e58d488fe0a2a6613d937f87b43ab625423eb3422788a5afacea6", func := "punnet/punnetlaw04.SpreadShares", spec := "spreadShares", unfollowed := true, recurses := true, apart := false, narrowed := true }
def SpreadSharesUptoSaid : Prop := spreadSharesUptoRow.holds Try.pinned (OpenSpec.upto spreadSharesSpec)

/-- 'punnetlaw04.SpreadHalves', WHERE WHAT IT READS IS OF BULK AT MOST 1048576: true; the input reads as it did. -/
def spreadHalvesUptoRow : OpenClaim := { program := "ytahmhnbjpgkbbaa", sum := "542c9601bd2e58d488fe0a2a6613d937f87b43ab625423eb3422788a5afacea6", func := "punnet/punnetlaw04.SpreadHalves", spec := "spreadHalves", unfollowed := true, recurses := true, apart := false, narrowed := true }
def SpreadHalvesUptoSaid : Prop := spreadHalvesUptoRow.holds Try.pinned (OpenSpec.upto spreadHalvesSpec)

/-- 'punnetlaw04.SpreadPlaces', WHERE WHAT IT READS IS OF BULK AT MOST 1048576: true; the input reads as it did. -/
def spreadPlacesUptoRow : OpenClaim := { program := "ytahmhnbjpgkbbaa", sum := "542c9601bd2e58d488fe0a2a6613d937f87b43ab625423eb3422788a5afacea6", func := "punnet/punnetlaw04.SpreadPlaces", spec := "spreadPlaces", unfollowed := true, recurses := true, apart := false, narrowed := true }
def SpreadPlacesUptoSaid : Prop := spreadPlacesUptoRow.holds Try.pinned (OpenSpec.upto spreadPlacesSpec)

/-- 'punnetlaw04.SpreadOffsets', WHERE WHAT IT READS IS OF BULK AT MOST 1048576: true; the input reads as it did. -/
def spreadOffsetsUptoRow : OpenClaim := { program := "ytahmhnbjpgkbbaa", sum := "542c9601bd2e58d488fe0a2a6613d937f87b43ab625423eb3422788a5afacea6", func := "punnet/punnetlaw04.SpreadOffsets", spec := "spreadOffsets", unfollowed := true, recurses := true, apart := false, narrowed := true }
def SpreadOffsetsUptoSaid : Prop := spreadOffsetsUptoRow.holds Try.pinned (OpenSpec.upto spreadOffsetsSpec)

/-- 'punnetlaw04.SpreadWhole', WHERE WHAT IT READS IS OF BULK AT MOST 1048576: true; the input reads as it did. -/
def spreadWholeUptoRow : OpenClaim := { program := "ytahmhnbjpgkbbaa", sum := "542c9601bd2e58d488fe0a2a6613d937f87b43ab625423eb3422788a5afacea6", func := "punnet/punnetlaw04.SpreadWhole", spec := "spreadWhole", unfollowed := true, recurses := true, apart := false, narrowed := true }
def SpreadWholeUptoSaid : Prop := spreadWholeUptoRow.holds Try.pinned (OpenSpec.upto spreadWholeSpec)

end Rows
end Go.Proofs.Ytahmhnbjpgkbbaa
