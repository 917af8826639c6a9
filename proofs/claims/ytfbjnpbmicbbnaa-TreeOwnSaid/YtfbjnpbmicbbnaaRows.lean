/-
  No cell of these rows narrows 'for every input' (looked for: loops, veiled, ifaces, maps, wideKeys, modest, calm, conditions, laid).
  DERIVED. THE GIVEN ROWS OF THIS SEAT. 6 by the template 'for every input the law returns true; each argument reads behind the call as it read before'; 0 by the template 'total and deterministic' (their statements: YtfbjnpbmicbbnaaTotals.lean).
  GIVEN WITH THE SEED: the statements are not yours to turn. If you find one false, say at which input.
  Laid BY PROGRAM, IN A SANDBOX (cutbox-rows.mjs): the forced cells as the released guide's own fill.sh prints them over the translation 61e7b510f6b31610… (all of the seat's roots in one cut). By AI agents, Wed Nov 11 2026. No macro, syntax, notation, axiom, sorry.
-/
import Derived.Test.YtfbjnpbmicbbnaaChecked
import GoSem.Claim
import GoSem.ClaimJoined
import GoSem.ClaimMapViews
import Derived.JoinedTies
import Derived.KernelRfl
namespace Go.Proofs.Ytfbjnpbmicbbnaa
/- THE CELL 'sum', in the pinned program and in every row, IS THE sha256 OF THE DUMP (.gsa) THAT YtfbjnpbmicbbnaaProg.lean LOADS. Nothing in Lean hashes anything: it is a label: what it is worth is what the hold of that sum in a sandbox is worth. -/
noncomputable def Try.pinned : Pinned := { name := "ytfbjnpbmicbbnaa", sum := "61e7b510f6b3161048546fc46134258a18dbbe274a0e8c74b2629919fde4f8d1", checked := Try.checked }
namespace Rows
def none {H : Type} : Left H := { results := [], args := [] }

/-- 'punnetlaw06.TreeAsks': WHATEVER THE INPUT: true; the input reads as it did. -/
def treeAsksSpec : ChangeSpec := { name := "treeAsks", fn := fun _ => fun
  | [d1, d2, d3] => { results := [.lit (.bool true)], args := [d1, d2, d3] }
  | _ => none }
def treeAsksRow : OpenClaim := { program := "ytfbjnpbmicbbnaa", sum := "61e7b510f6b3161048546fc46134258a18dbbe274a0e8c74b2629919fde4f8d1", func := "punnet/punnetlaw06.TreeAsks", spec := "treeAsks", unfollowed := true, recurses := true, apart := false }
def TreeAsksSaid : Prop := treeAsksRow.holds Try.pinned (OpenSpec.ofChange treeAsksSpec)

/-- ITS FALSE NEIGHBOUR: 'it returns false'. Refute it at one input. -/
def treeAsksWrong : ChangeSpec := { name := "treeAsks", fn := fun _ => fun
  | [d1, d2, d3] => { results := [.lit (.bool false)], args := [d1, d2, d3] }
  | _ => none }
def TreeAsksWrongFalsely : Prop := treeAsksRow.holds Try.pinned (OpenSpec.ofChange treeAsksWrong)

/-- 'punnetlaw06.TreeFinds': WHATEVER THE INPUT: true; the input reads as it did. -/
def treeFindsSpec : ChangeSpec := { name := "treeFinds", fn := fun _ => fun
  | [d1, d2, d3] => { results := [.lit (.bool true)], args := [d1, d2, d3] }
  | _ => none }
def treeFindsRow : OpenClaim := { program := "ytfbjnpbmicbbnaa", sum := "61e7b510f6b3161048546fc46134258a18dbbe274a0e8c74b2629919fde4f8d1", func := "punnet/punnetlaw06.TreeFinds", spec := "treeFinds", unfollowed := true, recurses := true, apart := false }
def TreeFindsSaid : Prop := treeFindsRow.holds Try.pinned (OpenSpec.ofChange treeFindsSpec)

/-- ITS FALSE NEIGHBOUR: 'it returns false'. Refute it at one input. -/
def treeFindsWrong : ChangeSpec := { name := "treeFinds", fn := fun _ => fun
  | [d1, d2, d3] => { results := [.lit (.bool false)], args := [d1, d2, d3] }
  | _ => none }
def TreeFindsWrongFalsely : Prop := treeFindsRow.holds Try.pinned (OpenSpec.ofChange treeFindsWrong)

/-- 'punnetlaw06.TreePlays': WHATEVER THE INPUT: true; the input reads as it did. -/
def treePlaysSpec : ChangeSpec := { name := "treePlays", fn := fun _ => fun
  | [d1, d2] => { results := [.lit (.bool true)], args := [d1, d2] }
  | _ => none }
def treePlaysRow : OpenClaim := { program := "ytfbjnpbmicbbnaa", sum := "61e7b510f6b3161048546fc46134258a18dbbe274a0e8c74b2629919fde4f8d1", func := "punnet/punnetlaw06.TreePlays", spec := "treePlays", unfollowed := true, recurses := true, apart := false }
def TreePlaysSaid : Prop := treePlaysRow.holds Try.pinned (OpenSpec.ofChange treePlaysSpec)

/-- ITS FALSE NEIGHBOUR: 'it returns false'. Refute it at one input. -/
def treePlaysWrong : ChangeSpec := { name := "treePlays", fn := fun _ => fun
  | [d1, d2] => { results := [.lit (.bool false)], args := [d1, d2] }
  | _ => none }
def TreePlaysWrongFalsely : Prop := treePlaysRow.holds Try.pinned (OpenSpec.ofChange treePlaysWrong)

/-- 'punnetlaw06.TreeHalves': WHATEVER THE INPUT: true; the input reads as it did. -/
def treeHalvesSpec : ChangeSpec := { name := "treeHalves", fn := fun _ => fun
  | [d1, d2] => { results := [.lit (.bool true)], args := [d1, d2] }
  | _ => none }
def treeHalvesRow : OpenClaim := { program := "ytfbjnpbmicbbnaa", sum := "61e7b510f6b3161048546fc46134258a18dbbe274a0e8c74b2629919fde4f8d1", func := "punnet/punnetlaw06.TreeHalves", spec := "treeHalves", unfollowed := true, recurses := true, apart := false }
def TreeHalvesSaid : Prop := treeHalvesRow.holds Try.pinned (OpenSpec.ofChange treeHalvesSpec)

/-- ITS FALSE NEIGHBOUR: 'it returns false'. Refute it at one input. -/
def treeHalvesWrong : ChangeSpec := { name := "treeHalves", fn := fun _ => fun
  | [d1, d2] => { results := [.lit (.bool false)], args := [d1, d2] }
  | _ => none }
def TreeHalvesWrongFalsely : Prop := treeHalvesRow.holds Try.pinned (OpenSpec.ofChange treeHalvesWrong)

/-- 'punnetlaw06.TreeAdds': WHATEVER THE INPUT: true; the input reads as it did. -/
def treeAddsSpec : ChangeSpec := { name := "treeAdds", fn := fun _ => fun
  | [d1, d2, d3] => { results := [.lit (.bool true)], args := [d1, d2, d3] }
  | _ => none }
def treeAddsRow : OpenClaim := { program := "ytfbjnpbmicbbnaa", sum := "61e7b510f6b3161048546fc46134258a18dbbe274a0e8c74b2629919fde4f8d1", func := "punnet/punnetlaw06.TreeAdds", spec := "treeAdds", unfollowed := true, recurses := true, apart := false }
def TreeAddsSaid : Prop := treeAddsRow.holds Try.pinned (OpenSpec.ofChange treeAddsSpec)

/-- ITS FALSE NEIGHBOUR: 'it returns false'. Refute it at one input. -/
def treeAddsWrong : ChangeSpec := { name := "treeAdds", fn := fun _ => fun
  | [d1, d2, d3] => { results := [.lit (.bool false)], args := [d1, d2, d3] }
  | _ => none }
def TreeAddsWrongFalsely : Prop := treeAddsRow.holds Try.pinned (OpenSpec.ofChange treeAddsWrong)

/-- 'punnetlaw06.TreeOwn': WHATEVER THE INPUT: true; the input reads as it did. -/
def treeOwnSpec : ChangeSpec := { name := "treeOwn", fn := fun _ => fun
  | [d1, d2, d3] => { results := [.lit (.bool true)], args := [d1, d2, d3] }
  | _ => none }
def treeOwnRow : OpenClaim := { program := "ytfbjnpbmicbbnaa", sum := "61e7b510f6b3161048546fc46134258a18dbbe274a0e8c74b2629919fde4f8d1", func := "punnet/punnetlaw06.TreeOwn", spec := "treeOwn", unfollowed := true, recurses := true, apart := false }
def TreeOwnSaid : Prop := treeOwnRow.holds Try.pinned (OpenSpec.ofChange treeOwnSpec)

/-- ITS FALSE NEIGHBOUR: 'it returns false'. Refute it at one input. -/
def treeOwnWrong : ChangeSpec := { name := "treeOwn", fn := fun _ => fun
  | [d1, d2, d3] => { results := [.lit (.bool false)], args := [d1, d2, d3] }
  | _ => none }
def TreeOwnWrongFalsely : Prop := treeOwnRow.holds Try.pinned (OpenSpec.ofChange treeOwnWrong)

/- THE SECOND FORM. 'bulk': how many values and letters a reading holds, each counted each time it is reached (what is shared counts as often as it is met; a slice's spare places count too). A statement '..UptoSaid' is the law's where the arguments, and the package variables that the reading takes, are together of bulk at most 1048576: NARROWER than '..Said'. Prove '..Said' where nothing that the law and all that it calls make is longer than what came in: it says more and counts as full. Else prove '..UptoSaid'. A law counts once. -/
mutual
def uptoBulk {H : Type} : DataW H → Nat
  | .lit (.string bytes) => bytes.length + 1
  | .lit _ => 1
  | .nil => 1
  | .ptr d => uptoBulk d + 1
  | .slice elems spare => uptoBulkAll elems + uptoBulkAll spare + 1
  | .agg parts => uptoBulkAll parts + 1
  | .iface _ d => uptoBulk d + 1
  | .map entries => uptoBulkEntries entries + 1
  | .held _ => 1
def uptoBulkAll {H : Type} : List (DataW H) → Nat
  | [] => 0
  | d :: r => uptoBulk d + uptoBulkAll r
def uptoBulkEntries {H : Type} : List (Lit × DataW H) → Nat
  | [] => 0
  | x :: r => uptoBulkEntry x + uptoBulkEntries r
def uptoBulkEntry {H : Type} : Lit × DataW H → Nat
  | (.string bytes, d) => bytes.length + uptoBulk d + 1
  | (_, d) => uptoBulk d + 1
 end
def uptoSmall : (H : Type) → List (DataW H) → Bool := fun _ ds => decide (uptoBulkAll ds ≤ 1048576)
def OpenSpec.upto (s : _root_.Go.ChangeSpec) : _root_.Go.OpenSpec := { _root_.Go.OpenSpec.ofChange s with cond := some uptoSmall }

/-- 'punnetlaw06.TreeAsks', WHERE WHAT IT READS IS OF BULK AT MOST 1048576: true; the input reads as it did. -/
def treeAsksUptoRow : OpenClaim := { program := "ytfbjnpbmicbbnaa", sum := "61e7b510f6b3161048546fc46134258a18dbbe274a0e8c74b2629919fde4f8d1", func := "punnet/punnetlaw06.TreeAsks", spec := "treeAsks", unfollowed := true, recurses := true, apart := false, narrowed := true }
def TreeAsksUptoSaid : Prop := treeAsksUptoRow.holds Try.pinned (OpenSpec.upto treeAsksSpec)

/-- 'punnetlaw06.TreeFinds', WHERE WHAT IT READS IS OF BULK AT MOST 1048576: true; the input reads as it did. -/
def treeFindsUptoRow : OpenClaim := { program := "ytfbjnpbmicbbnaa", sum := "61e7b510f6b3161048546fc46134258a18dbbe274a0e8c74b2629919fde4f8d1", func := "punnet/punnetlaw06.TreeFinds", spec := "treeFinds", unfollowed := true, recurses := true, apart := false, narrowed := true }
def TreeFindsUptoSaid : Prop := treeFindsUptoRow.holds Try.pinned (OpenSpec.upto treeFindsSpec)

/-- 'punnetlaw06.TreePlays', WHERE WHAT IT READS IS OF BULK AT MOST 1048576: true; the input reads as it did. -/
def treePlaysUptoRow : OpenClaim := { program := "ytfbjnpbmicbbnaa", sum := "61e7b510f6b3161048546fc46134258a18dbbe274a0e8c74b2629919fde4f8d1", func := "punnet/punnetlaw06.TreePlays", spec := "treePlays", unfollowed := true, recurses := true, apart := false, narrowed := true }
def TreePlaysUptoSaid : Prop := treePlaysUptoRow.holds Try.pinned (OpenSpec.upto treePlaysSpec)

/-- 'punnetlaw06.TreeHalves', WHERE WHAT IT READS IS OF BULK AT MOST 1048576: true; the input reads as it did. -/
def treeHalvesUptoRow : OpenClaim := { program := "ytfbjnpbmicbbnaa", sum := "61e7b510f6b3161048546fc46134258a18dbbe274a0e8c74b2629919fde4f8d1", func := "punnet/punnetlaw06.TreeHalves", spec := "treeHalves", unfollowed := true, recurses := true, apart := false, narrowed := true }
def TreeHalvesUptoSaid : Prop := treeHalvesUptoRow.holds Try.pinned (OpenSpec.upto treeHalvesSpec)

/-- 'punnetlaw06.TreeAdds', WHERE WHAT IT READS IS OF BULK AT MOST 1048576: true; the input reads as it did. -/
def treeAddsUptoRow : OpenClaim := { program := "ytfbjnpbmicbbnaa", sum := "61e7b510f6b3161048546fc46134258a18dbbe274a0e8c74b2629919fde4f8d1", func := "punnet/punnetlaw06.TreeAdds", spec := "treeAdds", unfollowed := true, recurses := true, apart := false, narrowed := true }
def TreeAddsUptoSaid : Prop := treeAddsUptoRow.holds Try.pinned (OpenSpec.upto treeAddsSpec)

/-- 'punnetlaw06.TreeOwn', WHERE WHAT IT READS IS OF BULK AT MOST 1048576: true; the input reads as it did. -/
def treeOwnUptoRow : OpenClaim := { program := "ytfbjnpbmicbbnaa", sum := "61e7b510f6b3161048546fc46134258a18dbbe274a0e8c74b2629919fde4f8d1", func := "punnet/punnetlaw06.TreeOwn", spec := "treeOwn", unfollowed := true, recurses := true, apart := false, narrowed := true }
def TreeOwnUptoSaid : Prop := treeOwnUptoRow.holds Try.pinned (OpenSpec.upto treeOwnSpec)

end Rows
end Go.Proofs.Ytfbjnpbmicbbnaa
