/-
  DERIVED. GIVEN WITH THE SEED: THE CARDS: each row of YtaonkbfekadalaaGreatDoorRows.lean that lists a variable, with what it lists TIED to the program's text (the seventh form; the later family's looks); each row that meets fmt, with fmt's text TOLD by the authors' own Lean function (tested against real Go, not proved from fmt's source: count such statements apart). THE CARD IS WHAT COUNTS. Prove the row's statement (the work); the ties are given (YtaonkbfekadalaaGreatDoorTie.lean); close each card by the builder's one call (the guide's Derived/Test/ToyasCard.lean, 'card_holds'). Laid BY PROGRAM, IN A SANDBOX (cutbox-door.mjs). By AI agents, Wed Nov 11 2026. No macro, syntax, notation, axiom, sorry.
-/
import Derived.Test.YtaonkbfekadalaaGreatDoorRows
import GoSem.ClaimSeven
namespace Go.Proofs.YtaonkbfekadalaaGreatDoor
namespace Rows

/-- THE TIED CARD OF 'punnettop.TopScript'. -/
def topScriptCard : Claim7 := { stood := { row := topScriptRow, standIns := [], harness := (true, "a7e41fabf3b6438566a82ee8d04a8098cafb3325d1b0e908e51f1d819665e3dc"), looks := true }, kinds := [], alts := [], laidByText := true, laidKinds := [.data, .data, .data, .data, .sentinel, .sentinel, .pinned], laidTests := true, laidLooks := .later }
def TopScriptCardSaid : Prop := Claim7.holds Tryz.pinned (.plain (OpenSpec.ofChange topScriptSpec)) topScriptCard

/-- THE SECOND FORM's CARD OF 'punnettop.TopScript'. -/
def topScriptUptoCard : Claim7 := { stood := { row := topScriptUptoRow, standIns := [], harness := (true, "a7e41fabf3b6438566a82ee8d04a8098cafb3325d1b0e908e51f1d819665e3dc"), looks := true }, kinds := [], alts := [], laidByText := true, laidKinds := [.data, .data, .data, .data, .sentinel, .sentinel, .pinned], laidTests := true, laidLooks := .later }
def TopScriptUptoCardSaid : Prop := Claim7.holds Tryz.pinned (.plain (OpenSpec.upto topScriptSpec)) topScriptUptoCard
end Rows
end Go.Proofs.YtaonkbfekadalaaGreatDoor
