/-
  DERIVED. GIVEN WITH THE SEED: THE CARDS: each row of YthjpflhoenljdaaDoorRows.lean that lists a variable, with what it lists TIED to the program's text (the seventh form; the later family's looks); each row that meets fmt, with fmt's text TOLD by the authors' own Lean function (tested against real Go, not proved from fmt's source: count such statements apart). THE CARD IS WHAT COUNTS. Prove the row's statement (the work); the ties are given (YthjpflhoenljdaaDoorTie.lean); close each card by the builder's one call (the guide's Derived/Test/ToyasCard.lean, 'card_holds'). Laid BY PROGRAM, IN A SANDBOX (cutbox-door.mjs). By AI agents, Wed Nov 11 2026. No macro, syntax, notation, axiom, sorry.
-/
import Derived.Test.YthjpflhoenljdaaDoorRows
import GoSem.ClaimSeven
namespace Go.Proofs.YthjpflhoenljdaaDoor
namespace Rows

/-- THE TIED CARD OF 'punnetlaw01.BitsFinds'. -/
def bitsFindsCard : Claim7 := { stood := { row := bitsFindsRow, standIns := [], harness := (true, "a4618d9013f1bf1c206a69580c0d66693d07b5bb491814546a1ac5a4f2cabff8"), looks := false }, kinds := [], alts := [], laidByText := true, laidKinds := [.data], laidTests := true, laidLooks := .later }
def BitsFindsCardSaid : Prop := Claim7.holds Tryd.pinned (.plain (OpenSpec.ofChange bitsFindsSpec)) bitsFindsCard

/-- THE TIED CARD OF 'punnetlaw01.BitsParts'. -/
def bitsPartsCard : Claim7 := { stood := { row := bitsPartsRow, standIns := [], harness := (true, "a4618d9013f1bf1c206a69580c0d66693d07b5bb491814546a1ac5a4f2cabff8"), looks := false }, kinds := [], alts := [], laidByText := true, laidKinds := [.data], laidTests := true, laidLooks := .later }
def BitsPartsCardSaid : Prop := Claim7.holds Tryd.pinned (.plain (OpenSpec.ofChange bitsPartsSpec)) bitsPartsCard

/-- THE TIED CARD OF 'punnetlaw01.BitsNew'. -/
def bitsNewCard : Claim7 := { stood := { row := bitsNewRow, standIns := [], harness := (true, "a4618d9013f1bf1c206a69580c0d66693d07b5bb491814546a1ac5a4f2cabff8"), looks := false }, kinds := [], alts := [], laidByText := true, laidKinds := [.data], laidTests := true, laidLooks := .later }
def BitsNewCardSaid : Prop := Claim7.holds Tryd.pinned (.plain (OpenSpec.ofChange bitsNewSpec)) bitsNewCard

/-- THE TIED CARD OF 'punnetlaw01.BitsPlays'. -/
def bitsPlaysCard : Claim7 := { stood := { row := bitsPlaysRow, standIns := [], harness := (true, "a4618d9013f1bf1c206a69580c0d66693d07b5bb491814546a1ac5a4f2cabff8"), looks := false }, kinds := [], alts := [], laidByText := true, laidKinds := [.data], laidTests := true, laidLooks := .later }
def BitsPlaysCardSaid : Prop := Claim7.holds Tryd.pinned (.plain (OpenSpec.ofChange bitsPlaysSpec)) bitsPlaysCard

/-- THE TIED CARD OF 'punnetlaw01.BitsNth'. -/
def bitsNthCard : Claim7 := { stood := { row := bitsNthRow, standIns := [], harness := (true, "a4618d9013f1bf1c206a69580c0d66693d07b5bb491814546a1ac5a4f2cabff8"), looks := false }, kinds := [], alts := [], laidByText := true, laidKinds := [.data], laidTests := true, laidLooks := .later }
def BitsNthCardSaid : Prop := Claim7.holds Tryd.pinned (.plain (OpenSpec.ofChange bitsNthSpec)) bitsNthCard

/-- THE TIED CARD OF 'punnetlaw01.BitsOwn'. -/
def bitsOwnCard : Claim7 := { stood := { row := bitsOwnRow, standIns := [], harness := (true, "a4618d9013f1bf1c206a69580c0d66693d07b5bb491814546a1ac5a4f2cabff8"), looks := false }, kinds := [], alts := [], laidByText := true, laidKinds := [.data], laidTests := true, laidLooks := .later }
def BitsOwnCardSaid : Prop := Claim7.holds Tryd.pinned (.plain (OpenSpec.ofChange bitsOwnSpec)) bitsOwnCard

/-- THE SECOND FORM's CARD OF 'punnetlaw01.BitsFinds'. -/
def bitsFindsUptoCard : Claim7 := { stood := { row := bitsFindsUptoRow, standIns := [], harness := (true, "a4618d9013f1bf1c206a69580c0d66693d07b5bb491814546a1ac5a4f2cabff8"), looks := false }, kinds := [], alts := [], laidByText := true, laidKinds := [.data], laidTests := true, laidLooks := .later }
def BitsFindsUptoCardSaid : Prop := Claim7.holds Tryd.pinned (.plain (OpenSpec.upto bitsFindsSpec)) bitsFindsUptoCard

/-- THE SECOND FORM's CARD OF 'punnetlaw01.BitsParts'. -/
def bitsPartsUptoCard : Claim7 := { stood := { row := bitsPartsUptoRow, standIns := [], harness := (true, "a4618d9013f1bf1c206a69580c0d66693d07b5bb491814546a1ac5a4f2cabff8"), looks := false }, kinds := [], alts := [], laidByText := true, laidKinds := [.data], laidTests := true, laidLooks := .later }
def BitsPartsUptoCardSaid : Prop := Claim7.holds Tryd.pinned (.plain (OpenSpec.upto bitsPartsSpec)) bitsPartsUptoCard

/-- THE SECOND FORM's CARD OF 'punnetlaw01.BitsNew'. -/
def bitsNewUptoCard : Claim7 := { stood := { row := bitsNewUptoRow, standIns := [], harness := (true, "a4618d9013f1bf1c206a69580c0d66693d07b5bb491814546a1ac5a4f2cabff8"), looks := false }, kinds := [], alts := [], laidByText := true, laidKinds := [.data], laidTests := true, laidLooks := .later }
def BitsNewUptoCardSaid : Prop := Claim7.holds Tryd.pinned (.plain (OpenSpec.upto bitsNewSpec)) bitsNewUptoCard

/-- THE SECOND FORM's CARD OF 'punnetlaw01.BitsPlays'. -/
def bitsPlaysUptoCard : Claim7 := { stood := { row := bitsPlaysUptoRow, standIns := [], harness := (true, "a4618d9013f1bf1c206a69580c0d66693d07b5bb491814546a1ac5a4f2cabff8"), looks := false }, kinds := [], alts := [], laidByText := true, laidKinds := [.data], laidTests := true, laidLooks := .later }
def BitsPlaysUptoCardSaid : Prop := Claim7.holds Tryd.pinned (.plain (OpenSpec.upto bitsPlaysSpec)) bitsPlaysUptoCard

/-- THE SECOND FORM's CARD OF 'punnetlaw01.BitsNth'. -/
def bitsNthUptoCard : Claim7 := { stood := { row := bitsNthUptoRow, standIns := [], harness := (true, "a4618d9013f1bf1c206a69580c0d66693d07b5bb491814546a1ac5a4f2cabff8"), looks := false }, kinds := [], alts := [], laidByText := true, laidKinds := [.data], laidTests := true, laidLooks := .later }
def BitsNthUptoCardSaid : Prop := Claim7.holds Tryd.pinned (.plain (OpenSpec.upto bitsNthSpec)) bitsNthUptoCard

/-- THE SECOND FORM's CARD OF 'punnetlaw01.BitsOwn'. -/
def bitsOwnUptoCard : Claim7 := { stood := { row := bitsOwnUptoRow, standIns := [], harness := (true, "a4618d9013f1bf1c206a69580c0d66693d07b5bb491814546a1ac5a4f2cabff8"), looks := false }, kinds := [], alts := [], laidByText := true, laidKinds := [.data], laidTests := true, laidLooks := .later }
def BitsOwnUptoCardSaid : Prop := Claim7.holds Tryd.pinned (.plain (OpenSpec.upto bitsOwnSpec)) bitsOwnUptoCard
end Rows
end Go.Proofs.YthjpflhoenljdaaDoor
