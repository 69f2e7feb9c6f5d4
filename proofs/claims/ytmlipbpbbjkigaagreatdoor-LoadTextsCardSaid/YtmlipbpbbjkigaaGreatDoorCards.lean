/-
  DERIVED. GIVEN WITH THE SEED: THE CARDS: each row of YtmlipbpbbjkigaaGreatDoorRows.lean that lists a variable, with what it lists TIED to the program's text (the seventh form; the later family's looks); each row that meets fmt, with fmt's text TOLD by the authors' own Lean function (tested against real Go, not proved from fmt's source: count such statements apart). THE CARD IS WHAT COUNTS. Prove the row's statement (the work); the ties are given (YtmlipbpbbjkigaaGreatDoorTie.lean); close each card by the builder's one call (the guide's Derived/Test/ToyasCard.lean, 'card_holds'). Laid BY PROGRAM, IN A SANDBOX (cutbox-door.mjs). By AI agents, Wed Nov 11 2026. No macro, syntax, notation, axiom, sorry.
-/
import Derived.Test.YtmlipbpbbjkigaaGreatDoorRows
import GoSem.ClaimSeven
namespace Go.Proofs.YtmlipbpbbjkigaaGreatDoor
namespace Rows

/-- THE TIED CARD OF 'seichelaw21.LoadTexts'. -/
def loadTextsCard : Claim7 := { stood := { row := loadTextsRow, standIns := [], harness := (true, "14e2e3a5c67ba79fe78ebbed8c587696ae6755ba638a7edd0cf21851af2bfa7c"), looks := true }, kinds := [], alts := [], laidByText := true, laidKinds := [.data, .data, .data, .data, .data, .sentinel, .sentinel, .data, .widerDeep, .widerDeep, .widerDeep, .widerDeep, .widerDeep, .pinned], laidTests := true, laidLooks := .later }
def LoadTextsCardSaid : Prop := Claim7.holds Tryz.pinned (.plain (OpenSpec.ofChange loadTextsSpec)) loadTextsCard

/-- THE TIED CARD OF 'seichelaw21.LoadBack'. -/
def loadBackCard : Claim7 := { stood := { row := loadBackRow, standIns := [], harness := (true, "14e2e3a5c67ba79fe78ebbed8c587696ae6755ba638a7edd0cf21851af2bfa7c"), looks := true }, kinds := [], alts := [], laidByText := true, laidKinds := [.data, .data, .data, .data, .data, .sentinel, .sentinel, .data, .widerDeep, .widerDeep, .widerDeep, .widerDeep, .widerDeep, .pinned], laidTests := true, laidLooks := .later }
def LoadBackCardSaid : Prop := Claim7.holds Tryz.pinned (.plain (OpenSpec.ofChange loadBackSpec)) loadBackCard

/-- THE SECOND FORM's CARD OF 'seichelaw21.LoadTexts'. -/
def loadTextsUptoCard : Claim7 := { stood := { row := loadTextsUptoRow, standIns := [], harness := (true, "14e2e3a5c67ba79fe78ebbed8c587696ae6755ba638a7edd0cf21851af2bfa7c"), looks := true }, kinds := [], alts := [], laidByText := true, laidKinds := [.data, .data, .data, .data, .data, .sentinel, .sentinel, .data, .widerDeep, .widerDeep, .widerDeep, .widerDeep, .widerDeep, .pinned], laidTests := true, laidLooks := .later }
def LoadTextsUptoCardSaid : Prop := Claim7.holds Tryz.pinned (.plain (OpenSpec.upto loadTextsSpec)) loadTextsUptoCard

/-- THE SECOND FORM's CARD OF 'seichelaw21.LoadBack'. -/
def loadBackUptoCard : Claim7 := { stood := { row := loadBackUptoRow, standIns := [], harness := (true, "14e2e3a5c67ba79fe78ebbed8c587696ae6755ba638a7edd0cf21851af2bfa7c"), looks := true }, kinds := [], alts := [], laidByText := true, laidKinds := [.data, .data, .data, .data, .data, .sentinel, .sentinel, .data, .widerDeep, .widerDeep, .widerDeep, .widerDeep, .widerDeep, .pinned], laidTests := true, laidLooks := .later }
def LoadBackUptoCardSaid : Prop := Claim7.holds Tryz.pinned (.plain (OpenSpec.upto loadBackSpec)) loadBackUptoCard
end Rows
end Go.Proofs.YtmlipbpbbjkigaaGreatDoor
