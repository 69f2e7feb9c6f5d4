/- LoadTexts: for every input it answers true, and the input reads as it did: the row, and its card. -/
import Derived.Test.YtmlipbpbbjkigaaGreatDoorTZl
import Derived.Test.YtmlipbpbbjkigaaGreatDoorTie
import Derived.Test.YtmlipbpbbjkigaaGreatDoorCards
import Derived.SevenTiedAt
set_option linter.unusedVariables false
set_option linter.unusedSimpArgs false
namespace Go.Proofs.YtmlipbpbbjkigaaGreatDoor
open Go Go.Ev Go.Proofs
set_option maxRecDepth 100000

theorem loadTexts_holds : Rows.LoadTextsSaid :=
  OpenClaim.holds_of_wide 3 Tryz.f3 rfl rfl rfl rfl rfl rfl rfl ⟨rfl, rfl, rfl, rfl, rfl⟩ rfl rfl rfl rfl rfl (by kernel_rfl) (tabL_ok.fn 3 Tryz.f3 (by kernel_rfl)).1 closed
    (of_decide_eq_true (by kernel_rfl)) (by unfold Func.isWrapper; first | (rw [if_pos (by decide +kernel)]; kernel_rfl) | (rw [if_neg (by decide +kernel)]; exact ⟨rfl, rfl⟩))
    (fun os started H enc _ => lifted os started H enc)
#print axioms loadTexts_holds
end Go.Proofs.YtmlipbpbbjkigaaGreatDoor
