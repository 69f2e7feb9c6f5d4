/-
  alive, run by the kernel.
-/
import Derived.Test.YtmlipbpbbjkigaaGreatDoorTN
set_option linter.unusedVariables false
set_option linter.unusedSimpArgs false
namespace Go.Proofs.YtmlipbpbbjkigaaGreatDoor
open Go Go.Ev Go.Proofs
set_option maxRecDepth 100000
def saysTrue : Option (AV × AHeap) → Bool
  | some (.bool true, _) => true
  | _ => false
theorem alive_runs : saysTrue (call tabS 5000 5 [] heap0) = true := by kernel_rfl
end Go.Proofs.YtmlipbpbbjkigaaGreatDoor
