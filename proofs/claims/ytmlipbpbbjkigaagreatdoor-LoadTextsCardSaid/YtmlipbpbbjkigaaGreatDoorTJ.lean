/- Joined texts: what the two Joins answer. -/
import Derived.Test.YtmlipbpbbjkigaaGreatDoorTQ
import Derived.Test.YtmlipbpbbjkigaaGreatDoorEvc
set_option linter.unusedVariables false
set_option linter.unusedSimpArgs false
namespace Go.Proofs.YtmlipbpbbjkigaaGreatDoor
open Go Go.Ev Go.Proofs
set_option maxRecDepth 100000

noncomputable def strsOf : List AV → Option (List (List UInt8))
  | [] => some []
  | .str s :: r => ob (strsOf r) fun ss => some (s :: ss)
  | _ => none
def joinParts : List (List UInt8) → List UInt8
  | [] => []
  | s :: ss => numL (Int.ofNat s.length) ++ (s ++ joinParts ss)
def joinL (ss : List (List UInt8)) : List UInt8 := numL (Int.ofNat ss.length) ++ joinParts ss
noncomputable def joinP (most : Nat) : Pf := fun args h => match args with
  | [.nilslice] => some (.str (joinL []))
  | [.slice l 0 n _] => Ev.rowAt h l fun cs _ _ _ => ob (strsOf cs) fun ss => ck (Nat.beq ss.length n) <| ck (Nat.ble (joinL ss).length most) <| some (.str (joinL ss))
  | _ => none
end Go.Proofs.YtmlipbpbbjkigaaGreatDoor
