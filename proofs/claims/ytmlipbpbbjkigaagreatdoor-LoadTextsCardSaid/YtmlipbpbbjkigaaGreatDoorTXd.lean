/- What the law's pieces use. -/
import Derived.Test.YtmlipbpbbjkigaaGreatDoorTZd
import Derived.Test.YtmlipbpbbjkigaaGreatDoorEvd
set_option linter.unusedVariables false
set_option linter.unusedSimpArgs false
namespace Go.Proofs.YtmlipbpbbjkigaaGreatDoor
open Go Go.Ev Go.Proofs
set_option maxRecDepth 100000

theorem inC_one (x : InD) : allOne (inC x) = true := rfl
theorem rowOf_take {α : Type} {f : α → List AV} {k : Nat} (hf : ∀ a, (f a).length = k) : ∀ (l : List α) (n : Nat), (rowOf f l).take ((l.take n).length * k) = rowOf f (l.take n)
  | [], n => by simp [rowOf]
  | a :: l, 0 => by simp [rowOf]
  | a :: l, n + 1 => by
    have ih := rowOf_take hf l n
    simp only [List.take_succ_cons, List.length_cons, Nat.succ_mul, rowOf]
    rw [Nat.add_comm, ← hf a, List.take_append, List.take_of_length_le (by omega)]
    congr 1
    rw [Nat.add_sub_cancel_left, hf a]; exact ih
theorem takeRow (l : List InD) (n : Nat) : takeAt (rowOf inC l) 0 ((l.take n).length * 33) = rowOf inC (l.take n) := by
  unfold takeAt; rw [List.drop_zero]; exact rowOf_take inC_len l n
theorem vc_beq {kc : Bool} (b : Bool) : ∀ cf hp, doX tabL cf (.bin kc .eql 4 (.bool b) (.bool b)) hp = some (.bool true, none) := fun cf hp => by
  have e : eqE_ tabL 12 4 (.bool b) (.bool b) = some true := by
    have h : eqE_ tabL 12 4 (.bool b) (.bool b) = some (b == b) := by kernel_rfl
    rw [h]; simp
  show vo (ob (eqE_ tabL 12 4 (.bool b) (.bool b)) fun r => ck (kc || !bothNil (.bool b) (.bool b)) <| some (.bool r)) = _
  rw [e]
  have : (kc || !bothNil (.bool b) (.bool b)) = true := by cases kc <;> rfl
  rw [ob_of, this]; rfl
end Go.Proofs.YtmlipbpbbjkigaaGreatDoor
