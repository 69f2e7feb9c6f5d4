/- Comparing entries of parts, over the table with all natives. Written by gen_xc.py. -/
import Derived.Test.YtmlipbpbbjkigaaGreatDoorTZc
set_option linter.unusedVariables false
set_option linter.unusedSimpArgs false
namespace Go.Proofs.YtmlipbpbbjkigaaGreatDoor
open Go Go.Ev Go.Proofs
set_option maxRecDepth 100000

theorem eqDepY_form (x y : DepD) : eqE_ tabY 12 37 (.agg (depC x)) (.agg (depC y)) = ob (some (strEq x.path y.path)) fun b => match b with
    | true => ob (ob (some (eqE x.kind y.kind)) fun b => match b with
      | true => ob (some (strEq x.dir y.dir)) fun b => match b with
        | true => some true
        | false => some false
      | false => some false) fun b => match b with
      | true => some true
      | false => some false
    | false => some false := by kernel_rfl
theorem vc_neqDepY {x y : DepD} {b : Bool} (h : decide (¬ (x.path = y.path ∧ x.kind = y.kind ∧ x.dir = y.dir)) = b) : ∀ cf hp, doX tabY cf (.bin false .neq 37 (.agg (depC x)) (.agg (depC y))) hp = some (.bool b, none) := fun cf hp => by
  show vo (ob (eqE_ tabY 12 37 (.agg (depC x)) (.agg (depC y))) fun b => some (.bool (!b))) = _
  rw [eqDepY_form, ← h, strEq_eq, strEq_eq, eqE_eq]
  obtain ⟨x1, x2, x3⟩ := x
  obtain ⟨y1, y2, y3⟩ := y
  dsimp only
  cases e1 : (x1 == y1) <;> cases e2 : (x2 == y2) <;> cases e3 : (x3 == y3) <;> (simp only [beq_iff_eq, beq_eq_false_iff_ne, ne_eq] at e1 e2 e3; simp [e1, e2, e3, ob_of, vo])
theorem eqUnitY_form (d d' : List UInt8) (k k' : Int) : eqE_ tabY 12 23 (.agg [.str d, .int .i64 k]) (.agg [.str d', .int .i64 k']) = ob (some (strEq d d')) fun b => match b with
    | true => ob (some (eqE k k')) fun b => match b with
      | true => some true
      | false => some false
    | false => some false := by kernel_rfl
theorem vc_neqUnitY {d d' : List UInt8} {k k' : Int} {b : Bool} (h : decide (¬ (d = d' ∧ k = k')) = b) : ∀ cf hp, doX tabY cf (.bin false .neq 23 (.agg [.str d, .int .i64 k]) (.agg [.str d', .int .i64 k'])) hp = some (.bool b, none) := fun cf hp => by
  show vo (ob (eqE_ tabY 12 23 (.agg [.str d, .int .i64 k]) (.agg [.str d', .int .i64 k'])) fun b => some (.bool (!b))) = _
  rw [eqUnitY_form, ← h, strEq_eq, eqE_eq]
  cases e1 : (d == d') <;> cases e2 : (k == k') <;> (simp only [beq_iff_eq, beq_eq_false_iff_ne, ne_eq] at e1 e2; simp [e1, e2, ob_of, vo])
theorem rowAtV_of {h : AHeap} {l : Nat} {o : Option Cap} {cs : List AV} {opn : Bool} {fz : Nat} (e : h.get l = some (rwV o cs opn fz)) : rowAtV h l o cs opn fz := by
  refine ⟨_, false, e, fun ho => ?_⟩
  cases o with
  | none => cases ho
  | some c => rfl
end Go.Proofs.YtmlipbpbbjkigaaGreatDoor
