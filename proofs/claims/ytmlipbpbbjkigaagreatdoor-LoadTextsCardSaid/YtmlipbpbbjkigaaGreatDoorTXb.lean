/- Comparing entries of parts. -/
import Derived.Test.YtmlipbpbbjkigaaGreatDoorTZb
set_option linter.unusedVariables false
set_option linter.unusedSimpArgs false
namespace Go.Proofs.YtmlipbpbbjkigaaGreatDoor
open Go Go.Ev Go.Proofs
set_option maxRecDepth 100000

theorem eqIn_form (x y : InD) : eqE_ tabX 12 33 (.agg (inC x)) (.agg (inC y)) = ob (some (strEq x.path y.path)) fun b => match b with
    | true => ob (eqElems tabX (eqE_ tabX 10) 6 1 (bytesE (idL x.id)) (bytesE (idL y.id)) 32 0) fun b => match b with
      | true => some true
      | false => some false
    | false => some false := by kernel_rfl
theorem eqIn (x y : InD) : eqE_ tabX 12 33 (.agg (inC x)) (.agg (inC y)) = some (decide (wIn x = wIn y)) := by
  rw [eqIn_form, eqElems_bytes (d := 9) (a := idL x.id) (b := idL y.id) (T := tabX) (te := ty6) (by kernel_rfl) rfl rfl 32 0 rfl rfl rfl, strEq_eq]
  unfold wIn
  cases e1 : (x.path == y.path) <;> simp only [beq_iff_eq, beq_eq_false_iff_ne, ne_eq] at e1 <;> by_cases h2 : idL x.id = idL y.id <;> simp [e1, h2, ob_of]
theorem vc_neqIn {x y : InD} {b : Bool} (h : decide (wIn x ≠ wIn y) = b) : ∀ cf hp, doX tabX cf (.bin false .neq 33 (.agg (inC x)) (.agg (inC y))) hp = some (.bool b, none) := fun cf hp => by
  show vo (ob (eqE_ tabX 12 33 (.agg (inC x)) (.agg (inC y))) fun b => some (.bool (!b))) = _
  rw [eqIn, ← h]
  by_cases e : wIn x = wIn y <;> simp [e, ob, vo]
theorem eqDep_form (x y : DepD) : eqE_ tabX 12 37 (.agg (depC x)) (.agg (depC y)) = ob (some (strEq x.path y.path)) fun b => match b with
    | true => ob (ob (some (eqE x.kind y.kind)) fun b => match b with
      | true => ob (some (strEq x.dir y.dir)) fun b => match b with
        | true => some true
        | false => some false
      | false => some false) fun b => match b with
      | true => some true
      | false => some false
    | false => some false := by kernel_rfl
theorem vc_neqDep {x y : DepD} {b : Bool} (h : decide (¬ (x.path = y.path ∧ x.kind = y.kind ∧ x.dir = y.dir)) = b) : ∀ cf hp, doX tabX cf (.bin false .neq 37 (.agg (depC x)) (.agg (depC y))) hp = some (.bool b, none) := fun cf hp => by
  show vo (ob (eqE_ tabX 12 37 (.agg (depC x)) (.agg (depC y))) fun b => some (.bool (!b))) = _
  rw [eqDep_form, ← h, strEq_eq, strEq_eq, eqE_eq]
  obtain ⟨x1, x2, x3⟩ := x
  obtain ⟨y1, y2, y3⟩ := y
  dsimp only
  cases e1 : (x1 == y1) <;> cases e2 : (x2 == y2) <;> cases e3 : (x3 == y3) <;> (simp only [beq_iff_eq, beq_eq_false_iff_ne, ne_eq] at e1 e2 e3; simp [e1, e2, e3, ob_of, vo])
theorem eqUnit_form (d d' : List UInt8) (k k' : Int) : eqE_ tabX 12 23 (.agg [.str d, .int .i64 k]) (.agg [.str d', .int .i64 k']) = ob (some (strEq d d')) fun b => match b with
    | true => ob (some (eqE k k')) fun b => match b with
      | true => some true
      | false => some false
    | false => some false := by kernel_rfl
theorem vc_neqUnit {d d' : List UInt8} {k k' : Int} {b : Bool} (h : decide (¬ (d = d' ∧ k = k')) = b) : ∀ cf hp, doX tabX cf (.bin false .neq 23 (.agg [.str d, .int .i64 k]) (.agg [.str d', .int .i64 k'])) hp = some (.bool b, none) := fun cf hp => by
  show vo (ob (eqE_ tabX 12 23 (.agg [.str d, .int .i64 k]) (.agg [.str d', .int .i64 k'])) fun b => some (.bool (!b))) = _
  rw [eqUnit_form, ← h, strEq_eq, eqE_eq]
  cases e1 : (d == d') <;> cases e2 : (k == k') <;> (simp only [beq_iff_eq, beq_eq_false_iff_ne, ne_eq] at e1 e2; simp [e1, e2, ob_of, vo])
theorem vc_neqI {T : Tab} {t : Nat} {k k' : Int} {b kc : Bool} (h : decide (k ≠ k') = b) : ∀ cf hp, doX T cf (.bin kc .neq t (.int .i64 k) (.int .i64 k')) hp = some (.bool b, none) := fun cf hp => by
  show vo (some (.bool (!eqE k k'))) = _
  rw [eqE_eq, ← h]
  cases e1 : (k == k') <;> (simp only [beq_iff_eq, beq_eq_false_iff_ne, ne_eq] at e1; simp [e1, vo, ob_of])
end Go.Proofs.YtmlipbpbbjkigaaGreatDoor
