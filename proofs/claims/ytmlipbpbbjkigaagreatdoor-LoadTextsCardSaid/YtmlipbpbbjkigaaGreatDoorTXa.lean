/- The table with inputs. -/
import Derived.Test.YtmlipbpbbjkigaaGreatDoorTZ
set_option linter.unusedVariables false
set_option linter.unusedSimpArgs false
namespace Go.Proofs.YtmlipbpbbjkigaaGreatDoor
open Go Go.Ev Go.Proofs
set_option maxRecDepth 100000
noncomputable def purX : PT Pf := PT.set purV 17 (some (pOf inputsR))
noncomputable def tabX : Tab := { glob := tab.glob, ty := tab.ty, fn := tab.fn, nat := .nil, ext := tab.ext, pur := purX }
theorem tabX_ok : FullOk Tryz.prog tabX := {
  tab := ⟨tab_ok.tab.ty⟩
  ext := tab_ok.ext
  fn := tab_ok.fn
  nat := fun f n e => (by have e' : (PT.nil : PT Nf).get f = some n := e; rw [PT.get_nil] at e'; cases e')
  pur := fun f p e => (by
    have e' : purX.get f = some p := e
    unfold purX at e'
    rw [PT.get_set _ _ _ _ (by decide)] at e'
    by_cases h1 : f = 17
    · subst h1; rw [if_pos rfl] at e'; cases e'; exact inputsP_ok rfl
    rw [if_neg h1] at e'
    exact (tabV_ok.pur f p e').again rfl)
  mixed := tab_ok.mixed }
end Go.Proofs.YtmlipbpbbjkigaaGreatDoor
