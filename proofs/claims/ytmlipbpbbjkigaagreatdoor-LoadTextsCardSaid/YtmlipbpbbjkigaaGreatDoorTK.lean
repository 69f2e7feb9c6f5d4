/- The table with the first functions of our own. -/
import Derived.Test.YtmlipbpbbjkigaaGreatDoorTJ
import Derived.Test.YtmlipbpbbjkigaaGreatDoorEvc
set_option linter.unusedVariables false
set_option linter.unusedSimpArgs false
namespace Go.Proofs.YtmlipbpbbjkigaaGreatDoor
open Go Go.Ev Go.Proofs
set_option maxRecDepth 100000
noncomputable def purK : PT Pf := PT.set (PT.set (PT.set .nil 5 (some aliveP)) 13 (some numP)) 15 (some numRP)
noncomputable def tabK : Tab := { glob := tab.glob, ty := tab.ty, fn := tab.fn, nat := .nil, ext := tab.ext, pur := purK }
theorem tabK_ok : FullOk Tryz.prog tabK := {
  tab := ⟨tab_ok.tab.ty⟩
  ext := tab_ok.ext
  fn := tab_ok.fn
  nat := fun f n e => (by have e' : (PT.nil : PT Nf).get f = some n := e; rw [PT.get_nil] at e'; cases e')
  pur := fun f p e => (by
    have e' : purK.get f = some p := e
    unfold purK at e'
    rw [PT.get_set _ _ _ _ (by decide)] at e'
    by_cases h1 : f = 15
    · subst h1; rw [if_pos rfl] at e'; cases e'; exact numRP_ok rfl
    rw [if_neg h1, PT.get_set _ _ _ _ (by decide)] at e'
    by_cases h2 : f = 13
    · subst h2; rw [if_pos rfl] at e'; cases e'; exact numP_ok rfl
    rw [if_neg h2, PT.get_set _ _ _ _ (by decide)] at e'
    by_cases h3 : f = 5
    · subst h3; rw [if_pos rfl] at e'; cases e'; exact aliveP_ok rfl
    rw [if_neg h3, PT.get_nil] at e'; cases e')
  mixed := tab_ok.mixed }
end Go.Proofs.YtmlipbpbbjkigaaGreatDoor
