/- LoadTexts' card: the row, with the listed variables tied to the program's text. -/
import Derived.Test.YtmlipbpbbjkigaaGreatDoorTZm
set_option linter.unusedVariables false
set_option linter.unusedSimpArgs false
namespace Go.Proofs.YtmlipbpbbjkigaaGreatDoor
open Go Go.Ev Go.Proofs
set_option maxRecDepth 100000
theorem wfText : Rows.loadTextsRow.wfByText (OpenSpec.ofChange Rows.loadTextsSpec) = true := by kernel_rfl
theorem mainIs : Tryz.prog.mainIs = some (true, "14e2e3a5c67ba79fe78ebbed8c587696ae6755ba638a7edd0cf21851af2bfa7c".toList) := by kernel_rfl
theorem looks : true = Tryz.prog.looks [] := by kernel_rfl
theorem goes : false = Rows.loadTextsRow.goesBy Tryz.prog := by kernel_rfl
theorem wants : Tryz.prog.wantsStandIn 27 = false := by kernel_rfl
theorem named3 : Tryz.prog.funcNamed "seiche/seichelaw21.LoadTexts" = some 3 := by kernel_rfl
theorem loadTexts_card : Rows.LoadTextsCardSaid :=
  Claim7.holds_tied_plain_at .later [] [.data, .data, .data, .data, .data, .sentinel, .sentinel, .data, .widerDeep, .widerDeep, .widerDeep, .widerDeep, .widerDeep, .pinned] true (true, "14e2e3a5c67ba79fe78ebbed8c587696ae6755ba638a7edd0cf21851af2bfa7c") true
    loadTexts_holds (fun _ h => by cases h) wfText (fun _ h => by cases h) loadTexts_row_tie rfl ⟨rfl, rfl⟩ mainIs rfl
    (fun f fn hf hfn => by
      obtain rfl : f = 3 := Option.some.inj (named3.symm.trans hf) |>.symm
      obtain rfl : fn = Tryz.f3 := (Option.some.inj ((tabL_ok.fn 3 Tryz.f3 (by kernel_rfl)).1.symm.trans hfn)).symm
      exact ⟨looks, fun j t ht => by
        rw [params3] at ht
        have hm : t ∈ [27, 27] := by simpa using Array.mem_of_getElem? ht
        simp only [List.mem_cons, List.not_mem_nil, or_false, or_self] at hm
        rw [hm]; exact wants⟩)
    goes
#print axioms loadTexts_card
end Go.Proofs.YtmlipbpbbjkigaaGreatDoor
