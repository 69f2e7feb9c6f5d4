/- LoadTexts: for every input it answers true, and the input reads as it did: the row, and its card. -/
import Derived.Test.YtmlipbpbbjkigaaGreatDoorTZj
set_option linter.unusedVariables false
set_option linter.unusedSimpArgs false
namespace Go.Proofs.YtmlipbpbbjkigaaGreatDoor
open Go Go.Ev Go.Proofs Go.RowKit Go.ChangeShapes Go.WideShapes Go.ChangeAt
set_option maxRecDepth 100000

theorem own : ownKnob Tryz.prog.godebug = none := by kernel_rfl
theorem params3 : Tryz.f3.params = #[27, 27] := by kernel_rfl
theorem results3 : Tryz.f3.resultTypes = #[4] := by kernel_rfl
theorem u4 : Tryz.prog.underlying 4 = some .bool := by kernel_rfl
def zeroPart : Value := .agg #[.string ⟨#[]⟩, .int .i64 0, .string ⟨#[]⟩, .slice none 0 0, .slice none 0 0, .slice none 0 0, .int .i64 0]
theorem door_met (os : Os) (args : Array Value) : laidMetH Tryz.prog laidR ((World.laidAll Tryz.prog os laidR).forCall (fun _ _ => 0) ⟨#[], args, []⟩).memory := by
  rw [MakeChecks.laidMetH_plain _ _ _ (by kernel_rfl)]
  exact laidMet_laidAll _ (by kernel_rfl) (by kernel_rfl)

theorem params_lt : ∀ t ∈ Tryz.f3.params.toList, t < Tryz.prog.types.size := by
  rw [params3]
  intro t ht
  have h : t = 27 := by simpa using ht
  subst h
  exact of_decide_eq_true (by kernel_rfl)

theorem lifted (os : Os) (started : os.Started) (H : Type) (enc : TypeId × Value → H) :
    ReturnsInHanded {} Tryz.checked os 3 .any (fun w args => (Rows.loadTextsSpec.pre enc Tryz.prog Tryz.f3 [] false w args ∧ laidMetH Tryz.prog laidR w) ∧ sizedMet enc Tryz.prog Tryz.f3 (OpenSpec.ofChange Rows.loadTextsSpec) false w args)
      (Rows.loadTextsSpec.post enc Tryz.prog Tryz.f3 false true false false) := by
  refine returnsInHanded_of_change_and (C := Tryz.checked) (X := fun w _ => laidMetH Tryz.prog laidR w) (fun _ _ _ hh h => h.of_heap hh) own started (by kernel_rfl) (tabL_ok.fn 3 Tryz.f3 (by kernel_rfl)).1
    (ChangeSpec.witness_shaped (enc := enc) (C := Tryz.checked) (os := os) (X := fun w _ => laidMetH Tryz.prog laidR w) false (World.laidAll Tryz.prog os laidR) #[zeroPart, zeroPart] 8 (World.laidAll_os _ _ _) (World.shaped_of_ZipB (by kernel_rfl) (by kernel_rfl)) (by kernel_rfl) (by kernel_rfl) (by kernel_rfl) (door_met os _)) ?_
  intro W base args ds gs before hval hW _ hsz hL _
  have hW' := hW
  obtain ⟨p, q, hA, hV, rfl, hfz, hnd⟩ := hW
  have hV' : DataW.TrodVars enc Tryz.prog W (fun _ => true) [] gs q := hV
  rw [params3] at hA
  obtain ⟨v0, v1, d0, d1, p0, p1, rfl, rfl, rfl, ⟨n0, h0⟩, ⟨n1, h1⟩⟩ := trodAll_two hA
  obtain ⟨rfl, rfl⟩ := trodVars_none hV'
  obtain ⟨p4, p5, p11, p15, p16, t⟩ := tables_in hL
  have hsz' : (DataW.weightsEach Tryz.prog [27, 27] [d0, d1]).all (· ≤ reachBytes) = true := by
    rw [params3] at hsz
    exact hsz
  rw [List.all_eq_true] at hsz'
  have w0 : Sized Tryz.prog 27 d0 := fun n hn => by
    simpa using hsz' n (DataW.weights_mem_each (j := 0) (t := 27) (d := d0) rfl rfl n hn)
  have w1 : Sized Tryz.prog 27 d1 := fun n hn => by
    simpa using hsz' n (DataW.weights_mem_each (j := 1) (t := 27) (d := d1) rfl rfl n hn)
  obtain ⟨P, of, oe, od, pf, pe, pd, r⟩ := read_part h0 w0 t.zero
  obtain ⟨Q, ofq, oeq, odq, pfq, peq, pdq, r'⟩ := read_part h1 w1 t.zero
  refine (law_calls t r r').mono fun e W' ⟨he, hb⟩ => ?_
  subst he
  exact ⟨_, rfl, law_post (t := 4) hW' rfl rfl results3 u4 (by kernel_rfl) (by kernel_rfl) (slices_full_of _ (by kernel_rfl)) params_lt hb⟩

end Go.Proofs.YtmlipbpbbjkigaaGreatDoor
