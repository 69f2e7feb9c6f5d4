/- The digests of 3 texts: a function of our own in the place of the program's. Written by gensha.py. -/
import Derived.Test.YtmlipbpbbjkigaaGreatDoorTS
set_option linter.unusedVariables false
set_option linter.unusedSimpArgs false
namespace Go.Proofs.YtmlipbpbbjkigaaGreatDoor
open Go Go.Ev Go.Proofs
set_option maxRecDepth 100000
noncomputable def shaCells : List AV := match row11 with | .row cs _ _ _ => cs | _ => []
def shaFind (s : List UInt8) : Option AV :=
  match strEq s shaIn0 with
  | true => some (.agg shaOut0)
  | false =>
    match strEq s shaIn1 with
    | true => some (.agg shaOut1)
    | false =>
      match strEq s shaIn2 with
      | true => some (.agg shaOut2)
      | false =>
        none
noncomputable def shaNat : Nf := fun args h => match args with
  | [.str s] => match h.get 11 with
    | some (.row cs opn fz wr) => ck (!opn) <| ck (!wr) <| ck (Nat.beq fz 0) <| ck (AV.eqbs cs shaCells) <| ob (shaFind s) fun v => some (v, h)
    | _ => none
  | _ => none
theorem hsha_all : PT.All (fun l o => (o = AObj.dead ∧ l < 15) ∨ (l = 11 ∧ o = row11)) (fun k => k) hsha.objs := ⟨.inl ⟨rfl, by decide⟩, ⟨.inl ⟨rfl, by decide⟩, ⟨.inl ⟨rfl, by decide⟩, ⟨.inl ⟨rfl, by decide⟩, trivial, trivial⟩, ⟨.inr ⟨rfl, rfl⟩, trivial, trivial⟩⟩, ⟨.inl ⟨rfl, by decide⟩, ⟨.inl ⟨rfl, by decide⟩, trivial, trivial⟩, ⟨.inl ⟨rfl, by decide⟩, trivial, trivial⟩⟩⟩, ⟨.inl ⟨rfl, by decide⟩, ⟨.inl ⟨rfl, by decide⟩, ⟨.inl ⟨rfl, by decide⟩, trivial, trivial⟩, ⟨.inl ⟨rfl, by decide⟩, trivial, trivial⟩⟩, ⟨.inl ⟨rfl, by decide⟩, ⟨.inl ⟨rfl, by decide⟩, trivial, trivial⟩, ⟨.inl ⟨rfl, by decide⟩, trivial, trivial⟩⟩⟩⟩
theorem isAgg_some {d : List AV} {r : Option (AV × AHeap)} (h : isAgg d r = true) : ∃ h1, r = some (.agg d, h1) := by
  unfold isAgg at h
  split at h
  · rename_i cs h1
    exact ⟨h1, by rw [AV.eqbs_eq _ _ h]⟩
  · cases h
theorem sha_finds {s : List UInt8} {v : AV} (e : shaFind s = some v) : allN noNames v = true ∧ ∃ h1, call tabR 3000 225 [.str s] hsha = some (v, h1) := by
  unfold shaFind at e
  cases h0 : strEq s shaIn0 with
  | true =>
    rw [h0] at e; cases e
    rw [strEq_eq] at h0
    rw [eq_of_beq h0]
    exact ⟨by kernel_rfl, isAgg_some sha_runs0⟩
  | false =>
    rw [h0] at e; dsimp only at e
    cases h1 : strEq s shaIn1 with
    | true =>
      rw [h1] at e; cases e
      rw [strEq_eq] at h1
      rw [eq_of_beq h1]
      exact ⟨by kernel_rfl, isAgg_some sha_runs1⟩
    | false =>
      rw [h1] at e; dsimp only at e
      cases h2 : strEq s shaIn2 with
      | true =>
        rw [h2] at e; cases e
        rw [strEq_eq] at h2
        rw [eq_of_beq h2]
        exact ⟨by kernel_rfl, isAgg_some sha_runs2⟩
      | false =>
        rw [h2] at e; dsimp only at e
        cases e
theorem shaNat_ok {T : Tab} (hg : T.glob = tabR.glob) : NatOk Tryz.prog T 225 shaNat := by
  refine ⟨Tryz.call225, fun args h v h' e B W φ w args' s hr kg => ?_⟩
  unfold shaNat at e
  split at e
  · rename_i x
    split at e
    · rename_i cs opn fz wr hrow
      obtain ⟨h1, e⟩ := ck_some e
      obtain ⟨h2, e⟩ := ck_some e
      obtain ⟨h3, e⟩ := ck_some e
      obtain ⟨h4, e⟩ := ck_some e
      obtain ⟨v1, hf, e⟩ := ob_some e
      cases e
      obtain ⟨hpl, h5, hcall⟩ := sha_finds hf
      have hcs : cs = shaCells := AV.eqbs_eq _ _ h4
      have ho : opn = false := by simpa using h1
      have hw : wr = false := by simpa using h2
      have hz : fz = 0 := Nat.eq_of_beq_eq_true h3
      subst hcs; subst ho; subst hw; subst hz
      have kg' : GlobOk φ tabR.glob := hg ▸ kg
      refine calls_of_sub tabR_ok s hsha (fun l o hl => ?_) (fun l hl => ?_) (by decide) (fun g hgl => ?_) kg' rfl hr hcall hpl
      · rcases PT.all_get _ _ hsha_all l o hl with ⟨rfl, hlt⟩ | ⟨rfl, rfl⟩
        · obtain ⟨p, hp, _⟩ := kg' l hlt
          exact .inl ⟨rfl, p, hp⟩
        · exact .inr ⟨by kernel_rfl, hrow⟩
      · cases hx : hsha.get l with
        | none => rfl
        | some o =>
          rcases PT.all_get _ _ hsha_all l o hx with ⟨_, hlt⟩ | ⟨rfl, _⟩
          · exact absurd hlt (Nat.not_lt.2 hl)
          · exact absurd hl (by decide)
      · have : ∀ g, g < 15 → (hsha.get g).isSome = true
          | 0, _ => by kernel_rfl
          | 1, _ => by kernel_rfl
          | 2, _ => by kernel_rfl
          | 3, _ => by kernel_rfl
          | 4, _ => by kernel_rfl
          | 5, _ => by kernel_rfl
          | 6, _ => by kernel_rfl
          | 7, _ => by kernel_rfl
          | 8, _ => by kernel_rfl
          | 9, _ => by kernel_rfl
          | 10, _ => by kernel_rfl
          | 11, _ => by kernel_rfl
          | 12, _ => by kernel_rfl
          | 13, _ => by kernel_rfl
          | 14, _ => by kernel_rfl
          | n + 15, hn => absurd hn (by omega)
        exact this g hgl
    · cases e
  · cases e
noncomputable def natS : PT Nf := (.node none (.node none .nil (.node none (.node none (.node none (.node none .nil (.node none .nil (.node (some shaNat) .nil .nil))) .nil) .nil) .nil)) (.node none (.node none (.node none .nil (.node none (.node none .nil (.node none (.node none (.node (some rotNat) .nil .nil) .nil) .nil)) .nil)) .nil) .nil))
noncomputable def tabS : Tab := { glob := tab.glob, ty := tab.ty, fn := tab.fn, nat := natS, ext := tab.ext, pur := .nil }
theorem natS_ok : PT.All (fun f n => NatOk Tryz.prog tabS f n) (fun k => k) natS := ⟨trivial, ⟨trivial, trivial, ⟨trivial, ⟨trivial, ⟨trivial, ⟨trivial, trivial, ⟨trivial, trivial, ⟨shaNat_ok rfl, trivial, trivial⟩⟩⟩, trivial⟩, trivial⟩, trivial⟩⟩, ⟨trivial, ⟨trivial, ⟨trivial, trivial, ⟨trivial, ⟨trivial, trivial, ⟨trivial, ⟨trivial, ⟨rotNat_ok rfl, trivial, trivial⟩, trivial⟩, trivial⟩⟩, trivial⟩⟩, trivial⟩, trivial⟩⟩
theorem tabS_ok : FullOk Tryz.prog tabS := { tab := ⟨tab_ok.tab.ty⟩, ext := tab_ok.ext, fn := tab_ok.fn, nat := fun f n e => PT.all_get _ _ natS_ok f n e, pur := fun f n e => (by have e' : (PT.nil : PT Pf).get f = some n := e; rw [PT.get_nil] at e'; cases e'), mixed := tab_ok.mixed }
end Go.Proofs.YtmlipbpbbjkigaaGreatDoor
