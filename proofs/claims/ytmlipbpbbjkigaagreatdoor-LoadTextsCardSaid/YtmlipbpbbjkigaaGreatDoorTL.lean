/- alive: it answers true wherever the tables are laid. Written by genalive.py. -/
import Derived.Test.YtmlipbpbbjkigaaGreatDoorTA
import Derived.Test.YtmlipbpbbjkigaaGreatDoorEvc
set_option linter.unusedVariables false
set_option linter.unusedSimpArgs false
namespace Go.Proofs.YtmlipbpbbjkigaaGreatDoor
open Go Go.Ev Go.Proofs
set_option maxRecDepth 100000
noncomputable def sameRow (o : Option AObj) (r : AObj) : Bool := match o, r with
  | some (.row cs opn fz wr), .row cs' opn' fz' wr' => AV.eqbs cs cs' && ((opn == opn') && (Nat.beq fz fz' && (wr == wr')))
  | _, _ => false
theorem sameRow_eq {o : Option AObj} {r : AObj} (h : sameRow o r = true) : o = some r := by
  unfold sameRow at h
  split at h
  · simp only [Bool.and_eq_true, beq_iff_eq] at h
    obtain ⟨h1, h2, h3, h4⟩ := h
    rw [AV.eqbs_eq _ _ h1, h2, Nat.eq_of_beq_eq_true h3, h4]
  · cases h
noncomputable def laidRows (h : AHeap) : Bool := sameRow (h.get 4) row4 && (sameRow (h.get 5) row5 && (sameRow (h.get 11) row11 && (sameRow (h.get 15) row15 && (sameRow (h.get 16) row16))))
theorem laidRows_get {h : AHeap} (k : laidRows h = true) : h.get 4 = some row4 ∧ h.get 5 = some row5 ∧ h.get 11 = some row11 ∧ h.get 15 = some row15 ∧ h.get 16 = some row16 := by
  unfold laidRows at k
  simp only [Bool.and_eq_true] at k
  obtain ⟨k4, k5, k11, k15, k16⟩ := k
  exact ⟨sameRow_eq k4, sameRow_eq k5, sameRow_eq k11, sameRow_eq k15, sameRow_eq k16⟩
def HeapAt (l : Nat) (o : AObj) : Prop := (o = AObj.dead ∧ l < 15) ∨ (l = 4 ∧ o = row4) ∨ (l = 5 ∧ o = row5) ∨ (l = 11 ∧ o = row11) ∨ (l = 15 ∧ o = row15) ∨ (l = 16 ∧ o = row16)
theorem heap0_all : PT.All HeapAt (fun k => k) heap0.objs := ⟨.inl ⟨rfl, by decide⟩, ⟨.inl ⟨rfl, by decide⟩, ⟨.inl ⟨rfl, by decide⟩, ⟨.inl ⟨rfl, by decide⟩, ⟨.inr (.inr (.inr (.inr (.inl ⟨rfl, rfl⟩)))), trivial, trivial⟩, trivial⟩, ⟨.inr (.inr (.inr (.inl ⟨rfl, rfl⟩))), trivial, trivial⟩⟩, ⟨.inr (.inr (.inl ⟨rfl, rfl⟩)), ⟨.inl ⟨rfl, by decide⟩, trivial, trivial⟩, ⟨.inl ⟨rfl, by decide⟩, trivial, trivial⟩⟩⟩, ⟨.inl ⟨rfl, by decide⟩, ⟨.inr (.inl ⟨rfl, rfl⟩), ⟨.inl ⟨rfl, by decide⟩, ⟨.inr (.inr (.inr (.inr (.inr (⟨rfl, rfl⟩))))), trivial, trivial⟩, trivial⟩, ⟨.inl ⟨rfl, by decide⟩, trivial, trivial⟩⟩, ⟨.inl ⟨rfl, by decide⟩, ⟨.inl ⟨rfl, by decide⟩, trivial, trivial⟩, ⟨.inl ⟨rfl, by decide⟩, trivial, trivial⟩⟩⟩⟩
theorem heap0_in : ∀ g, g < 15 → inHeap heap0 g = true
  | 0, _ => by kernel_rfl
  | 1, _ => by kernel_rfl
  | 2, _ => by kernel_rfl
  | 3, _ => by kernel_rfl
  | 4, _ => by kernel_rfl
  | 5, _ => by kernel_rfl
  | 6, _ => by kernel_rfl
  | 7, _ => by kernel_rfl
  | 8, _ => by kernel_rfl
  | 9, _ => by kernel_rfl
  | 10, _ => by kernel_rfl
  | 11, _ => by kernel_rfl
  | 12, _ => by kernel_rfl
  | 13, _ => by kernel_rfl
  | 14, _ => by kernel_rfl
  | n + 15, hn => absurd hn (by omega)
theorem saysTrue_some {r : Option (AV × AHeap)} (h : saysTrue r = true) : ∃ h1, r = some (.bool true, h1) := by
  unfold saysTrue at h
  split at h
  · exact ⟨_, rfl⟩
  · cases h
noncomputable def aliveP : Pf := fun args h => match args with
  | [] => ck (laidRows h) (some (.bool true))
  | _ => none
theorem heap0_sub {φ : Phi} {h : AHeap} (kg : GlobOk φ 15) (k : laidRows h = true) : ∀ l o, heap0.get l = some o → (o = .dead ∧ ∃ p, φ l = some p) ∨ (closedObj heap0 o = true ∧ h.get l = some o) := by
  intro l o hl
  obtain ⟨k4, k5, k11, k15, k16⟩ := laidRows_get k
  rcases PT.all_get _ _ heap0_all l o hl with ⟨rfl, hlt⟩ | ⟨rfl, rfl⟩ | ⟨rfl, rfl⟩ | ⟨rfl, rfl⟩ | ⟨rfl, rfl⟩ | ⟨rfl, rfl⟩
  · obtain ⟨p, hp, _⟩ := kg l hlt
    exact .inl ⟨rfl, p, hp⟩
  · exact .inr ⟨by kernel_rfl, k4⟩
  · exact .inr ⟨by kernel_rfl, k5⟩
  · exact .inr ⟨by kernel_rfl, k11⟩
  · exact .inr ⟨by kernel_rfl, k15⟩
  · exact .inr ⟨by kernel_rfl, k16⟩
theorem heap0_none : ∀ l, heap0.next ≤ l → heap0.get l = none := by
  intro l hl
  have hl' : 17 ≤ l := hl
  cases hx : heap0.get l with
  | none => rfl
  | some o =>
    rcases PT.all_get _ _ heap0_all l o hx with ⟨_, hlt⟩ | ⟨rfl, _⟩ | ⟨rfl, _⟩ | ⟨rfl, _⟩ | ⟨rfl, _⟩ | ⟨rfl, _⟩
    · omega
    · omega
    · omega
    · omega
    · omega
    · omega
theorem aliveP_ok {T : Tab} (hg : T.glob = tabS.glob) : PurOk Tryz.prog T 5 aliveP := by
  refine ⟨Tryz.call5, fun args h v e B W φ w args' s hr kg => ?_⟩
  unfold aliveP at e
  split at e
  · obtain ⟨k, e⟩ := ck_some e
    cases e
    obtain ⟨h1, hrun⟩ := saysTrue_some alive_runs
    have kg' : GlobOk φ tabS.glob := hg ▸ kg
    exact calls_of_sub2 tabS_ok s heap0 (heap0_sub kg' k) heap0_none (by decide) heap0_in kg' rfl hr hrun rfl
  · cases e
end Go.Proofs.YtmlipbpbbjkigaaGreatDoor
