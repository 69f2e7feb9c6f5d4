/- A word turned about. Written by gensha.py. -/
import Derived.Test.YtmlipbpbbjkigaaGreatDoorTF
import Derived.Test.YtmlipbpbbjkigaaGreatDoorEvc
set_option linter.unusedVariables false
set_option linter.unusedSimpArgs false
namespace Go.Proofs.YtmlipbpbbjkigaaGreatDoor
open Go Go.Ev Go.Proofs
set_option maxRecDepth 100000
def rotI (x : Int) (n m : Nat) : AV := .int .u32 (backE .u32 (Nat.lor (lowE .u32 (wrapE .u32 (x * Int.ofNat (2 ^ n)))) (lowE .u32 (x.fdiv (Int.ofNat (2 ^ m))))))
noncomputable def rotNat : Nf := fun args h => match args with
  | [.int .u32 x, .int .i64 (.negSucc m)] => match Nat.blt m 31 with
    | true => some (rotI x (31 - m) (m + 1), h)
    | false => none
  | _ => none
theorem rot_runs (x : Int) (h : AHeap) : ∀ m, m < 31 → call tab 60 296 [.int .u32 x, .int .i64 (.negSucc m)] h = some (rotI x (31 - m) (m + 1), h)
  | 0, _ => by kernel_rfl
  | 1, _ => by kernel_rfl
  | 2, _ => by kernel_rfl
  | 3, _ => by kernel_rfl
  | 4, _ => by kernel_rfl
  | 5, _ => by kernel_rfl
  | 6, _ => by kernel_rfl
  | 7, _ => by kernel_rfl
  | 8, _ => by kernel_rfl
  | 9, _ => by kernel_rfl
  | 10, _ => by kernel_rfl
  | 11, _ => by kernel_rfl
  | 12, _ => by kernel_rfl
  | 13, _ => by kernel_rfl
  | 14, _ => by kernel_rfl
  | 15, _ => by kernel_rfl
  | 16, _ => by kernel_rfl
  | 17, _ => by kernel_rfl
  | 18, _ => by kernel_rfl
  | 19, _ => by kernel_rfl
  | 20, _ => by kernel_rfl
  | 21, _ => by kernel_rfl
  | 22, _ => by kernel_rfl
  | 23, _ => by kernel_rfl
  | 24, _ => by kernel_rfl
  | 25, _ => by kernel_rfl
  | 26, _ => by kernel_rfl
  | 27, _ => by kernel_rfl
  | 28, _ => by kernel_rfl
  | 29, _ => by kernel_rfl
  | 30, _ => by kernel_rfl
  | n + 31, hn => absurd hn (by omega)
theorem rotNat_ok {T : Tab} (hg : T.glob = tab.glob) : NatOk Tryz.prog T 296 rotNat := by
  refine natOk_of_call tab_ok hg 60 (fun args h v h' e => ?_) Tryz.call296
  unfold rotNat at e
  split at e
  · rename_i x m
    cases hb : Nat.blt m 31 with
    | true => rw [hb] at e; rw [rot_runs x h m (blt_lt hb)]; exact e
    | false => rw [hb] at e; cases e
  · cases e
noncomputable def natR : PT Nf := (.node none .nil (.node none (.node none (.node none .nil (.node none (.node none .nil (.node none (.node none (.node (some rotNat) .nil .nil) .nil) .nil)) .nil)) .nil) .nil))
noncomputable def tabR : Tab := { glob := tab.glob, ty := tab.ty, fn := tab.fn, nat := natR, ext := tab.ext, pur := .nil }
theorem natR_ok : PT.All (fun f n => NatOk Tryz.prog tabR f n) (fun k => k) natR := ⟨trivial, trivial, ⟨trivial, ⟨trivial, ⟨trivial, trivial, ⟨trivial, ⟨trivial, trivial, ⟨trivial, ⟨trivial, ⟨rotNat_ok rfl, trivial, trivial⟩, trivial⟩, trivial⟩⟩, trivial⟩⟩, trivial⟩, trivial⟩⟩
theorem tabR_ok : FullOk Tryz.prog tabR := { tab := ⟨tab_ok.tab.ty⟩, ext := tab_ok.ext, fn := tab_ok.fn, nat := fun f n e => PT.all_get _ _ natR_ok f n e, pur := fun f n e => (by have e' : (PT.nil : PT Pf).get f = some n := e; rw [PT.get_nil] at e'; cases e'), mixed := tab_ok.mixed }
end Go.Proofs.YtmlipbpbbjkigaaGreatDoor
