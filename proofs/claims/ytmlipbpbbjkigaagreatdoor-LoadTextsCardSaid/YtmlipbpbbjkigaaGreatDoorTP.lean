/- Numbers' texts: run at every number. -/
import Derived.Test.YtmlipbpbbjkigaaGreatDoorTL
import Derived.Test.YtmlipbpbbjkigaaGreatDoorEvc
set_option linter.unusedVariables false
set_option linter.unusedSimpArgs false
namespace Go.Proofs.YtmlipbpbbjkigaaGreatDoor
open Go Go.Ev Go.Proofs
set_option maxRecDepth 100000

def byteAt (n : Int) (k : Nat) : UInt8 := UInt8.ofNat (lowE .u8 ((wrapE .u64 n).fdiv (Int.ofNat (2 ^ k))))
def numL (n : Int) : List UInt8 := [byteAt n 56, byteAt n 48, byteAt n 40, byteAt n 32, byteAt n 24, byteAt n 16, byteAt n 8, byteAt n 0]
noncomputable def numP : Pf := fun args _ => match args with
  | [.int .i64 n] => some (.str (numL n))
  | _ => none
theorem num_runs (n : Int) : (call tab 200 13 [.int .i64 n] (heapL 15 5 [])).map Prod.fst = some (.str (numL n)) := by kernel_rfl
theorem numP_ok {T : Tab} (hg : T.glob = tab.glob) : PurOk Tryz.prog T 13 numP := by
  refine purOk_plain tab_ok hg 200 (dep := 5) (by decide) (by decide) (fun args h v e => ?_) Tryz.call13
  unfold numP at e
  split at e
  · cases e; exact ⟨rfl, rfl, num_runs _⟩
  · cases e

def divs (x : Int) : Nat → Int
  | 0 => x
  | k + 1 => wrapE .u64 ((divs x k).tdiv 256)
def byteR (n : Int) (k : Nat) : UInt8 := UInt8.ofNat (lowE .u8 ((divs (wrapE .u64 n) k).tmod 256))
def numR (n : Int) : List UInt8 := [byteR n 7, byteR n 6, byteR n 5, byteR n 4, byteR n 3, byteR n 2, byteR n 1, byteR n 0]
noncomputable def numRP : Pf := fun args _ => match args with
  | [.int .i64 n] => some (.str (numR n))
  | _ => none
theorem numR_runs (n : Int) : (call tab 200 15 [.int .i64 n] (heapL 15 5 [])).map Prod.fst = some (.str (numR n)) := by kernel_rfl
theorem numRP_ok {T : Tab} (hg : T.glob = tab.glob) : PurOk Tryz.prog T 15 numRP := by
  refine purOk_plain tab_ok hg 200 (dep := 5) (by decide) (by decide) (fun args h v e => ?_) Tryz.call15
  unfold numRP at e
  split at e
  · cases e; exact ⟨rfl, rfl, numR_runs _⟩
  · cases e
end Go.Proofs.YtmlipbpbbjkigaaGreatDoor
