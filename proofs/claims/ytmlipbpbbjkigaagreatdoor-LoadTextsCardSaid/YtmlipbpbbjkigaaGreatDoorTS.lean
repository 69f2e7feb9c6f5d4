/- The digests of 3 texts, run by the kernel. Written by gensha.py. -/
import Derived.Test.YtmlipbpbbjkigaaGreatDoorTR
set_option linter.unusedVariables false
set_option linter.unusedSimpArgs false
namespace Go.Proofs.YtmlipbpbbjkigaaGreatDoor
open Go Go.Ev Go.Proofs
set_option maxRecDepth 100000
noncomputable def hsha : AHeap := { objs := (.node (some .dead) (.node (some .dead) (.node (some .dead) (.node (some .dead) .nil .nil) (.node (some row11) .nil .nil)) (.node (some .dead) (.node (some .dead) .nil .nil) (.node (some .dead) .nil .nil))) (.node (some .dead) (.node (some .dead) (.node (some .dead) .nil .nil) (.node (some .dead) .nil .nil)) (.node (some .dead) (.node (some .dead) .nil .nil) (.node (some .dead) .nil .nil)))), next := 15 }
def shaIn0 : List UInt8 := [0, 0, 0, 0, 0, 0, 0, 2, 0, 0, 0, 0, 0, 0, 0, 4, 98, 108, 111, 98, 0, 0, 0, 0, 0, 0, 0, 9, 112, 97, 99, 107, 97, 103, 101, 32, 112]
def shaOut0 : List AV := bytesE [130, 64, 218, 152, 238, 119, 181, 10, 70, 138, 109, 104, 77, 202, 52, 171, 159, 182, 46, 230, 99, 143, 24, 255, 64, 43, 240, 56, 16, 177, 95, 229]
def shaIn1 : List UInt8 := [0, 0, 0, 0, 0, 0, 0, 2, 0, 0, 0, 0, 0, 0, 0, 4, 98, 108, 111, 98, 0, 0, 0, 0, 0, 0, 0, 14, 112, 97, 99, 107, 97, 103, 101, 32, 112, 95, 116, 101, 115, 116]
def shaOut1 : List AV := bytesE [76, 68, 183, 141, 59, 7, 61, 126, 40, 80, 239, 253, 127, 127, 38, 108, 167, 157, 55, 254, 166, 241, 11, 88, 0, 32, 166, 200, 61, 87, 239, 98]
def shaIn2 : List UInt8 := [0, 0, 0, 0, 0, 0, 0, 2, 0, 0, 0, 0, 0, 0, 0, 4, 116, 114, 101, 101, 0, 0, 0, 0, 0, 0, 0, 141, 0, 0, 0, 0, 0, 0, 0, 6, 0, 0, 0, 0, 0, 0, 0, 4, 98, 108, 111, 98, 0, 0, 0, 0, 0, 0, 0, 4, 97, 46, 103, 111, 0, 0, 0, 0, 0, 0, 0, 32, 130, 64, 218, 152, 238, 119, 181, 10, 70, 138, 109, 104, 77, 202, 52, 171, 159, 182, 46, 230, 99, 143, 24, 255, 64, 43, 240, 56, 16, 177, 95, 229, 0, 0, 0, 0, 0, 0, 0, 4, 98, 108, 111, 98, 0, 0, 0, 0, 0, 0, 0, 9, 97, 95, 116, 101, 115, 116, 46, 103, 111, 0, 0, 0, 0, 0, 0, 0, 32, 76, 68, 183, 141, 59, 7, 61, 126, 40, 80, 239, 253, 127, 127, 38, 108, 167, 157, 55, 254, 166, 241, 11, 88, 0, 32, 166, 200, 61, 87, 239, 98]
def shaOut2 : List AV := bytesE [42, 39, 211, 216, 22, 116, 192, 25, 85, 143, 173, 249, 46, 167, 30, 39, 252, 29, 163, 90, 122, 169, 132, 249, 164, 63, 18, 159, 162, 70, 229, 41]
def isAgg (d : List AV) : Option (AV × AHeap) → Bool
  | some (.agg cs, _) => AV.eqbs cs d
  | _ => false
theorem sha_runs0 : isAgg shaOut0 (call tabR 3000 225 [.str shaIn0] hsha) = true := by kernel_rfl
theorem sha_runs1 : isAgg shaOut1 (call tabR 3000 225 [.str shaIn1] hsha) = true := by kernel_rfl
theorem sha_runs2 : isAgg shaOut2 (call tabR 3000 225 [.str shaIn2] hsha) = true := by kernel_rfl
end Go.Proofs.YtmlipbpbbjkigaaGreatDoor
