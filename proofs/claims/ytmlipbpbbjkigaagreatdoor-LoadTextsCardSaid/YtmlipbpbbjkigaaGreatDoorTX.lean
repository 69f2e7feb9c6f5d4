/- Parts as data: what they are in memory, and their texts. -/
import Derived.Test.YtmlipbpbbjkigaaGreatDoorTV
import Derived.Test.YtmlipbpbbjkigaaGreatDoorEvd
set_option linter.unusedVariables false
set_option linter.unusedSimpArgs false
namespace Go.Proofs.YtmlipbpbbjkigaaGreatDoor
open Go Go.Ev Go.Proofs
set_option maxRecDepth 100000
noncomputable section

structure InD where
  path : List UInt8
  id : Nat → UInt8
structure DepD where
  path : List UInt8
  kind : Int
  dir : List UInt8
def idL (f : Nat → UInt8) : List UInt8 := [f 0, f 1, f 2, f 3, f 4, f 5, f 6, f 7, f 8, f 9, f 10, f 11, f 12, f 13, f 14, f 15, f 16, f 17, f 18, f 19, f 20, f 21, f 22, f 23, f 24, f 25, f 26, f 27, f 28, f 29, f 30, f 31]
def inC (x : InD) : List AV := .str x.path :: bytesE (idL x.id)
def depC (d : DepD) : List AV := [.str d.path, .int .i64 d.kind, .str d.dir]
theorem inC_len (x : InD) : (inC x).length = 33 := rfl
theorem depC_len (x : DepD) : (depC x).length = 3 := rfl
theorem inC_plain (x : InD) : allNs noNames (inC x) = true := rfl
theorem depC_plain (x : DepD) : allNs noNames (depC x) = true := rfl
theorem idL_len (f : Nat → UInt8) : (idL f).length = 32 := rfl

def wIn (x : InD) : List (List UInt8) := [x.path, idL x.id]
def wDep (d : DepD) : List (List UInt8) := [d.path, numL d.kind, d.dir]
def wordsOf {α : Type} (f : α → List (List UInt8)) : List α → List (List UInt8)
  | [] => []
  | a :: l => f a ++ wordsOf f l
theorem wordsOf_take {α : Type} (f : α → List (List UInt8)) {xs : List α} : ∀ {i : Nat} {x : α}, xs[i]? = some x → wordsOf f (xs.take (i + 1)) = wordsOf f (xs.take i) ++ f x := by
  induction xs with
  | nil => intro i x e; simp at e
  | cons a xs ih =>
    intro i x e
    cases i with
    | zero => simp at e; subst e; simp [wordsOf]
    | succ i => have := ih (i := i) (by simpa using e); simp [wordsOf, this]
theorem wordsOf_len {α : Type} {f : α → List (List UInt8)} {k : Nat} (hf : ∀ a, (f a).length = k) : ∀ (l : List α), (wordsOf f l).length = l.length * k
  | [] => by simp [wordsOf]
  | a :: l => by simp [wordsOf, hf, wordsOf_len hf l, Nat.succ_mul, Nat.add_comm]

structure PartD where
  dir : List UInt8
  kind : Int
  name : List UInt8
  files : List InD
  embeds : List InD
  deps : List DepD
  fault : Int
def inputsL (l : List InD) : List UInt8 := joinL (wordsOf wIn l)
def depsL (l : List DepD) : List UInt8 := joinL (wordsOf wDep l)
def partW (p : PartD) : List (List UInt8) := [p.dir, numL p.kind, p.name, numL p.fault, inputsL p.files, inputsL p.embeds, depsL p.deps]
def textL (p : PartD) : List UInt8 := joinL (partW p)

theorem at_rowOf {α : Type} {f : α → List AV} {k : Nat} (hf : ∀ a, (f a).length = k) {l : List α} {i o : Nat} {a : α} (hx : l[i]? = some a) (ho : o = i * k) :
    ck (Nat.ble (o + k) (rowOf f l).length) (some (.agg (takeAt (rowOf f l) o k))) = some (AV.agg (f a)) := by
  subst ho
  have hi : i < l.length := (List.getElem?_eq_some_iff.1 hx).1
  rw [rowOf_at hf hx, ble_of]; rfl
  rw [rowOf_len hf]
  have : (i + 1) * k ≤ l.length * k := Nat.mul_le_mul_right k hi
  rw [Nat.succ_mul] at this; exact this
theorem id_text (f : Nat → UInt8) : (ob (unbytesE (bytesE (idL f))) fun bs => okv (.str bs)) = some (AV.str (idL f), none) := by rw [unbytesE_bytesE]; rfl

theorem joinL_app_len (ws us : List (List UInt8)) : (joinL ws).length ≤ (joinL (ws ++ us)).length := by
  rw [joinL_len, joinL_len]
  have : szL (ws ++ us) = szL ws + szL us := by
    induction ws with
    | nil => simp [szL]
    | cons w ws ih => simp [szL, ih]; omega
  omega
end
end Go.Proofs.YtmlipbpbbjkigaaGreatDoor
