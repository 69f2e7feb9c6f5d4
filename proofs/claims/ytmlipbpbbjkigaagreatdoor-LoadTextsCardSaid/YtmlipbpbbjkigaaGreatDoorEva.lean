/-
  A small evaluator of the model's programs, part 1 of 4: definitions and their soundness.
-/
import Derived.Orders
import Derived.LoopN
import Derived.Tactics
import Derived.Below
import Derived.Laws.Cells
import Derived.Laws.Append
import Derived.Room.Entries
import Derived.Laws.Strings
import Derived.ChangeKeysEq
import Derived.Laws.BytesArg
import Derived.Lib.ConvBytes
import Derived.Laws.Tables
import Derived.Laws.Runes
set_option linter.unusedVariables false
set_option linter.unusedSimpArgs false
set_option maxHeartbeats 2000000
/-
  A small evaluator of the model's programs over values in which blocks have names and capacities need not be known: the definitions.
-/
namespace Go.Ev
open Go

/- ---------------------------------------------------------------- a table by numbers -/
inductive PT (α : Type) where
  | nil
  | node (v : Option α) (l r : PT α)

noncomputable def PT.get {α : Type} (t : PT α) : Nat → Option α :=
  PT.rec (motive := fun _ => Nat → Option α) (fun _ => none)
    (fun v _ _ gl gr k => Bool.rec (motive := fun _ => Option α) (Bool.rec (motive := fun _ => Option α) (gr (Nat.sub (Nat.div k 2) 1)) (gl (Nat.div k 2)) (Nat.beq (Nat.mod k 2) 1)) v (Nat.beq k 0)) t

theorem PT.get_node {α : Type} (v : Option α) (l r : PT α) (k : Nat) : (PT.node v l r).get k =
    match Nat.beq k 0, Nat.beq (k % 2) 1 with
    | true, _ => v
    | false, true => l.get (k / 2)
    | false, false => r.get (k / 2 - 1) := by
  show Bool.rec (motive := fun _ => Option α) (Bool.rec (motive := fun _ => Option α) (r.get (k / 2 - 1)) (l.get (k / 2)) (Nat.beq (k % 2) 1)) v (Nat.beq k 0) = _
  cases Nat.beq k 0 <;> cases Nat.beq (k % 2) 1 <;> rfl

def PT.val {α : Type} : PT α → Option α
  | .nil => none
  | .node v _ _ => v
def PT.left {α : Type} : PT α → PT α
  | .nil => .nil
  | .node _ l _ => l
def PT.right {α : Type} : PT α → PT α
  | .nil => .nil
  | .node _ _ r => r

noncomputable def PT.put {α : Type} (f : Nat) : PT α → Nat → Option α → PT α :=
  Nat.rec (motive := fun _ => PT α → Nat → Option α → PT α) (fun t _ _ => t)
    (fun _ rc t k x => PT.rec (motive := fun _ => PT α)
      (Bool.rec (motive := fun _ => PT α) (Bool.rec (motive := fun _ => PT α) (.node none .nil (rc .nil (Nat.sub (Nat.div k 2) 1) x)) (.node none (rc .nil (Nat.div k 2) x) .nil) (Nat.beq (Nat.mod k 2) 1)) (.node x .nil .nil) (Nat.beq k 0))
      (fun v l r _ _ => Bool.rec (motive := fun _ => PT α) (Bool.rec (motive := fun _ => PT α) (.node v l (rc r (Nat.sub (Nat.div k 2) 1) x)) (.node v (rc l (Nat.div k 2) x) r) (Nat.beq (Nat.mod k 2) 1)) (.node x l r) (Nat.beq k 0)) t) f

theorem PT.put_succ {α : Type} (f : Nat) (t : PT α) (k : Nat) (x : Option α) : PT.put (f + 1) t k x =
    match Nat.beq k 0, Nat.beq (k % 2) 1 with
    | true, _ => .node x t.left t.right
    | false, true => .node t.val (PT.put f t.left (k / 2) x) t.right
    | false, false => .node t.val t.left (PT.put f t.right (k / 2 - 1) x) := by
  have e : Nat.beq (Nat.mod k 2) 1 = Nat.beq (k % 2) 1 := rfl
  cases t <;> cases h0 : Nat.beq k 0 <;> cases h1 : Nat.beq (k % 2) 1 <;> rw [h1] at e <;> (unfold PT.put; simp only [h0, h1, e]; rfl)

/- keys below this number are kept -/
def PT.room : Nat := 1073741823
noncomputable def PT.set {α : Type} (t : PT α) (k : Nat) (x : Option α) : PT α := PT.put 30 t k x

theorem beq_no {a b : Nat} (h : a ≠ b) : Nat.beq a b = false := by
  cases e : Nat.beq a b with
  | false => rfl
  | true => exact absurd (Nat.eq_of_beq_eq_true e) h
theorem beq_yes {a b : Nat} (h : a = b) : Nat.beq a b = true := by subst h; exact Nat.beq_refl a

theorem PT.get_nil {α : Type} (k : Nat) : (PT.nil : PT α).get k = none := by simp [PT.get]

theorem PT.get_val {α : Type} (t : PT α) : t.get 0 = t.val := by
  cases t <;> simp [PT.get, PT.val]

theorem PT.get_odd {α : Type} (t : PT α) (k : Nat) (h0 : k ≠ 0) (h : k % 2 = 1) : t.get k = t.left.get (k / 2) := by
  cases t with
  | nil => simp [PT.get, PT.left]
  | node v l r =>
    have e0 := beq_no h0
    have e1 := beq_yes h
    simp [PT.get_node, PT.left, e0, e1]

theorem PT.get_even {α : Type} (t : PT α) (k : Nat) (h0 : k ≠ 0) (h : k % 2 ≠ 1) : t.get k = t.right.get (k / 2 - 1) := by
  cases t with
  | nil => simp [PT.get, PT.right]
  | node v l r =>
    have e0 := beq_no h0
    have e1 := beq_no h
    simp [PT.get_node, PT.right, e0, e1]

theorem PT.get_put {α : Type} (x : Option α) : ∀ (f : Nat) (t : PT α) (k j : Nat), k + 1 < 2 ^ f → (PT.put f t k x).get j = if j = k then x else t.get j := by
  intro f
  induction f with
  | zero => intro t k j h; omega
  | succ f ih =>
    intro t k j h
    have hp : 2 ^ (f + 1) = 2 ^ f * 2 := Nat.pow_succ ..
    by_cases k0 : k = 0
    · subst k0
      have e : (PT.put (f + 1) t 0 x) = .node x t.left t.right := by simp [PT.put_succ]
      rw [e]
      by_cases j0 : j = 0
      · subst j0; simp [PT.get_val, PT.val]
      · rw [if_neg j0]
        by_cases j1 : j % 2 = 1
        · rw [PT.get_odd _ _ j0 j1, PT.get_odd t _ j0 j1]; rfl
        · rw [PT.get_even _ _ j0 j1, PT.get_even t _ j0 j1]; rfl
    · have e0 := beq_no k0
      by_cases k1 : k % 2 = 1
      · have e1 := beq_yes k1
        have e : (PT.put (f + 1) t k x) = .node t.val (PT.put f t.left (k / 2) x) t.right := by simp only [PT.put_succ, e0, e1]
        rw [e]
        by_cases j0 : j = 0
        · subst j0; rw [if_neg (by omega)]; simp [PT.get_val, PT.val]
        · by_cases j1 : j % 2 = 1
          · rw [PT.get_odd _ _ j0 j1, PT.get_odd t _ j0 j1]
            simp only [PT.left]
            rw [ih _ _ _ (by omega)]
            by_cases hjk : j = k
            · subst hjk; simp
            · rw [if_neg hjk, if_neg (by omega)]
          · rw [PT.get_even _ _ j0 j1, PT.get_even t _ j0 j1, if_neg (by omega)]; rfl
      · have e1 := beq_no k1
        have e : (PT.put (f + 1) t k x) = .node t.val t.left (PT.put f t.right (k / 2 - 1) x) := by simp only [PT.put_succ, e0, e1]
        rw [e]
        by_cases j0 : j = 0
        · subst j0; rw [if_neg (by omega)]; simp [PT.get_val, PT.val]
        · by_cases j1 : j % 2 = 1
          · rw [PT.get_odd _ _ j0 j1, PT.get_odd t _ j0 j1, if_neg (by omega)]; rfl
          · rw [PT.get_even _ _ j0 j1, PT.get_even t _ j0 j1]
            simp only [PT.right]
            rw [ih _ _ _ (by omega)]
            by_cases hjk : j = k
            · subst hjk; simp
            · rw [if_neg hjk, if_neg (by omega)]

theorem PT.get_set {α : Type} (t : PT α) (k j : Nat) (x : Option α) (h : k < PT.room) : (t.set k x).get j = if j = k then x else t.get j :=
  PT.get_put x 30 t k j (by unfold PT.room at h; omega)

end Go.Ev

/-
  A small evaluator of the model's programs over values in which blocks have names and capacities need not be known: values, memory, operations.
-/
namespace Go.Ev
open Go
noncomputable section

/- a slice's capacity: known; or up to the end of its array, whose elements have so many cells -/
inductive Cap where
  | ex (n : Nat)
  | op (es : Nat)
  deriving DecidableEq

inductive AV where
  | bool (b : Bool)
  | int (k : IntKind) (n : Int)
  | str (s : List UInt8)
  | ptr (l o : Nat)
  | nilptr
  | slice (l o len : Nat) (cap : Cap)
  | nilslice
  | map (l : Nat)
  | nilmap
  | func (fn : Fn) (first captured : List AV)
  | nilFunc
  | iface (t : TypeId) (v : AV)
  | nilIface
  | agg (cells : List AV)
  | tuple (vs : List AV)
  deriving Inhabited

def AV.undef : AV := .tuple []

def AV.cells : AV → List AV
  | .agg cs => cs
  | v => [v]

/- may stand in one cell -/
def AV.oneCell : AV → Bool
  | .agg _ | .tuple _ => false
  | _ => true

structure AE where
  key : AV
  val : AV
  born : Nat

inductive AObj where
  | row (cells : List AV) (opn : Bool) (fz : Nat) (wr : Bool)
  | amap (es : List AE) (clock : Nat)
  | siter (s : List UInt8) (pos : Nat)
  | dead

structure AHeap where
  objs : PT AObj
  next : Nat

def AHeap.get (h : AHeap) (l : Nat) : Option AObj := h.objs.get l
/- a number, reckoned out before it is handed on -/
def forced {α : Type} (n : Nat) (f : Nat → α) : α := Nat.rec (motive := fun _ => α) (f 0) (fun k _ => f (k + 1)) n
theorem forced_eq {α : Type} (n : Nat) (f : Nat → α) : forced n f = f n := by cases n <;> rfl
def AHeap.put (h : AHeap) (l : Nat) (o : AObj) : AHeap :=
  match h with
  | ⟨objs, next⟩ => { objs := objs.set l (some o), next := next }
def AHeap.push (h : AHeap) (o : AObj) : AHeap :=
  match h with
  | ⟨objs, next⟩ => { objs := objs.set next (some o), next := next + 1 }

structure Env where
  vals : PT AV
  size : Nat
  glob : Nat

/- a slot that is not there: nothing is known of it -/
def Env.get (e : Env) (t : Nat) : Option AV := e.vals.get t
def Env.put (e : Env) (dst : Option Nat) (v : AV) : Env :=
  Option.rec (motive := fun _ => Env) e
    (fun d => Env.rec (motive := fun _ => Env) (fun vals size glob => Bool.rec (motive := fun _ => Env) (Env.mk vals size glob) (Env.mk (vals.set d (some v)) size glob) (Nat.blt d size)) e) dst
theorem Env.put_eq (e : Env) (dst : Option Nat) (v : AV) : e.put dst v =
  match dst with
  | none => e
  | some d => match Nat.blt d e.size with
    | true => { vals := e.vals.set d (some v), size := e.size, glob := e.glob }
    | false => { vals := e.vals, size := e.size, glob := e.glob } := by
  cases dst with
  | none => rfl
  | some d =>
    cases e with
    | mk vals size glob =>
      show Bool.rec (motive := fun _ => Env) (Env.mk vals size glob) (Env.mk (vals.set d (some v)) size glob) (Nat.blt d size) = _
      cases hb : Nat.blt d size <;> simp only [hb]

/- what the operations ask of a type -/
structure Ti where
  desc : TypeDesc
  size : Nat
  bytes : Nat
  zero : List AV
  agg : Bool
  eqs : Bool := false

abbrev Nf := List AV → AHeap → Option (AV × AHeap)
abbrev Pf := List AV → AHeap → Option AV

structure Tab where
  glob : Nat
  ty : PT Ti
  fn : PT Func
  nat : PT Nf
  ext : PT Nf
  pur : PT Pf

def ob {α β : Type} (x : Option α) (f : α → Option β) : Option β := Option.rec (motive := fun _ => Option β) none f x

def ck {β : Type} (b : Bool) (x : Option β) : Option β := Bool.rec (motive := fun _ => Option β) none x b

/- constants -/
def leafV : Value → Option AV
  | .bool b => some (.bool b)
  | .int k n => some (.int k n)
  | .string s => some (.str s.data.toList)
  | .pointer none => some .nilptr
  | .slice none 0 0 => some .nilslice
  | .map none => some .nilmap
  | .nilFunc => some .nilFunc
  | .nilIface => some .nilIface
  | _ => none

def leafVs : List Value → Option (List AV)
  | [] => some []
  | v :: vs => ob (leafV v) fun a => ob (leafVs vs) fun as => some (a :: as)

def constV : Value → Option AV
  | .agg cs => ob (leafVs cs.toList) fun as => some (.agg as)
  | .tuple ⟨[]⟩ => some (.tuple [])
  | v => leafV v

def Env.eval (e : Env) : Operand → Option AV
  | .tmp t => e.get t
  | .const v => constV v
  | .global g => ck (Nat.blt g e.glob) (some (.ptr g 0))
  | .func f => some (.func (.func f) [] [])

def evals (e : Env) : List Operand → Option (List AV)
  | [] => some []
  | x :: xs => ob (e.eval x) fun a => ob (evals e xs) fun as => some (a :: as)

/- ---------------------------------------------------------------- integers -/
def IntKind.modulus : IntKind → Nat
  | .i8 | .u8 => 256
  | .i16 | .u16 => 65536
  | .i32 | .u32 => 4294967296
  | .i64 | .u64 => 18446744073709551616
def IntKind.sgn : IntKind → Bool
  | .i8 | .i16 | .i32 | .i64 => true
  | _ => false
/- the number below the modulus -/
def lowE (k : IntKind) : Int → Nat
  | .ofNat m => m % IntKind.modulus k
  | .negSucc m => IntKind.modulus k - 1 - m % IntKind.modulus k
def backE (k : IntKind) (r : Nat) : Int :=
  match IntKind.sgn k, Nat.ble (IntKind.modulus k) (2 * r) with
  | true, true => Int.negSucc (IntKind.modulus k - r - 1)
  | _, _ => Int.ofNat r
def wrapE (k : IntKind) (n : Int) : Int := backE k (lowE k n)

def ltE : Int → Int → Bool
  | .ofNat a, .ofNat b => Nat.blt a b
  | .ofNat _, .negSucc _ => false
  | .negSucc _, .ofNat _ => true
  | .negSucc a, .negSucc b => Nat.blt b a
def eqE : Int → Int → Bool
  | .ofNat a, .ofNat b => Nat.beq a b
  | .negSucc a, .negSucc b => Nat.beq a b
  | _, _ => false

def kindEq : IntKind → IntKind → Bool
  | .i8, .i8 | .i16, .i16 | .i32, .i32 | .i64, .i64 | .u8, .u8 | .u16, .u16 | .u32, .u32 | .u64, .u64 => true
  | _, _ => false

def u8eq (a b : UInt8) : Bool := Nat.beq a.toNat b.toNat
def u8lt (a b : UInt8) : Bool := Nat.blt a.toNat b.toNat
def strEq : List UInt8 → List UInt8 → Bool
  | [], [] => true
  | a :: as, b :: bs => match u8eq a b with
    | true => strEq as bs
    | false => false
  | _, _ => false
def strLt : List UInt8 → List UInt8 → Bool
  | _, [] => false
  | [], _ :: _ => true
  | a :: x, b :: y => match u8lt a b, u8eq a b with
    | true, _ => true
    | false, true => strLt x y
    | false, false => false

def intBin (op : BinOp) (k : IntKind) (a b : Int) : Option AV :=
  match op with
  | .add => some (.int k (wrapE k (a + b)))
  | .sub => some (.int k (wrapE k (a - b)))
  | .mul => some (.int k (wrapE k (a * b)))
  | .quo => ck (!eqE b 0) (some (.int k (wrapE k (a.tdiv b))))
  | .rem => ck (!eqE b 0) (some (.int k (a.tmod b)))
  | .and => some (.int k (backE k (Nat.land (lowE k a) (lowE k b))))
  | .or => some (.int k (backE k (Nat.lor (lowE k a) (lowE k b))))
  | .xor => some (.int k (backE k (Nat.xor (lowE k a) (lowE k b))))
  | .andNot => none
  | .shl | .shr => none
  | .eql => some (.bool (eqE a b))
  | .neq => some (.bool (!eqE a b))
  | .lss => some (.bool (ltE a b))
  | .leq => some (.bool (!ltE b a))
  | .gtr => some (.bool (ltE b a))
  | .geq => some (.bool (!ltE a b))

def shiftBin (op : BinOp) (k : IntKind) (a b : Int) : Option AV :=
  match b with
  | .negSucc _ => none
  | .ofNat s =>
    let n := min s k.bits
    match op with
    | .shl => some (.int k (wrapE k (a * Int.ofNat (2 ^ n))))
    | .shr => some (.int k (a.fdiv (Int.ofNat (2 ^ n))))
    | _ => none

def strMax : Nat := 4611686018427387904

def strBin (op : BinOp) (a b : List UInt8) : Option AV :=
  match op with
  | .add => ck (Nat.ble (a.length + b.length) strMax) (some (.str (a ++ b)))
  | .eql => some (.bool (strEq a b))
  | .neq => some (.bool (!strEq a b))
  | .lss => some (.bool (strLt a b))
  | .leq => some (.bool (strLt a b || strEq a b))
  | .gtr => some (.bool (!(strLt a b || strEq a b)))
  | .geq => some (.bool (!strLt a b))
  | _ => none

/- parts of a value at a type: its field or element, cell by cell -/
def takeAt (cs : List AV) (o n : Nat) : List AV := (cs.drop o).take n

def partE (T : Tab) (t : TypeId) (cs : List AV) (o : Nat) : Option AV :=
  ob (T.ty.get t) fun ti =>
  match ti.agg with
  | true => ck (Nat.ble (o + ti.size) cs.length) (some (.agg (takeAt cs o ti.size)))
  | false => cs[o]?

def eqFields (T : Tab) (rec : TypeId → AV → AV → Option Bool) (xs ys : List AV) : List Field → Option Bool
  | [] => some true
  | f :: fs =>
    ck (!(f.name == "_")) <|
    ob (partE T f.type xs f.offset) fun x => ob (partE T f.type ys f.offset) fun y => ob (rec f.type x y) fun b =>
      match b with
      | true => eqFields T rec xs ys fs
      | false => some false

def eqElems (T : Tab) (rec : TypeId → AV → AV → Option Bool) (e : TypeId) (n : Nat) (xs ys : List AV) : (left i : Nat) → Option Bool
  | 0, _ => some true
  | left + 1, i =>
    ob (partE T e xs (i * n)) fun x => ob (partE T e ys (i * n)) fun y => ob (rec e x y) fun b =>
      match b with
      | true => eqElems T rec e n xs ys left (i + 1)
      | false => some false

def eqE_ (T : Tab) : (depth : Nat) → TypeId → AV → AV → Option Bool
  | 0, _, _, _ => none
  | d + 1, t, x, y =>
    ob (T.ty.get t) fun ti =>
    match ti.desc, x, y with
    | .struct fields, .agg xs, .agg ys => ck ti.eqs <| eqFields T (eqE_ T d) xs ys fields.toList
    | .array n e, .agg xs, .agg ys => ck ti.eqs <| ob (T.ty.get e) fun te => eqElems T (eqE_ T d) e te.size xs ys n 0
    | .bool, .bool a, .bool b => some (a == b)
    | .int _, .int k a, .int j b => ck (kindEq k j) (some (eqE a b))
    | .string, .str a, .str b => some (strEq a b)
    | .pointer _, .nilptr, .nilptr => some true
    | .pointer _, .nilptr, .ptr _ _ => some false
    | .pointer _, .ptr _ _, .nilptr => some false
    | .pointer e, .ptr l o, .ptr m q => ob (T.ty.get e) fun te => ck (Nat.ble 1 te.size) <| ck (Nat.beq l m) <| some (Nat.beq o q)
    | .slice _, .nilslice, .nilslice => some true
    | .slice _, .nilslice, .slice _ _ _ _ => some false
    | .slice _, .slice _ _ _ _, .nilslice => some false
    | .map _ _, .nilmap, .nilmap => some true
    | .map _ _, .nilmap, .map _ => some false
    | .map _ _, .map _, .nilmap => some false
    | .func _ _ _, .nilFunc, .nilFunc => some true
    | .func _ _ _, .nilFunc, .func _ _ _ => some false
    | .func _ _ _, .func _ _ _, .nilFunc => some false
    | .interface _, .nilIface, .nilIface => some true
    | .interface _, .nilIface, .iface _ _ => some false
    | .interface _, .iface _ _, .nilIface => some false
    | .interface _, .iface t _, .iface u _ => ck (!Nat.beq t u) (some false)
    | _, _, _ => none

/- kc: one of the operands is a constant -/
def bothNil : AV → AV → Bool
  | .nilIface, .nilIface => true
  | _, _ => false

def binE (T : Tab) (kc : Bool) (op : BinOp) (t : TypeId) (x y : AV) : Option AV :=
  match x, y with
  | .int k a, .int j b =>
    match op with
    | .shl | .shr => shiftBin op k a b
    | _ => ck (kindEq k j) (intBin op k a b)
  | .str a, .str b => strBin op a b
  | _, _ =>
    match op with
    | .eql => ob (eqE_ T 12 t x y) fun b => ck (kc || !bothNil x y) <| some (.bool b)
    | .neq => ob (eqE_ T 12 t x y) fun b => ck (kc || !bothNil x y) <| some (.bool (!b))
    | _ => none

def unE (op : UnOp) (x : AV) : Option AV :=
  match op, x with
  | .neg, .int k n => some (.int k (wrapE k (0 - n)))
  | .xor, .int k n => some (.int k (backE k (IntKind.modulus k - 1 - lowE k n)))
  | .not, .bool b => some (.bool (!b))
  | _, _ => none

/- ---------------------------------------------------------------- memory -/
def rowAt {α : Type} (h : AHeap) (l : Nat) (f : List AV → Bool → Nat → Bool → Option α) : Option α :=
  match h.get l with
  | some (.row cs opn fz wr) => f cs opn fz wr
  | _ => none

def loadE (T : Tab) (t : TypeId) (l o : Nat) (h : AHeap) : Option AV :=
  rowAt h l fun cs _ _ _ => partE T t cs o

def spliceE (cs : List AV) (o : Nat) (vs : List AV) : List AV := cs.take o ++ (vs ++ cs.drop (o + vs.length))

def allOne : List AV → Bool
  | [] => true
  | v :: vs => match v.oneCell with
    | true => allOne vs
    | false => false

def writeE (l o : Nat) (vs : List AV) (h : AHeap) : Option AHeap :=
  rowAt h l fun cs opn fz wr =>
    ck wr <| ck (Nat.ble fz o) <| ck (Nat.ble (o + vs.length) cs.length) <| ck (allOne vs) <| some (h.put l (.row (spliceE cs o vs) opn fz wr))

def storeE (T : Tab) (t : TypeId) (l o : Nat) (v : AV) (h : AHeap) : Option AHeap :=
  ob (T.ty.get t) fun ti => ck (Nat.beq v.cells.length ti.size) <| writeE l o v.cells h

/- a new row of known cells -/
def newE (cs : List AV) (opn : Bool) (h : AHeap) : Option (Nat × AHeap) :=
  ck (Nat.blt h.next PT.room) <| ck (allOne cs) <| some (h.next, h.push (.row cs opn 0 true))

def newObjE (o : AObj) (h : AHeap) : Option (Nat × AHeap) :=
  ck (Nat.blt h.next PT.room) <| some (h.next, h.push o)

abbrev OpR := AV × Option AHeap

def okv (v : AV) : Option OpR := some (v, none)
def okh (v : AV) (h : AHeap) : Option OpR := some (v, some h)

def fillE (place : Nat → Option (Nat × Nat)) (cells : List AV) : List (Nat × AV) → Option (List AV)
  | [] => some cells
  | (i, v) :: rest =>
    ob (place i) fun (off, size) =>
      ck (Nat.beq v.cells.length size) <| ck (Nat.ble (off + v.cells.length) cells.length) <| fillE place (spliceE cells off v.cells) rest

def evalParts (e : Env) : List (Nat × Operand) → Option (List (Nat × AV))
  | [] => some []
  | (i, x) :: xs => ob (e.eval x) fun a => ob (evalParts e xs) fun as => some ((i, a) :: as)

def buildE (T : Tab) (t : TypeId) (parts : List (Nat × AV)) : Option AV :=
  ob (T.ty.get t) fun ti =>
  match ti.desc with
  | .struct fields =>
    ck (fields.toList.all fun f => match T.ty.get f.type with | some _ => true | none => false) <|
    ob (fillE (fun i => ob fields[i]? fun f => ob (T.ty.get f.type) fun tf => some (f.offset, tf.size)) ti.zero parts) fun cs => some (.agg cs)
  | .array _ e => ob (T.ty.get e) fun te => ob (fillE (fun i => some (i * te.size, te.size)) ti.zero parts) fun cs => some (.agg cs)
  | _ => none

def repE (z : List AV) : Nat → List AV
  | 0 => []
  | n + 1 => z ++ repE z n

def buildSliceE (T : Tab) (t : TypeId) (len : Nat) (parts : List (Nat × AV)) (h : AHeap) : Option OpR :=
  ob (T.ty.get t) fun ti =>
  match ti.desc with
  | .slice e =>
    ob (T.ty.get e) fun te =>
      ck (Nat.ble 1 te.size) <| ck (Nat.beq te.zero.length te.size) <| ck (Nat.ble (len * te.size) 16777216) <|
      ob (fillE (fun i => some (i * te.size, te.size)) (repE te.zero len) parts) fun cs =>
      ob (newE cs false h) fun (l, h') => okh (.slice l 0 len (.ex len)) h'
  | _ => none

def natOf : AV → Option Nat
  | .int _ (.ofNat n) => some n
  | _ => none

def indexAddrE (T : Tab) (t : TypeId) (x ix : AV) : Option AV :=
  ob (T.ty.get t) fun ti => ob (natOf ix) fun i =>
  match ti.desc, x with
  | .array n e, .ptr l o => ob (T.ty.get e) fun te => ck (Nat.ble 1 te.size) <| ck (Nat.blt i n) <| some (.ptr l (o + i * te.size))
  | .slice e, .slice l o len _ => ob (T.ty.get e) fun te => ck (Nat.ble 1 te.size) <| ck (Nat.blt i len) <| some (.ptr l (o + i * te.size))
  | _, _ => none

def indexE (T : Tab) (t : TypeId) (x ix : AV) : Option AV :=
  ob (T.ty.get t) fun ti => ob (natOf ix) fun i =>
  match ti.desc, x with
  | .array n e, .agg cs => ob (T.ty.get e) fun te => ck (Nat.blt i n) <| partE T e cs (i * te.size)
  | .string, .str s => ob s[i]? fun b => some (.int .u8 (Int.ofNat b.toNat))
  | _, _ => none

def fieldAddrE (T : Tab) (t : TypeId) (x : AV) (f : Nat) : Option AV :=
  ob (T.ty.get t) fun ti =>
  match ti.desc, x with
  | .struct fields, .ptr l o => ob fields[f]? fun fd => ob (T.ty.get fd.type) fun tf => ck (Nat.ble 1 tf.size) <| some (.ptr l (o + fd.offset))
  | _, _ => none

def fieldE (T : Tab) (t : TypeId) (x : AV) (f : Nat) : Option AV :=
  ob (T.ty.get t) fun ti =>
  match ti.desc, x with
  | .struct fields, .agg cs => ob fields[f]? fun fd => partE T fd.type cs fd.offset
  | _, _ => none

/- a bound that may be left out -/
def boundE (d : Nat) : Option AV → Option Nat
  | none => some d
  | some v => natOf v

def Cap.most (len : Nat) : Cap → Nat
  | .ex c => c
  | .op _ => len
def Cap.fits (es : Nat) : Cap → Bool
  | .ex _ => true
  | .op e => Nat.beq e es
def Cap.less (l : Nat) : Cap → Cap
  | .ex c => .ex (c - l)
  | .op e => .op e

def sliceE (T : Tab) (t : TypeId) (x : AV) (lo hi mx : Option AV) : Option AV :=
  ob (T.ty.get t) fun ti =>
  match ti.desc, x with
  | .string, .str s =>
    match mx with
    | some _ => none
    | none =>
      ob (boundE s.length hi) fun h => ob (boundE 0 lo) fun l =>
        ck (Nat.ble h s.length) <| ck (Nat.ble l h) <| some (.str ((s.drop l).take (h - l)))
  | .array n e, .ptr p o =>
    ob (T.ty.get e) fun te =>
      match mx with
      | some _ => none
      | none =>
        ob (boundE n hi) fun h => ob (boundE 0 lo) fun l =>
          ck (Nat.ble h n) <| ck (Nat.ble l h) <| some (.slice p (o + l * te.size) (h - l) (.ex (n - l)))
  | .slice e, .nilslice =>
    ob (T.ty.get e) fun _ =>
    match mx with
    | some _ => none
    | none => ob (boundE 0 hi) fun h => ob (boundE 0 lo) fun l => ck (Nat.ble h 0) <| ck (Nat.ble l h) <| some .nilslice
  | .slice e, .slice p o len cap =>
    ob (T.ty.get e) fun te =>
      match mx with
      | none =>
        ob (boundE len hi) fun h => ob (boundE 0 lo) fun l =>
          ck (Nat.ble h (cap.most len)) <| ck (Nat.ble l h) <| ck (cap.fits te.size) <| some (.slice p (o + l * te.size) (h - l) (cap.less l))
      | some m =>
        match hi with
        | none => none
        | some hv => ob (natOf m) fun mm => ob (natOf hv) fun h => ob (boundE 0 lo) fun l =>
          ck (Nat.ble mm (cap.most len)) <| ck (Nat.ble h mm) <| ck (Nat.ble l h) <| some (.slice p (o + l * te.size) (h - l) (.ex (mm - l)))
  | _, _ => none

def bytesE : List UInt8 → List AV
  | [] => []
  | b :: bs => .int .u8 (Int.ofNat b.toNat) :: bytesE bs

def unbytesE : List AV → Option (List UInt8)
  | [] => some []
  | .int .u8 (.ofNat n) :: r => ob (unbytesE r) fun bs => some (UInt8.ofNat n :: bs)
  | _ => none

def convE (T : Tab) (src dst : TypeId) (x : AV) (h : AHeap) : Option OpR :=
  ob (T.ty.get src) fun ts => ob (T.ty.get dst) fun td =>
  match ts.desc, td.desc, x with
  | .int _, .int k, .int _ n => okv (.int k (wrapE k n))
  | .string, .string, .str s => okv (.str s)
  | .string, .slice e, .str s =>
    ob (T.ty.get e) fun te =>
    match te.desc with
    | .int .u8 => ob (newE (bytesE s) true h) fun (l, h') => okh (.slice l 0 s.length (.op 1)) h'
    | _ => none
  | .slice e, .string, .slice l o len _ =>
    ob (T.ty.get e) fun te =>
    match te.desc with
    | .int .u8 => rowAt h l fun cs _ _ _ => ck (Nat.ble (o + len) cs.length) <| ob (unbytesE (takeAt cs o len)) fun bs => okv (.str bs)
    | _ => none
  | .slice e, .string, .nilslice =>
    ob (T.ty.get e) fun te =>
    match te.desc with
    | .int .u8 => okv (.str [])
    | _ => none
  | _, _, _ => none

def makeSliceE (T : Tab) (t : TypeId) (len cap : AV) (h : AHeap) : Option OpR :=
  ob (T.ty.get t) fun ti =>
  match ti.desc with
  | .slice e => ob (T.ty.get e) fun te => ob (natOf len) fun n => ob (natOf cap) fun c =>
    ck (Nat.ble n c) <| ck (Nat.ble 1 te.size) <| ck (Nat.beq te.zero.length te.size) <| ck (Nat.ble (te.bytes * c) 281474976710656) <| ck (Nat.ble c 4611686018427387904) <|
    ob (newE (repE te.zero c) false h) fun (l, h') => okh (.slice l 0 n (.ex c)) h'
  | _ => none

def Cap.eqb : Cap → Cap → Bool
  | .ex a, .ex b => Nat.beq a b
  | .op a, .op b => Nat.beq a b
  | _, _ => false

mutual
def AV.eqb : AV → AV → Bool
  | .bool a, .bool b => a == b
  | .int k a, .int j b => kindEq k j && eqE a b
  | .str a, .str b => strEq a b
  | .ptr a b, .ptr c d => Nat.beq a c && Nat.beq b d
  | .nilptr, .nilptr => true
  | .slice a b c d, .slice a' b' c' d' => Nat.beq a a' && Nat.beq b b' && Nat.beq c c' && Cap.eqb d d'
  | .nilslice, .nilslice => true
  | .map a, .map b => Nat.beq a b
  | .nilmap, .nilmap => true
  | .func f a b, .func g c d => (f == g) && AV.eqbs a c && AV.eqbs b d
  | .nilFunc, .nilFunc => true
  | .iface t v, .iface u w => Nat.beq t u && AV.eqb v w
  | .nilIface, .nilIface => true
  | .agg a, .agg b => AV.eqbs a b
  | .tuple a, .tuple b => AV.eqbs a b
  | _, _ => false
def AV.eqbs : List AV → List AV → Bool
  | [], [] => true
  | a :: as, b :: bs => AV.eqb a b && AV.eqbs as bs
  | _, _ => false
end

/- keys: what is plain -/
def plainLeaf : AV → Bool
  | .bool _ | .int _ _ | .str _ => true
  | _ => false
def plainLeaves : List AV → Bool
  | [] => true
  | a :: as => match plainLeaf a with
    | true => plainLeaves as
    | false => false
def plainKey : AV → Bool
  | .agg cs => plainLeaves cs
  | a => plainLeaf a

/- may a value be asked for at a type of keys? -/
def keyOkE (T : Tab) : Nat → TypeId → AV → Bool
  | 0, _, _ => false
  | d + 1, t, v =>
    match T.ty.get t with
    | none => false
    | some ti =>
      match ti.desc, v with
      | .bool, .bool _ | .int _, .int _ _ | .string, .str _ => true
      | .array n e, .agg cs => match T.ty.get e with
        | none => false
        | some te => (List.range n).all fun i => match partE T e cs (i * te.size) with
          | some a => keyOkE T d e a
          | none => false
      | _, _ => false

def findE (T : Tab) (t : TypeId) (k : AV) : List AE → Option (Option (Nat × AE))
  | [] => some none
  | e :: es => ob (eqE_ T 12 t k e.key) fun r => match r with
    | true => some (some (0, e))
    | false => ob (findE T t k es) fun x => match x with
      | some (i, a) => some (some (i + 1, a))
      | none => some none

def setAt (l : List AE) (i : Nat) (e : AE) : List AE :=
  match l, i with
  | [], _ => []
  | _ :: r, 0 => e :: r
  | a :: r, i + 1 => a :: setAt r i e

def Ti.zeroV (t : Ti) : AV :=
  match t.agg, t.zero with
  | true, cs => .agg cs
  | false, [c] => c
  | false, _ => .undef

def lookRes (z : AV) (ok : Bool) : Option (Nat × AE) → AV
  | some (_, a) => match ok with
    | true => .tuple [a.val, .bool true]
    | false => a.val
  | none => match ok with
    | true => .tuple [z, .bool false]
    | false => z

def lookupE (T : Tab) (t : TypeId) (m k : AV) (ok : Bool) (h : AHeap) : Option AV :=
  ob (T.ty.get t) fun ti =>
  match ti.desc with
  | .map kt e => ob (T.ty.get e) fun te => ck (keyOkE T 12 kt k) <|
    ob (match m with
      | .nilmap => some none
      | .map l => match h.get l with
        | some (.amap es _) => findE T kt k es
        | _ => none
      | _ => none) fun r => some (lookRes te.zeroV ok r)
  | _ => none

def mapUpdateE (T : Tab) (t : TypeId) (m k v : AV) (h : AHeap) : Option AHeap :=
  ob (T.ty.get t) fun ti =>
  match ti.desc, m with
  | .map kt _, .map l => match h.get l with
    | some (.amap es c) => ck (keyOkE T 12 kt k) <| ob (findE T kt k es) fun r => match r with
      | some (i, a) => ck (plainKey k) <| ck (AV.eqb k a.key) <| some (h.put l (.amap (setAt es i { key := k, val := v, born := a.born }) c))
      | none => some (h.put l (.amap (es ++ [{ key := k, val := v, born := c }]) (c + 1)))
    | _ => none
  | _, _ => none

def mapEntryE (T : Tab) (t : TypeId) (m k : AV) (h : AHeap) : Option OpR :=
  ob (T.ty.get t) fun ti =>
  match ti.desc, m with
  | .map kt e, .map l => ob (T.ty.get e) fun te => match h.get l with
    | some (.amap es c) => ck (keyOkE T 12 kt k) <| ob (findE T kt k es) fun r => match r with
      | some (i, a) => ck (plainKey k) <| ck (AV.eqb k a.key) <| okh (.tuple [a.val, .int .i64 (Int.ofNat a.born)]) (h.put l (.amap (setAt es i { key := k, val := a.val, born := a.born }) c))
      | none => okh (.tuple [te.zeroV, .int .i64 (Int.ofNat c)]) (h.put l (.amap (es ++ [{ key := k, val := te.zeroV, born := c }]) (c + 1)))
    | _ => none
  | _, _ => none

def bornE (n : Nat) : List AE → Option (Nat × AE)
  | [] => none
  | e :: es => match Nat.beq e.born n with
    | true => some (0, e)
    | false => ob (bornE n es) fun (i, a) => some (i + 1, a)

def entryStoreE (m st v : AV) (h : AHeap) : Option AHeap :=
  match m with
  | .map l => ob (natOf st) fun n => match h.get l with
    | some (.amap es c) => ob (bornE n es) fun (i, a) => some (h.put l (.amap (setAt es i { key := a.key, val := v, born := a.born }) c))
    | _ => none
  | _ => none

def rangeE (T : Tab) (t : TypeId) (x : AV) (h : AHeap) : Option OpR :=
  ob (T.ty.get t) fun ti =>
  match ti.desc, x with
  | .string, .str s => ob (newObjE (.siter s 0) h) fun (l, h') => okh (.ptr l 0) h'
  | _, _ => none

/- a string's next sign: only ASCII -/
def nextE (it : AV) (isString : Bool) (h : AHeap) : Option OpR :=
  match it, isString with
  | .ptr l 0, true => match h.get l with
    | some (.siter s pos) => match s[pos]? with
      | none => ck (Nat.ble s.length pos) <| okv (.tuple [.bool false])
      | some b => ck (Nat.blt b.toNat 128) <| okh (.tuple [.bool true, .int .i64 (Int.ofNat pos), .int .i32 (Int.ofNat b.toNat)]) (h.put l (.siter s (pos + 1)))
    | _ => none
  | _, _ => none

def lenE (T : Tab) (t : TypeId) (x : AV) (h : AHeap) : Option AV :=
  ob (T.ty.get t) fun ti =>
  match ti.desc, x with
  | .string, .str s => some (.int .i64 (Int.ofNat s.length))
  | .array n _, _ => some (.int .i64 (Int.ofNat n))
  | .slice _, .slice _ _ n _ => some (.int .i64 (Int.ofNat n))
  | .slice _, .nilslice => some (.int .i64 0)
  | .pointer a, _ => ob (T.ty.get a) fun ta => match ta.desc with
    | .array n _ => some (.int .i64 (Int.ofNat n))
    | _ => none
  | .map _ _, .nilmap => some (.int .i64 0)
  | .map _ _, .map l => match h.get l with
    | some (.amap es _) => some (.int .i64 (Int.ofNat es.length))
    | _ => none
  | _, _ => none

def capE (T : Tab) (t : TypeId) (x : AV) : Option AV :=
  ob (T.ty.get t) fun ti =>
  match ti.desc, x with
  | .slice _, .slice _ _ _ (.ex c) => some (.int .i64 (Int.ofNat c))
  | .slice _, .nilslice => some (.int .i64 0)
  | _, _ => none

/- the first n elements of what is appended or copied -/
def sourceE (es : Nat) (x : AV) (h : AHeap) : Option (Nat × List AV) :=
  match x with
  | .str s => ck (Nat.beq es 1) (some (s.length, bytesE s))
  | .nilslice => some (0, [])
  | .slice l o n _ => rowAt h l fun cs _ _ _ => ck (Nat.ble (o + n * es) cs.length) <| some (n, takeAt cs o (n * es))
  | _ => none

def appendE (T : Tab) (t xt : TypeId) (s x : AV) (h : AHeap) : Option OpR :=
  ob (T.ty.get t) fun ti => ob (T.ty.get xt) fun tx =>
  match ti.desc, tx.desc with
  | _, .int _ => none
  | .slice e, _ => ob (T.ty.get e) fun te =>
    let es := te.size
    ck (Nat.ble 1 es) <| ck (Nat.beq te.zero.length es) <| ck (allOne te.zero) <|
    ob (sourceE es x h) fun (n, new) =>
    match s with
    | .nilslice =>
      match n with
      | 0 => okv .nilslice
      | _ => ck (Nat.ble (n * te.bytes) 35184372088832) <| ck (Nat.ble 1 te.bytes) <| ob (newE new true h) fun (l, h') => okh (.slice l 0 n (.op es)) h'
    | .slice l o len cap =>
      match n with
      | 0 => okv s
      | _ =>
        match cap with
        | .ex k =>
          match Nat.ble (len + n) k with
          | true => ob (writeE l (o + len * es) new h) fun h' => okh (.slice l o (len + n) cap) h'
          | false => rowAt h l fun cs _ _ _ =>
            ck (Nat.ble (o + len * es) cs.length) <| ck (Nat.ble ((len + n) * te.bytes) 35184372088832) <| ck (Nat.ble 1 te.bytes) <|
            ob (newE (takeAt cs o (len * es) ++ new) true h) fun (l', h') => okh (.slice l' 0 (len + n) (.op es)) h'
        | .op es' => rowAt h l fun cs opn fz wr =>
          ck opn <| ck wr <| ck (Nat.beq es' es) <| ck (Nat.beq fz 0) <| ck (Nat.ble (o + len * es) cs.length) <|
          match Nat.ble (o + (len + n) * es) cs.length with
          | true => ob (writeE l (o + len * es) new h) fun h' => okh (.slice l o (len + n) cap) h'
          | false => ck (Nat.ble ((len + n) * te.bytes) 35184372088832) <| ck (Nat.ble 1 te.bytes) <|
            ob (newE (takeAt cs o (len * es) ++ new) true (h.put l .dead)) fun (l', h') => okh (.slice l' 0 (len + n) (.op es)) h'
    | _ => none
  | _, _ => none

def minE (a b : Nat) : Nat :=
  match Nat.ble a b with
  | true => a
  | false => b

def copyE (T : Tab) (t : TypeId) (d x : AV) (h : AHeap) : Option OpR :=
  ob (T.ty.get t) fun ti =>
  match ti.desc with
  | .slice e => ob (T.ty.get e) fun te => ck (Nat.ble 1 te.size) <|
    ob (sourceE te.size x h) fun (n, new) =>
    match d with
    | .nilslice => okv (.int .i64 0)
    | .slice l o len _ =>
      ob (writeE l o (new.take (minE n len * te.size)) h) fun h' => okh (.int .i64 (Int.ofNat (minE n len))) h'
    | _ => none
  | _ => none

def clearE (T : Tab) (t : TypeId) (x : AV) (h : AHeap) : Option OpR :=
  ob (T.ty.get t) fun ti =>
  match ti.desc, x with
  | .slice _, .nilslice => okv (.tuple [])
  | .slice e, .slice l o n _ => ob (T.ty.get e) fun te => ck (Nat.ble 1 te.size) <| ck (Nat.beq te.zero.length te.size) <|
    match n with
    | 0 => okv (.tuple [])
    | _ => ob (writeE l o (repE te.zero n) h) fun h' => okh (.tuple []) h'
  | _, _ => none

def minmaxE (mx : Bool) : List AV → Option AV
  | [.int k a, .int j b] => ck (kindEq k j) <| some (.int k (match mx, ltE a b with
    | true, true => b
    | true, false => a
    | false, true => a
    | false, false => b))
  | _ => none

def builtinE (T : Tab) (b : Builtin) (ats : List TypeId) (args : List AV) (h : AHeap) : Option OpR :=
  match b, ats, args with
  | .len, [t], [x] => ob (lenE T t x h) okv
  | .cap, [t], [x] => ob (capE T t x) okv
  | .append, [t, xt], [s, x] => appendE T t xt s x h
  | .copy, t :: _, [d, x] => copyE T t d x h
  | .clear, t :: _, [x] => clearE T t x h
  | .min, _, _ => ob (minmaxE false args) okv
  | .max, _, _ => ob (minmaxE true args) okv
  | _, _, _ => none

def isConstE : Operand → Bool
  | .const _ => true
  | _ => false

inductive OpX where
  | val (r : OpR)
  | call (f : FuncId) (args : List AV)

def vx (r : Option AV) : Option OpX := ob r fun v => some (.val (v, none))
def hx (r : Option OpR) : Option OpX := ob r fun x => some (.val x)
def ux (r : Option AHeap) : Option OpX := ob r fun h => some (.val (.undef, some h))

def optE (e : Env) : Option Operand → Option (Option AV)
  | none => some none
  | some x => ob (e.eval x) fun v => some (some v)

def opE (T : Tab) (env : Env) (op : Op) (h : AHeap) : Option OpX :=
  match op with
  | .move x | .assign x => vx (env.eval x)
  | .pick c a b => vx <| ob (env.eval c) fun cv => match cv with
    | .bool true => env.eval a
    | .bool false => env.eval b
    | _ => none
  | .alloc t => hx <| ob (T.ty.get t) fun ti => ck (Nat.ble 1 ti.size) <| ck (Nat.beq ti.zero.length ti.size) <| ob (newE ti.zero false h) fun (l, h') => okh (.ptr l 0) h'
  | .box _ x => hx <| ob (env.eval x) fun v => ck (Nat.ble 1 v.cells.length) <| ob (newE v.cells false h) fun (l, h') => okh (.ptr l 0) h'
  | .build t parts => vx <| ob (evalParts env parts.toList) fun ps => buildE T t ps
  | .buildSlice t len parts => hx <| ob (evalParts env parts.toList) fun ps => buildSliceE T t len ps h
  | .load t a => vx <| ob (env.eval a) fun v => match v with
    | .ptr l o => loadE T t l o h
    | _ => none
  | .store t a x => ux <| ob (env.eval a) fun v => ob (env.eval x) fun y => match v with
    | .ptr l o => storeE T t l o y h
    | _ => none
  | .nilCheck x => vx <| ob (env.eval x) fun v => match v with
    | .ptr l o => some (.ptr l o)
    | _ => none
  | .binOp op t x y _ => vx <| ob (env.eval x) fun a => ob (env.eval y) fun b => binE T (isConstE x || isConstE y) op t a b
  | .unOp op _ x => vx <| ob (env.eval x) fun a => unE op a
  | .convert s d x => hx <| ob (env.eval x) fun a => convE T s d a h
  | .makeInterface t x => vx <| ob (T.ty.get t) fun ti => ob (env.eval x) fun a => match ti.desc with
    | .interface _ => none
    | _ => some (.iface t a)
  | .makeFunc fn first captured => vx <| ob (evals env first.toList) fun a => ob (evals env captured.toList) fun b => some (.func fn a b)
  | .makeMap _ r => hx <| match r with
    | none => ob (newObjE (.amap [] 0) h) fun (l, h') => okh (.map l) h'
    | some _ => none
  | .makeSlice t l c => hx <| ob (env.eval l) fun a => ob (env.eval c) fun b => makeSliceE T t a b h
  | .slice t x lo hi mx => vx <| ob (env.eval x) fun a => ob (optE env lo) fun l => ob (optE env hi) fun g => ob (optE env mx) fun m => sliceE T t a l g m
  | .sliceToArrayPointer t x => vx <| ob (T.ty.get t) fun ti => ob (env.eval x) fun a => match ti.desc, a with
    | .array n _, .slice l o len _ => ck (Nat.ble 1 n) <| ck (Nat.ble n len) <| some (.ptr l o)
    | _, _ => none
  | .fieldAddr t x f => vx <| ob (env.eval x) fun a => fieldAddrE T t a f
  | .field t x f => vx <| ob (env.eval x) fun a => fieldE T t a f
  | .indexAddr t x i => vx <| ob (env.eval x) fun a => ob (env.eval i) fun b => indexAddrE T t a b
  | .index t x i => vx <| ob (env.eval x) fun a => ob (env.eval i) fun b => indexE T t a b
  | .lookup t m k ok => vx <| ob (env.eval m) fun a => ob (env.eval k) fun b => lookupE T t a b ok h
  | .mapEntry t m k => hx <| ob (env.eval m) fun a => ob (env.eval k) fun b => mapEntryE T t a b h
  | .entryStore _ m k v => ux <| ob (env.eval m) fun a => ob (env.eval k) fun b => ob (env.eval v) fun c => entryStoreE a b c h
  | .mapUpdate t m k v => ux <| ob (env.eval m) fun a => ob (env.eval k) fun b => ob (env.eval v) fun c => mapUpdateE T t a b c h
  | .range t x => hx <| ob (env.eval x) fun a => rangeE T t a h
  | .next it s => hx <| ob (env.eval it) fun a => nextE a s h
  | .extract t i => vx <| ob (env.eval t) fun a => match a with
    | .tuple vs => vs[i]?
    | _ => none
  | .call c =>
    match c.callee with
    | .builtin b => hx <| ob (evals env c.args.toList) fun as => builtinE T b c.argTypes.toList as h
    | .value f => ob (env.eval f) fun fv => ob (evals env c.args.toList) fun as => match fv with
      | .func (.func g) first captured => match T.ext.get g with
        | some e => ob (e (first ++ (as ++ captured)) h) fun (v, h') => some (.val (v, some h'))
        | none => some (.call g (first ++ (as ++ captured)))
      | _ => none
    | _ => none
  | _ => none

end
end Go.Ev

/-
  A small evaluator of the model's programs: one operation, each alternative by itself (for the kernel). Written by genop.py.
-/
namespace Go.Ev
open Go
noncomputable section

def op_move (env : Env) (x : Go.Operand) : Option OpX :=
  vx (env.eval x)
def op_assign (env : Env) (x : Go.Operand) : Option OpX :=
  vx (env.eval x)
def op_pick (env : Env) (c : Go.Operand) (a : Go.Operand) (b : Go.Operand) : Option OpX :=
  vx <| ob (env.eval c) fun cv => match cv with
    | .bool true => env.eval a
    | .bool false => env.eval b
    | _ => none
def op_alloc (T : Tab) (env : Env) (h : AHeap) (t : Go.TypeId) : Option OpX :=
  hx <| ob (T.ty.get t) fun ti => ck (Nat.ble 1 ti.size) <| ck (Nat.beq ti.zero.length ti.size) <| ob (newE ti.zero false h) fun (l, h') => okh (.ptr l 0) h'
def op_box (env : Env) (h : AHeap) (_ : Go.TypeId) (x : Go.Operand) : Option OpX :=
  hx <| ob (env.eval x) fun v => ck (Nat.ble 1 v.cells.length) <| ob (newE v.cells false h) fun (l, h') => okh (.ptr l 0) h'
def op_build (T : Tab) (env : Env) (t : Go.TypeId) (parts : Array (Nat × Go.Operand)) : Option OpX :=
  vx <| ob (evalParts env parts.toList) fun ps => buildE T t ps
def op_buildSlice (T : Tab) (env : Env) (h : AHeap) (t : Go.TypeId) (len : Nat) (parts : Array (Nat × Go.Operand)) : Option OpX :=
  hx <| ob (evalParts env parts.toList) fun ps => buildSliceE T t len ps h
def op_load (T : Tab) (env : Env) (h : AHeap) (t : Go.TypeId) (a : Go.Operand) : Option OpX :=
  vx <| ob (env.eval a) fun v => match v with
    | .ptr l o => loadE T t l o h
    | _ => none
def op_store (T : Tab) (env : Env) (h : AHeap) (t : Go.TypeId) (a : Go.Operand) (x : Go.Operand) : Option OpX :=
  ux <| ob (env.eval a) fun v => ob (env.eval x) fun y => match v with
    | .ptr l o => storeE T t l o y h
    | _ => none
def op_nilCheck (env : Env) (x : Go.Operand) : Option OpX :=
  vx <| ob (env.eval x) fun v => match v with
    | .ptr l o => some (.ptr l o)
    | _ => none
def op_binOp (T : Tab) (env : Env) (op : Go.BinOp) (t : Go.TypeId) (x : Go.Operand) (y : Go.Operand) (_ : Go.TypeId) : Option OpX :=
  vx <| ob (env.eval x) fun a => ob (env.eval y) fun b => binE T (isConstE x || isConstE y) op t a b
def op_unOp (env : Env) (op : Go.UnOp) (_ : Go.TypeId) (x : Go.Operand) : Option OpX :=
  vx <| ob (env.eval x) fun a => unE op a
def op_convert (T : Tab) (env : Env) (h : AHeap) (s : Go.TypeId) (d : Go.TypeId) (x : Go.Operand) : Option OpX :=
  hx <| ob (env.eval x) fun a => convE T s d a h
def op_sliceToArrayPointer (T : Tab) (env : Env) (t : Go.TypeId) (x : Go.Operand) : Option OpX :=
  vx <| ob (T.ty.get t) fun ti => ob (env.eval x) fun a => match ti.desc, a with
    | .array n _, .slice l o len _ => ck (Nat.ble 1 n) <| ck (Nat.ble n len) <| some (.ptr l o)
    | _, _ => none
def op_makeInterface (T : Tab) (env : Env) (t : Go.TypeId) (x : Go.Operand) : Option OpX :=
  vx <| ob (T.ty.get t) fun ti => ob (env.eval x) fun a => match ti.desc with
    | .interface _ => none
    | _ => some (.iface t a)
def op_makeFunc (env : Env) (fn : Go.Fn) (first : Array Go.Operand) (captured : Array Go.Operand) : Option OpX :=
  vx <| ob (evals env first.toList) fun a => ob (evals env captured.toList) fun b => some (.func fn a b)
def op_makeMap (env : Env) (h : AHeap) (_ : Go.TypeId) (r : Option Go.Operand) : Option OpX :=
  hx <| match r with
    | none => ob (newObjE (.amap [] 0) h) fun (l, h') => okh (.map l) h'
    | some _ => none
def op_makeSlice (T : Tab) (env : Env) (h : AHeap) (t : Go.TypeId) (l : Go.Operand) (c : Go.Operand) : Option OpX :=
  hx <| ob (env.eval l) fun a => ob (env.eval c) fun b => makeSliceE T t a b h
def op_slice (T : Tab) (env : Env) (t : Go.TypeId) (x : Go.Operand) (lo : Option Go.Operand) (hi : Option Go.Operand) (mx : Option Go.Operand) : Option OpX :=
  vx <| ob (env.eval x) fun a => ob (optE env lo) fun l => ob (optE env hi) fun g => ob (optE env mx) fun m => sliceE T t a l g m
def op_fieldAddr (T : Tab) (env : Env) (t : Go.TypeId) (x : Go.Operand) (f : Nat) : Option OpX :=
  vx <| ob (env.eval x) fun a => fieldAddrE T t a f
def op_field (T : Tab) (env : Env) (t : Go.TypeId) (x : Go.Operand) (f : Nat) : Option OpX :=
  vx <| ob (env.eval x) fun a => fieldE T t a f
def op_indexAddr (T : Tab) (env : Env) (t : Go.TypeId) (x : Go.Operand) (i : Go.Operand) : Option OpX :=
  vx <| ob (env.eval x) fun a => ob (env.eval i) fun b => indexAddrE T t a b
def op_index (T : Tab) (env : Env) (t : Go.TypeId) (x : Go.Operand) (i : Go.Operand) : Option OpX :=
  vx <| ob (env.eval x) fun a => ob (env.eval i) fun b => indexE T t a b
def op_lookup (T : Tab) (env : Env) (h : AHeap) (t : Go.TypeId) (m : Go.Operand) (k : Go.Operand) (ok : Bool) : Option OpX :=
  vx <| ob (env.eval m) fun a => ob (env.eval k) fun b => lookupE T t a b ok h
def op_mapUpdate (T : Tab) (env : Env) (h : AHeap) (t : Go.TypeId) (m : Go.Operand) (k : Go.Operand) (v : Go.Operand) : Option OpX :=
  ux <| ob (env.eval m) fun a => ob (env.eval k) fun b => ob (env.eval v) fun c => mapUpdateE T t a b c h
def op_mapEntry (T : Tab) (env : Env) (h : AHeap) (t : Go.TypeId) (m : Go.Operand) (k : Go.Operand) : Option OpX :=
  hx <| ob (env.eval m) fun a => ob (env.eval k) fun b => mapEntryE T t a b h
def op_entryStore (env : Env) (h : AHeap) (_ : Go.TypeId) (m : Go.Operand) (k : Go.Operand) (v : Go.Operand) : Option OpX :=
  ux <| ob (env.eval m) fun a => ob (env.eval k) fun b => ob (env.eval v) fun c => entryStoreE a b c h
def op_range (T : Tab) (env : Env) (h : AHeap) (t : Go.TypeId) (x : Go.Operand) : Option OpX :=
  hx <| ob (env.eval x) fun a => rangeE T t a h
def op_next (env : Env) (h : AHeap) (it : Go.Operand) (s : Bool) : Option OpX :=
  hx <| ob (env.eval it) fun a => nextE a s h
def op_extract (env : Env) (t : Go.Operand) (i : Nat) : Option OpX :=
  vx <| ob (env.eval t) fun a => match a with
    | .tuple vs => vs[i]?
    | _ => none
def op_call (T : Tab) (env : Env) (h : AHeap) (c : Go.Call) : Option OpX :=
  
    match c.callee with
    | .builtin b => hx <| ob (evals env c.args.toList) fun as => builtinE T b c.argTypes.toList as h
    | .value f => ob (env.eval f) fun fv => ob (evals env c.args.toList) fun as => match fv with
      | .func (.func g) first captured => match T.ext.get g with
        | some e => ob (e (first ++ (as ++ captured)) h) fun (v, h') => some (.val (v, some h'))
        | none => some (.call g (first ++ (as ++ captured)))
      | _ => none
    | _ => none

def opF (T : Tab) (env : Env) (op : Op) (h : AHeap) : Option OpX :=
  Op.rec (motive := fun _ => Option OpX) (op_move env) (op_assign env) (op_pick env) (op_alloc T env h) (op_box env h) (op_build T env) (op_buildSlice T env h) (fun _ _ _ _ => none) (op_load T env h) (op_store T env h) (fun _ => none) (fun _ => none) (op_nilCheck env) (op_binOp T env) (op_unOp env) (op_convert T env h) (op_sliceToArrayPointer T env) (op_makeInterface T env) (op_makeFunc env) (op_makeMap env h) (fun _ _ => none) (op_makeSlice T env h) (op_slice T env) (op_fieldAddr T env) (op_field T env) (op_indexAddr T env) (op_index T env) (op_lookup T env h) (op_mapUpdate T env h) (op_mapEntry T env h) (op_entryStore env h) (op_range T env h) (op_next env h) (fun _ => none) (fun _ _ _ _ => none) (op_extract env) (op_call T env h) (fun _ => none) (fun _ => none) (fun _ => none) (fun _ _ => none) (fun _ _ _ => none) (fun _ _ => none) op
theorem opF_eq (T : Tab) (env : Env) (op : Op) (h : AHeap) : opF T env op h = opE T env op h := by cases op <;> rfl

end
end Go.Ev

/-
  A small evaluator of the model's programs: one operation, regions of a fixed order.
-/
namespace Go.Ev
open Go
noncomputable section

abbrev CallF := FuncId → List AV → AHeap → Option (AV × AHeap)

/- does a guard let the operation run? -/
def yieldE (ops : List Oper) (env : Env) (j : Nat) : Option Bool :=
  match ops[j]? with
  | some o => match o.dst with
    | some d => match Nat.blt d env.size, env.get d with
      | true, some (.bool b) => some b
      | _, _ => none
    | none => none
  | none => none

/- is what the guard looks at known? -/
def knownE (ops : List Oper) (env : Env) (o : Oper) : Bool :=
  match o.guard with
  | none => true
  | some (j, _) => match ops[j]? with
    | none => true
    | some p => match p.dst with
      | none => true
      | some d => match Nat.blt d env.size, env.get d with
        | true, none => false
        | _, _ => true

def wantE (ops : List Oper) (env : Env) (o : Oper) : Bool :=
  match o.guard with
  | none => true
  | some (j, want) => match yieldE ops env j with
    | some b => b == want
    | none => false

/- one operation that is wanted: its value; the memory, where it may have been turned -/
def doE (T : Tab) (cf : CallF) (env : Env) (op : Op) (h : AHeap) : Option OpR :=
  match opF T env op h with
  | some (.val r) => some r
  | some (.call f args) => match T.pur.get f with
    | some p => ob (p args h) fun v => some (v, none)
    | none => ob (cf f args h) fun (v, h') => some (v, some h')
  | none => none

def AHeap.or (o : Option AHeap) (h : AHeap) : AHeap :=
  match o with
  | some h' => h'
  | none => h

def opsE (T : Tab) (cf : CallF) (ops : List Oper) : List Oper → Env → AHeap → Option (Env × AHeap)
  | [], env, h => some (env, h)
  | o :: rest, env, h => ck (knownE ops env o) <|
    match wantE ops env o with
    | true => ob (doE T cf env o.op h) fun (v, h') =>
      match h' with
      | some h1 => opsE T cf ops rest (env.put o.dst v) h1
      | none => opsE T cf ops rest (env.put o.dst v) h
    | false => opsE T cf ops rest (env.put o.dst .undef) h

def opsR (T : Tab) (cf : CallF) (ops : List Oper) (l : List Oper) : Env → AHeap → Option (Env × AHeap) :=
  List.rec (motive := fun _ => Env → AHeap → Option (Env × AHeap)) (fun env h => some (env, h))
    (fun o _ rc env h => Bool.rec (motive := fun _ => Option (Env × AHeap)) none (Bool.rec (motive := fun _ => Option (Env × AHeap)) (rc (env.put o.dst .undef) h)
      (Option.rec (motive := fun _ => Option (Env × AHeap)) none (fun x => Prod.rec (motive := fun _ => Option (Env × AHeap)) (fun v h' => Option.rec (motive := fun _ => Option (Env × AHeap)) (rc (env.put o.dst v) h) (fun h1 => rc (env.put o.dst v) h1) h') x) (doE T cf env o.op h)) (wantE ops env o)) (knownE ops env o)) l

theorem opsR_eq (T : Tab) (cf : CallF) (ops : List Oper) : ∀ (l : List Oper) (env : Env) (h : AHeap), opsR T cf ops l env h = opsE T cf ops l env h
  | [], _, _ => rfl
  | o :: rest, env, h => by
    have ih := opsR_eq T cf ops rest
    show Bool.rec (motive := fun _ => Option (Env × AHeap)) none (Bool.rec (motive := fun _ => Option (Env × AHeap)) (opsR T cf ops rest (env.put o.dst .undef) h)
      (Option.rec (motive := fun _ => Option (Env × AHeap)) none (fun x => Prod.rec (motive := fun _ => Option (Env × AHeap)) (fun v h' => Option.rec (motive := fun _ => Option (Env × AHeap)) (opsR T cf ops rest (env.put o.dst v) h) (fun h1 => opsR T cf ops rest (env.put o.dst v) h1) h') x) (doE T cf env o.op h)) (wantE ops env o)) (knownE ops env o) = _
    unfold opsE
    cases knownE ops env o with
    | false => rfl
    | true =>
    dsimp only [ck]
    cases wantE ops env o with
    | false => exact ih _ _
    | true =>
      cases doE T cf env o.op h with
      | none => rfl
      | some x =>
        obtain ⟨v, h'⟩ := x
        cases h' with
        | none => exact ih _ _
        | some h1 => exact ih _ _

end
end Go.Ev

/-
  A small evaluator of the model's programs: what its values and its memory stand for in a world.
-/
namespace Go.Ev
open Go Go.RowKit

structure Pl where
  b : Nat
  base : Nat
  n : Nat

abbrev Phi := Nat → Option Pl

mutual
def VR (φ : Phi) : AV → Value → Prop
  | .bool b, v => v = .bool b
  | .int k n, v => v = .int k n
  | .str s, v => v = .string ⟨s.toArray⟩
  | .ptr l o, v => ∃ p, φ l = some p ∧ v = .pointer (some ⟨p.b, p.base + o, none⟩)
  | .nilptr, v => v = .pointer none
  | .slice l o len cap, v => ∃ p a c, φ l = some p ∧ v = .slice (some a) len c ∧ len ≤ c ∧ (0 < c → a = ⟨p.b, p.base + o, none⟩) ∧
      (match cap with
       | .ex k => c = k
       | .op es => p.base + o + c * es = p.n)
  | .nilslice, v => v = .slice none 0 0
  | .map l, v => ∃ p, φ l = some p ∧ v = .map (some p.b)
  | .nilmap, v => v = .map none
  | .func fn f c, v => ∃ f' c', v = .func fn (List.toArray f') (List.toArray c') ∧ VRs φ f f' ∧ VRs φ c c'
  | .nilFunc, v => v = .nilFunc
  | .iface t x, v => ∃ y, v = .iface t y ∧ VR φ x y
  | .nilIface, v => v = .nilIface
  | .agg cs, v => ∃ vs, v = .agg (List.toArray vs) ∧ VRs φ cs vs
  | .tuple cs, v => ∃ vs, v = .tuple (List.toArray vs) ∧ VRs φ cs vs
def VRs (φ : Phi) : List AV → List Value → Prop
  | [], vs => vs = []
  | a :: as, vs => ∃ v rest, vs = v :: rest ∧ VR φ a v ∧ VRs φ as rest
end

def Phi.le (φ ψ : Phi) : Prop := ∀ l p, φ l = some p → ψ l = some p
theorem Phi.le_refl (φ : Phi) : φ.le φ := fun _ _ h => h
theorem Phi.le_trans {φ ψ χ : Phi} (h : φ.le ψ) (k : ψ.le χ) : φ.le χ := fun l p e => k l p (h l p e)

mutual
theorem VR.mono {φ ψ : Phi} (hle : φ.le ψ) : ∀ (a : AV) (v : Value), VR φ a v → VR ψ a v
  | .bool _, _, h => by simpa [VR] using h
  | .int _ _, _, h => by simpa [VR] using h
  | .str _, _, h => by simpa [VR] using h
  | .ptr _ _, _, h => by simp only [VR] at h ⊢; obtain ⟨p, hp, e⟩ := h; exact ⟨p, hle _ _ hp, e⟩
  | .nilptr, _, h => by simpa [VR] using h
  | .slice _ _ _ _, _, h => by simp only [VR] at h ⊢; obtain ⟨p, a, c, hp, e⟩ := h; exact ⟨p, a, c, hle _ _ hp, e⟩
  | .nilslice, _, h => by simpa [VR] using h
  | .map _, _, h => by simp only [VR] at h ⊢; obtain ⟨p, hp, e⟩ := h; exact ⟨p, hle _ _ hp, e⟩
  | .nilmap, _, h => by simpa [VR] using h
  | .func _ f c, _, h => by
    simp only [VR] at h ⊢; obtain ⟨f', c', e, h1, h2⟩ := h; exact ⟨f', c', e, VRs.mono hle f f' h1, VRs.mono hle c c' h2⟩
  | .nilFunc, _, h => by simpa [VR] using h
  | .iface _ x, _, h => by simp only [VR] at h ⊢; obtain ⟨y, e, h1⟩ := h; exact ⟨y, e, VR.mono hle x y h1⟩
  | .nilIface, _, h => by simpa [VR] using h
  | .agg cs, _, h => by simp only [VR] at h ⊢; obtain ⟨y, e, h1⟩ := h; exact ⟨y, e, VRs.mono hle cs y h1⟩
  | .tuple cs, _, h => by simp only [VR] at h ⊢; obtain ⟨y, e, h1⟩ := h; exact ⟨y, e, VRs.mono hle cs y h1⟩
theorem VRs.mono {φ ψ : Phi} (hle : φ.le ψ) : ∀ (a : List AV) (v : List Value), VRs φ a v → VRs ψ a v
  | [], _, h => by simpa [VRs] using h
  | a :: as, _, h => by simp only [VRs] at h ⊢; obtain ⟨v, r, e, h1, h2⟩ := h; exact ⟨v, r, e, VR.mono hle a v h1, VRs.mono hle as r h2⟩
end

theorem VRs.nil {φ : Phi} : VRs φ [] [] := by simp [VRs]
theorem VRs.cons {φ : Phi} {a : AV} {as : List AV} {v : Value} {vs : List Value} (h : VR φ a v) (hs : VRs φ as vs) : VRs φ (a :: as) (v :: vs) := by
  simp only [VRs]; exact ⟨v, vs, rfl, h, hs⟩
theorem VRs.cons_iff {φ : Phi} {a : AV} {as : List AV} {v : Value} {vs : List Value} : VRs φ (a :: as) (v :: vs) ↔ VR φ a v ∧ VRs φ as vs := by
  constructor
  · intro h; simp only [VRs] at h; obtain ⟨x, r, e, h1, h2⟩ := h; cases e; exact ⟨h1, h2⟩
  · exact fun h => VRs.cons h.1 h.2
theorem VRs.length {φ : Phi} : ∀ {as : List AV} {vs : List Value}, VRs φ as vs → vs.length = as.length
  | [], _, h => by simp only [VRs] at h; subst h; rfl
  | a :: as, _, h => by simp only [VRs] at h; obtain ⟨v, r, rfl, _, h2⟩ := h; simp [VRs.length h2]
theorem VRs.get {φ : Phi} : ∀ {as : List AV} {vs : List Value}, VRs φ as vs → ∀ (i : Nat) (a : AV), as[i]? = some a → ∃ v, vs[i]? = some v ∧ VR φ a v
  | [], _, _, i, a, e => by simp at e
  | b :: bs, _, h, i, a, e => by
    simp only [VRs] at h; obtain ⟨v, r, rfl, h1, h2⟩ := h
    cases i with
    | zero => simp at e; subst e; exact ⟨v, by simp, h1⟩
    | succ i => simp at e; obtain ⟨x, hx, hr⟩ := VRs.get h2 i a e; exact ⟨x, by simpa using hx, hr⟩
theorem VRs.of_get {φ : Phi} : ∀ {as : List AV} {vs : List Value}, vs.length = as.length → (∀ (i : Nat) (a : AV), as[i]? = some a → ∃ v, vs[i]? = some v ∧ VR φ a v) → VRs φ as vs
  | [], vs, e, _ => by simp only [VRs]; simpa using e
  | a :: as, [], e, _ => by simp at e
  | a :: as, v :: vs, e, h => by
    refine VRs.cons ?_ (VRs.of_get (by simpa using e) fun i b hb => ?_)
    · obtain ⟨x, hx, hr⟩ := h 0 a (by simp); simp at hx; subst hx; exact hr
    · obtain ⟨x, hx, hr⟩ := h (i + 1) b (by simpa using hb); exact ⟨x, by simpa using hx, hr⟩
theorem VRs.append {φ : Phi} : ∀ {as bs : List AV} {vs us : List Value}, VRs φ as vs → VRs φ bs us → VRs φ (as ++ bs) (vs ++ us)
  | [], bs, vs, us, h, k => by simp only [VRs] at h; subst h; simpa using k
  | a :: as, bs, vs, us, h, k => by
    simp only [VRs] at h; obtain ⟨v, r, rfl, h1, h2⟩ := h
    exact VRs.cons h1 (VRs.append h2 k)
theorem VRs.take {φ : Phi} : ∀ (n : Nat) {as : List AV} {vs : List Value}, VRs φ as vs → VRs φ (as.take n) (vs.take n)
  | 0, _, _, _ => by simp [VRs]
  | n + 1, [], _, h => by simp only [VRs] at h; subst h; simp [VRs]
  | n + 1, a :: as, _, h => by
    simp only [VRs] at h; obtain ⟨v, r, rfl, h1, h2⟩ := h
    simpa using VRs.cons h1 (VRs.take n h2)
theorem VRs.drop {φ : Phi} : ∀ (n : Nat) {as : List AV} {vs : List Value}, VRs φ as vs → VRs φ (as.drop n) (vs.drop n)
  | 0, _, _, h => by simpa using h
  | n + 1, [], _, h => by simp only [VRs] at h; subst h; simp [VRs]
  | n + 1, a :: as, _, h => by
    simp only [VRs] at h; obtain ⟨v, r, rfl, h1, h2⟩ := h
    simpa using VRs.drop n h2
theorem VRs.splice {φ : Phi} {as bs : List AV} {vs us : List Value} (o : Nat) (h : VRs φ as vs) (k : VRs φ bs us) :
    VRs φ (spliceE as o bs) (vs.take o ++ (us ++ vs.drop (o + us.length))) := by
  unfold spliceE
  rw [k.length]
  exact (h.take o).append (k.append (h.drop _))
theorem VRs.rep {φ : Phi} {z : List AV} {zs : List Value} (h : VRs φ z zs) : ∀ n, VRs φ (repE z n) ((List.replicate n zs).flatten)
  | 0 => by simp [repE, VRs]
  | n + 1 => by simpa [repE, List.replicate_succ] using h.append (VRs.rep h n)

/- a value's cells -/
theorem VR.cells {φ : Phi} {a : AV} {v : Value} (h : VR φ a v) : VRs φ a.cells v.cells.toList := by
  cases a <;> simp only [VR] at h <;> simp only [AV.cells]
  case agg cs => obtain ⟨vs, rfl, h⟩ := h; simpa [Value.cells] using h
  case tuple cs => obtain ⟨vs, rfl, h⟩ := h; simp only [Value.cells]; exact VRs.cons (by simp only [VR]; exact ⟨vs, rfl, h⟩) VRs.nil
  case ptr l o => obtain ⟨p, hp, rfl⟩ := h; simp only [Value.cells]; exact VRs.cons (by simp only [VR]; exact ⟨p, hp, rfl⟩) VRs.nil
  case slice l o n c => obtain ⟨p, a, k, hp, rfl, h⟩ := h; simp only [Value.cells]; exact VRs.cons (by simp only [VR]; exact ⟨p, a, k, hp, rfl, h⟩) VRs.nil
  case map l => obtain ⟨p, hp, rfl⟩ := h; simp only [Value.cells]; exact VRs.cons (by simp only [VR]; exact ⟨p, hp, rfl⟩) VRs.nil
  case func fn f c => obtain ⟨f', c', rfl, h⟩ := h; simp only [Value.cells]; exact VRs.cons (by simp only [VR]; exact ⟨f', c', rfl, h⟩) VRs.nil
  case iface t x => obtain ⟨y, rfl, h⟩ := h; simp only [Value.cells]; exact VRs.cons (by simp only [VR]; exact ⟨y, rfl, h⟩) VRs.nil
  all_goals (subst h; simp only [Value.cells]; exact VRs.cons (by simp [VR]) VRs.nil)

theorem VR.one {φ : Phi} {a : AV} {v : Value} (h : VR φ a v) (ho : a.oneCell = true) : v.oneCell' = true := by
  cases a <;> simp only [VR] at h <;> simp only [AV.oneCell] at ho <;> first
    | (subst h; rfl)
    | (obtain ⟨_, _, rfl⟩ := h; rfl)
    | (obtain ⟨_, _, _, _, rfl, _⟩ := h; rfl)
    | (obtain ⟨_, _, rfl, _⟩ := h; rfl)
    | (obtain ⟨_, rfl, _⟩ := h; rfl)
    | (exact absurd ho (by decide))

/- objects -/
def AObj.live : AObj → Bool
  | .dead => false
  | _ => true
def AObj.wr : AObj → Bool
  | .row _ _ _ w => w
  | .dead => false
  | _ => true

def ERs (φ : Phi) : List AE → List MapEntry → Prop
  | [], es => es = []
  | a :: r, es => ∃ e rest, es = e :: rest ∧ VR φ a.key e.key ∧ VR φ a.val e.val ∧ e.born = a.born ∧ ERs φ r rest

theorem ERs.mono {φ ψ : Phi} (hle : φ.le ψ) : ∀ (a : List AE) (es : List MapEntry), ERs φ a es → ERs ψ a es
  | [], _, h => by simpa [ERs] using h
  | a :: r, _, h => by
    simp only [ERs] at h ⊢; obtain ⟨e, rest, he, h1, h2, hb, h3⟩ := h
    exact ⟨e, rest, he, VR.mono hle _ _ h1, VR.mono hle _ _ h2, hb, ERs.mono hle r rest h3⟩

def ObjR (φ : Phi) (w : World) (p : Pl) : AObj → Prop
  | .row cs _ fz _ => ∃ cells el lo hi, w.heap[p.b]? = some (.cells cells el (lo, hi)) ∧ cells.size = p.n ∧ p.base + cs.length ≤ p.n ∧
      (∀ i a, cs[i]? = some a → ∃ v, cells[p.base + i]? = some v ∧ VR φ a v) ∧ (∀ i, p.base + fz ≤ i → i < p.n → ¬ (lo ≤ i ∧ i < hi))
  | .amap es clock => ∃ entries, w.heap[p.b]? = some (.map entries clock) ∧ ERs φ es entries.toList
  | .siter s pos => p.base = 0 ∧ w.heap[p.b]? = some (.stringIter ⟨s.toArray⟩ pos)
  | .dead => True

theorem AObj.live_of_wr {o : AObj} (h : o.wr = true) : o.live = true := by cases o <;> simp_all [AObj.live, AObj.wr]

theorem ObjR.mono {φ ψ : Phi} (hle : φ.le ψ) {w : World} {p : Pl} : ∀ {o : AObj}, ObjR φ w p o → ObjR ψ w p o
  | .row _ _ _ _, h => by
    obtain ⟨cells, el, lo, hi, h1, h2, h4, h5, h6⟩ := h
    exact ⟨cells, el, lo, hi, h1, h2, h4, fun i a e => let ⟨v, hv, hr⟩ := h5 i a e; ⟨v, hv, VR.mono hle _ _ hr⟩, h6⟩
  | .amap _ _, h => by obtain ⟨es, h1, h2⟩ := h; exact ⟨es, h1, ERs.mono hle _ _ h2⟩
  | .siter _ _, h => h
  | .dead, _ => trivial

theorem ObjR.heap {φ : Phi} {w w' : World} {p : Pl} : ∀ {o : AObj}, (o.live = true → w'.heap[p.b]? = w.heap[p.b]?) → ObjR φ w p o → ObjR φ w' p o
  | .row _ _ _ _, he, h => by
    obtain ⟨cells, el, lo, hi, h1, h2⟩ := h
    exact ⟨cells, el, lo, hi, by rw [he rfl]; exact h1, h2⟩
  | .amap _ _, he, h => by obtain ⟨es, h1, h2⟩ := h; exact ⟨es, by rw [he rfl]; exact h1, h2⟩
  | .siter _ _, he, h => by unfold ObjR at h ⊢; rw [he rfl]; exact h
  | .dead, _, _ => trivial

structure Sim (B : Nat) (W : World) (φ : Phi) (h : AHeap) (w : World) : Prop where
  below : Below B W w
  dom : ∀ l, h.get l = none ↔ φ l = none
  nxt : ∀ l, h.next ≤ l → φ l = none
  room : h.next ≤ PT.room
  obj : ∀ l o p, h.get l = some o → φ l = some p → ObjR φ w p o
  lt : ∀ l p, φ l = some p → p.b < w.heap.size
  sep : ∀ l l' o o' p p', l ≠ l' → h.get l = some o → o.wr = true → h.get l' = some o' → o'.live = true → φ l = some p → φ l' = some p' → p.b ≠ p'.b
  own : ∀ l o p, h.get l = some o → o.wr = true → φ l = some p → B ≤ p.b
  base : B ≤ w.heap.size

variable {B : Nat} {W w : World} {φ : Phi} {h : AHeap}

theorem Sim.bound (s : Sim B W φ h w) {l : Nat} {p : Pl} (e : φ l = some p) : l < PT.room := by
  rcases Nat.lt_or_ge l h.next with hl | hl
  · exact Nat.lt_of_lt_of_le hl s.room
  · have := s.nxt l hl; rw [this] at e; cases e

theorem Sim.place (s : Sim B W φ h w) {l : Nat} {o : AObj} (e : h.get l = some o) : ∃ p, φ l = some p := by
  cases hp : φ l with
  | some p => exact ⟨p, rfl⟩
  | none => have := (s.dom l).2 hp; rw [this] at e; cases e

theorem AHeap.get_put {h : AHeap} {l : Nat} (hl : l < PT.room) (o : AObj) (j : Nat) : (h.put l o).get j = if j = l then some o else h.get j := by
  unfold AHeap.put AHeap.get
  exact PT.get_set _ _ _ _ hl

theorem AHeap.get_push {h : AHeap} (hl : h.next < PT.room) (o : AObj) (j : Nat) : (h.push o).get j = if j = h.next then some o else h.get j := by
  unfold AHeap.push AHeap.get
  exact PT.get_set _ _ _ _ hl

/- one block has been turned, and the object that stands there -/
theorem Sim.turn (s : Sim B W φ h w) {w' : World} {l : Nat} {o o' : AObj} {p : Pl} (e : h.get l = some o) (hw : o.wr = true) (hp : φ l = some p)
    (hos : w'.os = w.os) (ht : w'.tape = w.tape) (hout : w'.output = w.output) (hsz : w'.heap.size = w.heap.size) (hk : ∀ k, k ≠ p.b → w'.heap[k]? = w.heap[k]?)
    (ho : ObjR φ w' p o') : Sim B W φ (h.put l o') w' := by
  have hl := s.bound hp
  have hB := s.own l o p e hw hp
  have hlive : o.live = true := by cases o <;> simp_all [AObj.live, AObj.wr]
  refine ⟨⟨hos.trans s.below.os, ht.trans s.below.tape, hout.trans s.below.output, by rw [hsz]; exact s.below.size, fun k hk' => (hk k (by omega)).trans (s.below.block k hk')⟩, ?_, s.nxt, s.room, ?_, ?_, ?_, ?_, by rw [hsz]; exact s.base⟩
  · intro j
    rw [AHeap.get_put hl]
    by_cases hj : j = l
    · subst hj; rw [if_pos rfl]; simp [hp]
    · rw [if_neg hj]; exact s.dom j
  · intro j oj pj ej hpj
    rw [AHeap.get_put hl] at ej
    by_cases hj : j = l
    · subst hj; rw [if_pos rfl] at ej; rw [hp] at hpj; cases ej; cases hpj; exact ho
    · rw [if_neg hj] at ej
      exact (s.obj j oj pj ej hpj).heap fun hlj => hk _ fun hb => s.sep l j o oj p pj (Ne.symm hj) e hw ej hlj hp hpj hb.symm
  · intro j pj hpj; rw [hsz]; exact s.lt j pj hpj
  · intro j j' oj oj' pj pj' hne ej hlj ej' hlj' hpj hpj'
    rw [AHeap.get_put hl] at ej ej'
    by_cases hj : j = l
    · subst hj
      rw [if_neg (fun x => hne x.symm)] at ej'
      exact s.sep j j' o oj' pj pj' hne e hw ej' hlj' hpj hpj'
    · rw [if_neg hj] at ej
      by_cases hj' : j' = l
      · subst hj'
        exact s.sep j j' oj o pj pj' hne ej hlj e hlive hpj hpj'
      · rw [if_neg hj'] at ej'
        exact s.sep j j' oj oj' pj pj' hne ej hlj ej' hlj' hpj hpj'
  · intro j oj pj ej hwj hpj
    rw [AHeap.get_put hl] at ej
    by_cases hj : j = l
    · subst hj; rw [hp] at hpj; cases hpj; exact hB
    · rw [if_neg hj] at ej; exact s.own j oj pj ej hwj hpj

def Phi.add (φ : Phi) (l : Nat) (p : Pl) : Phi := fun j => if j = l then some p else φ j
theorem Phi.add_same (φ : Phi) (l : Nat) (p : Pl) : φ.add l p l = some p := by simp [Phi.add]
theorem Phi.add_ne (φ : Phi) {l j : Nat} (p : Pl) (h : j ≠ l) : φ.add l p j = φ j := by simp [Phi.add, h]
theorem Phi.le_add {φ : Phi} {l : Nat} (p : Pl) (h : φ l = none) : φ.le (φ.add l p) := by
  intro j q e
  by_cases hj : j = l
  · subst hj; rw [h] at e; cases e
  · rw [Phi.add_ne φ p hj]; exact e

theorem Sim.fresh (s : Sim B W φ h w) : φ h.next = none := s.nxt _ (Nat.le_refl _)

/- a new object in a new block -/
theorem Sim.grow (s : Sim B W φ h w) {w' : World} {o : AObj} {p : Pl} (hn : h.next < PT.room)
    (hos : w'.os = w.os) (ht : w'.tape = w.tape) (hout : w'.output = w.output) (hsz : w'.heap.size = w.heap.size + 1) (hk : ∀ k, k < w.heap.size → w'.heap[k]? = w.heap[k]?)
    (hb : p.b = w.heap.size) (ho : ObjR (φ.add h.next p) w' p o) : Sim B W (φ.add h.next p) (h.push o) w' := by
  have hf := s.fresh
  have hle := Phi.le_add p hf
  have key : ∀ j oj pj, j ≠ h.next → h.get j = some oj → φ j = some pj → pj.b < w.heap.size := fun j oj pj _ _ hpj => s.lt j pj hpj
  refine ⟨⟨hos.trans s.below.os, ht.trans s.below.tape, hout.trans s.below.output, by rw [hsz]; exact Nat.le_succ_of_le s.below.size, fun k hk' => (hk k (Nat.lt_of_lt_of_le hk' s.base)).trans (s.below.block k hk')⟩, ?_, ?_, ?_, ?_, ?_, ?_, ?_, by rw [hsz]; exact Nat.le_succ_of_le s.base⟩
  · intro j
    rw [AHeap.get_push hn]
    by_cases hj : j = h.next
    · subst hj; rw [if_pos rfl, Phi.add_same]; simp
    · rw [if_neg hj, Phi.add_ne φ p hj]; exact s.dom j
  · intro j hj
    have hj' : h.next + 1 ≤ j := hj
    rw [Phi.add_ne φ p (by omega)]; exact s.nxt j (by omega)
  · show h.next + 1 ≤ PT.room; omega
  · intro j oj pj ej hpj
    rw [AHeap.get_push hn] at ej
    by_cases hj : j = h.next
    · subst hj; rw [if_pos rfl] at ej; rw [Phi.add_same] at hpj; cases ej; cases hpj; exact ho
    · rw [if_neg hj] at ej; rw [Phi.add_ne φ p hj] at hpj
      exact ((s.obj j oj pj ej hpj).mono hle).heap fun _ => hk _ (s.lt j pj hpj)
  · intro j pj hpj
    rw [hsz]
    by_cases hj : j = h.next
    · subst hj; rw [Phi.add_same] at hpj; cases hpj; omega
    · rw [Phi.add_ne φ p hj] at hpj; have := s.lt j pj hpj; omega
  · intro j j' oj oj' pj pj' hne ej hlj ej' hlj' hpj hpj'
    rw [AHeap.get_push hn] at ej ej'
    by_cases hj : j = h.next
    · subst hj
      rw [if_neg (fun x => hne x.symm)] at ej'
      rw [Phi.add_ne φ p (fun x => hne x.symm)] at hpj'
      rw [Phi.add_same] at hpj; cases hpj
      have := s.lt j' pj' hpj'; omega
    · rw [if_neg hj] at ej; rw [Phi.add_ne φ p hj] at hpj
      by_cases hj' : j' = h.next
      · subst hj'
        rw [Phi.add_same] at hpj'; cases hpj'
        have := s.lt j pj hpj; omega
      · rw [if_neg hj'] at ej'; rw [Phi.add_ne φ p hj'] at hpj'
        exact s.sep j j' oj oj' pj pj' hne ej hlj ej' hlj' hpj hpj'
  · intro j oj pj ej hwj hpj
    rw [AHeap.get_push hn] at ej
    by_cases hj : j = h.next
    · subst hj; rw [Phi.add_same] at hpj; cases hpj; rw [hb]; exact s.base
    · rw [if_neg hj] at ej; rw [Phi.add_ne φ p hj] at hpj; exact s.own j oj pj ej hwj hpj

/- only the count of draws has moved -/
theorem Sim.drew (s : Sim B W φ h w) (n : Nat) : Sim B W φ h { w with drawn := n } :=
  ⟨⟨s.below.os, s.below.tape, s.below.output, s.below.size, s.below.block⟩, s.dom, s.nxt, s.room, fun l o p e hp => (s.obj l o p e hp).heap fun _ => rfl, s.lt, s.sep, s.own, s.base⟩

/- an object is given up; another stands in its block, or in a new one -/
theorem Sim.kill (s : Sim B W φ h w) {l : Nat} {o : AObj} {p : Pl} (e : h.get l = some o) (hw : o.wr = true) (hp : φ l = some p) : Sim B W φ (h.put l .dead) w :=
  s.turn e hw hp rfl rfl rfl rfl (fun _ _ => rfl) trivial

end Go.Ev

/-
  A small evaluator of the model's programs: its operations on memory hold in the model.
-/
namespace Go.Ev
open Go Go.RowKit

def TypeDesc.isAgg : TypeDesc → Bool
  | .struct _ | .array _ _ => true
  | _ => false

structure TiOk (P : Program) (t : TypeId) (ti : Ti) : Prop where
  und : P.underlying t = some ti.desc
  inf : ∃ i z, P.info? t = some i ∧ i.size = ti.size ∧ i.bytes = ti.bytes ∧ i.zero = some z ∧ ∀ φ, VR φ ti.zeroV z
  zer : ti.zeroV.cells = ti.zero
  agg : TypeDesc.isAgg ti.desc = ti.agg
  eqs : ti.eqs = true → P.eqGuardType P.depth t = false ∧ P.stoodInHeld t = false

structure TabOk (P : Program) (T : Tab) : Prop where
  ty : ∀ t ti, T.ty.get t = some ti → TiOk P t ti

variable {P : Program} {T : Tab} {B : Nat} {W w : World} {φ : Phi} {h : AHeap}

theorem ob_some {α β : Type} {x : Option α} {f : α → Option β} {b : β} (e : ob x f = some b) : ∃ a, x = some a ∧ f a = some b := by
  cases x with
  | none => cases e
  | some a => exact ⟨a, rfl, e⟩
theorem ck_some {β : Type} {c : Bool} {x : Option β} {b : β} (e : ck c x = some b) : c = true ∧ x = some b := by
  cases c with
  | false => cases e
  | true => exact ⟨rfl, e⟩
theorem ble_le {a b : Nat} (e : Nat.ble a b = true) : a ≤ b := Nat.le_of_ble_eq_true e
theorem blt_lt {a b : Nat} (e : Nat.blt a b = true) : a < b := Nat.le_of_ble_eq_true e
theorem beq_eq {a b : Nat} (e : Nat.beq a b = true) : a = b := Nat.eq_of_beq_eq_true e

namespace TiOk
variable {t : TypeId} {ti : Ti}
theorem und_run (k : TiOk P t ti) (w : World) : (underlying t).run P w = .ok ti.desc w := by simp [underlying, k.und]
theorem size_run (k : TiOk P t ti) (w : World) : (sizeOf t).run P w = .ok ti.size w := by
  obtain ⟨i, z, h1, h2, _⟩ := k.inf; simp [sizeOf, typeInfo, h1, h2]
theorem info_run (k : TiOk P t ti) (w : World) : ∃ i, (typeInfo t).run P w = .ok i w ∧ i.size = ti.size ∧ i.bytes = ti.bytes := by
  obtain ⟨i, z, h1, h2, h3, _⟩ := k.inf; exact ⟨i, by simp [typeInfo, h1], h2, h3⟩
theorem zero_run (k : TiOk P t ti) (w : World) : ∃ z, (zeroValue t).run P w = .ok z w ∧ ∀ φ, VR φ ti.zeroV z := by
  obtain ⟨i, z, h1, h2, h3, h4, h5⟩ := k.inf; exact ⟨z, by simp [zeroValue, typeInfo, h1, h4], h5⟩
theorem agg_run (k : TiOk P t ti) (w : World) : (isAgg t).run P w = .ok ti.agg w := by
  have e : (underlying t).run P w = .ok ti.desc w := k.und_run w
  have ha := k.agg
  simp only [isAgg, Sem.run_bind, e, Result.andThen_ok]
  cases hd : ti.desc <;> rw [hd] at ha <;> simp only [TypeDesc.isAgg] at ha <;> simp [← ha]
end TiOk

/- reading a row's cell -/
theorem Sim.cell (s : Sim B W φ h w) {l : Nat} {cs : List AV} {opn : Bool} {fz : Nat} {wr : Bool} {p : Pl} (e : h.get l = some (.row cs opn fz wr)) (hp : φ l = some p)
    (i : Nat) (a : AV) (ha : cs[i]? = some a) : ∃ v, w.cell? ⟨p.b, p.base + i, none⟩ = some v ∧ VR φ a v := by
  obtain ⟨cells, el, lo, hi, h1, h2, h4, h5, h6⟩ := s.obj l _ p e hp
  obtain ⟨v, hv, hr⟩ := h5 i a ha
  exact ⟨v, by simp [World.cell?, h1, hv], hr⟩

theorem addr_add (b o i : Nat) : (⟨b, o, none⟩ : Addr).add i = ⟨b, o + i, none⟩ := by
  unfold Addr.add
  split
  · rename_i h; subst h; rfl
  · rfl

/- cells, taken together -/
theorem Sim.cells (s : Sim B W φ h w) {l : Nat} {cs : List AV} {opn : Bool} {fz : Nat} {wr : Bool} {p : Pl} (e : h.get l = some (.row cs opn fz wr)) (hp : φ l = some p)
    (o n : Nat) (hn : o + n ≤ cs.length) : ∃ vs : List Value, (loadCells ⟨p.b, p.base + o, none⟩ n).run P w = .ok vs.toArray w ∧ VRs φ (takeAt cs o n) vs ∧ vs.length = n := by
  have key : ∀ n, o + n ≤ cs.length → ∃ vs : List Value, vs.length = n ∧ (∀ j v, vs[j]? = some v → w.cell? ((⟨p.b, p.base + o, none⟩ : Addr).add j) = some v) ∧ VRs φ (takeAt cs o n) vs := by
    intro n
    induction n with
    | zero => intro _; exact ⟨[], rfl, by simp, by simp [takeAt, VRs]⟩
    | succ n ih =>
      intro hn
      obtain ⟨vs, hl, hc, hr⟩ := ih (by omega)
      have hlt : o + n < cs.length := by omega
      obtain ⟨v, hv, hvr⟩ := s.cell e hp (o + n) cs[o + n] (List.getElem?_eq_getElem hlt)
      refine ⟨vs ++ [v], by simp [hl], ?_, ?_⟩
      · intro j x hx
        by_cases hj : j < n
        · rw [List.getElem?_append_left (by omega)] at hx; exact hc j x hx
        · rw [List.getElem?_append_right (by omega), hl] at hx
          have : j = n := by
            rcases Nat.lt_or_ge (j - n) 1 with h1 | h1
            · omega
            · rw [List.getElem?_eq_none (by simpa using h1)] at hx; cases hx
          subst this
          simp at hx; subst hx
          rw [addr_add, Nat.add_assoc]; exact hv
      · have : takeAt cs o (n + 1) = takeAt cs o n ++ [cs[o + n]] := by
          unfold takeAt
          rw [List.take_add_one, List.getElem?_drop, List.getElem?_eq_getElem hlt]; rfl
        rw [this]
        exact hr.append (VRs.cons hvr VRs.nil)
  obtain ⟨vs, hl, hc, hr⟩ := key n hn
  refine ⟨vs, ?_, hr, hl⟩
  have := run_loadCells_list (P := P) (w := w) ⟨p.b, p.base + o, none⟩ vs hc
  rw [hl] at this; exact this

theorem part_run (k : TabOk P T) {t : TypeId} {cs : List AV} {o : Nat} {a : AV} {vs : List Value} (hp : partE T t cs o = some a) (hr : VRs φ cs vs) (w : World) :
    ∃ v, (part t (List.toArray vs) o).run P w = .ok v w ∧ VR φ a v := by
  obtain ⟨ti, ht, hp⟩ := ob_some hp
  have kt := k.ty t ti ht
  have hl := hr.length
  cases hag : ti.agg with
  | true =>
    rw [hag] at hp
    obtain ⟨hle, hp⟩ := ck_some hp
    have hle := ble_le hle
    cases hp
    refine ⟨.agg (vs.toArray.extract o (o + ti.size)), ?_, ?_⟩
    · simp [part, kt.agg_run w, kt.size_run w, hag]
    · simp only [VR]
      refine ⟨(vs.drop o).take ti.size, ?_, ?_⟩
      · simp [List.extract_eq_take_drop]
      · exact (hr.drop o).take _
  | false =>
    rw [hag] at hp
    obtain ⟨v, hv, hvr⟩ := hr.get o a hp
    exact ⟨v, by simp [part, kt.agg_run w, hag, hv], hvr⟩

theorem loadE_run (k : TabOk P T) (s : Sim B W φ h w) {t : TypeId} {l o : Nat} {a : AV} {p : Pl} (hl : loadE T t l o h = some a) (hp : φ l = some p) :
    ∃ v, (loadVar t ⟨p.b, p.base + o, none⟩).run P w = .ok v w ∧ VR φ a v := by
  unfold loadE rowAt at hl
  cases hg : h.get l with
  | none => rw [hg] at hl; cases hl
  | some ob' =>
    rw [hg] at hl
    cases ob' with
    | row cs opn fz wr =>
      obtain ⟨ti, ht, hq⟩ := ob_some hl
      have kt := k.ty t ti ht
      cases hag : ti.agg with
      | true =>
        rw [hag] at hq
        obtain ⟨hle, hq⟩ := ck_some hq
        cases hq
        obtain ⟨vs, hv, hvr, hvl⟩ := s.cells (P := P) hg hp o ti.size (ble_le hle)
        refine ⟨.agg vs.toArray, ?_, ?_⟩
        · simp [loadVar, kt.agg_run w, kt.size_run w, hag, hv]
        · simp only [VR]; exact ⟨vs, rfl, hvr⟩
      | false =>
        rw [hag] at hq
        obtain ⟨v, hv, hvr⟩ := s.cell hg hp o a hq
        exact ⟨v, by simp [loadVar, kt.agg_run w, hag, hv], hvr⟩
    | amap es c => cases hl
    | siter x y => cases hl
    | dead => cases hl

/- writing cells -/
def overL (cells : List Value) (o : Nat) (vs : List Value) : List Value := cells.take o ++ (vs ++ cells.drop (o + vs.length))

theorem run_storeCells_at (P : Program) (b el lo hi : Nat) (o : Nat) : ∀ (vs : List Value) (i : Nat) (cells : List Value) (w : World),
    w.heap[b]? = some (.cells cells.toArray el (lo, hi)) → (∀ v ∈ vs, v.oneCell' = true) → o + i + vs.length ≤ cells.length →
    (∀ j, o + i ≤ j → j < o + i + vs.length → ¬ (lo ≤ j ∧ j < hi)) →
    (storeCells ⟨b, o, none⟩ vs i).run P w = .ok () { w with heap := w.heap.setIfInBounds b (.cells (overL cells (o + i) vs).toArray el (lo, hi)) } := by
  intro vs
  induction vs with
  | nil =>
    intro i cells w hb _ hle _
    have hlt : b < w.heap.size := by
      rcases Nat.lt_or_ge b w.heap.size with h | h
      · exact h
      · rw [Array.getElem?_eq_none h] at hb; cases hb
    have hself : w.heap.setIfInBounds b (.cells (overL cells (o + i) []).toArray el (lo, hi)) = w.heap := by
      have : overL cells (o + i) [] = cells := by simp [overL]
      rw [this]
      apply Array.ext_getElem?
      intro j
      rw [Array.getElem?_setIfInBounds]
      split
      · rename_i hj; subst hj; exact hb.symm
      · rfl
    simp [storeCells, hself]
  | cons v vs ih =>
    intro i cells w hb hone hle hfz
    have hlt : b < w.heap.size := by
      rcases Nat.lt_or_ge b w.heap.size with h | h
      · exact h
      · rw [Array.getElem?_eq_none h] at hb; cases hb
    have hlen : o + i < cells.length := by simp at hle; omega
    have hc : w.cell? ⟨b, o + i, none⟩ = some cells[o + i] := by simp [World.cell?, hb, hlen]
    have hf : w.frozen? ⟨b, o + i, none⟩ = false := by
      have := hfz (o + i) (Nat.le_refl _) (by simp)
      simp only [World.frozen?, hb]
      simpa using this
    have hset : w.setCell ⟨b, o + i, none⟩ v = { w with heap := w.heap.setIfInBounds b (.cells (cells.set (o + i) v).toArray el (lo, hi)) } := by
      simp only [World.setCell]
      congr 1
      apply Array.ext_getElem?
      intro j
      rw [Array.getElem?_modify, Array.getElem?_setIfInBounds]
      by_cases hj : b = j
      · subst hj; rw [if_pos rfl, hb]; simp [hlt]
      · simp [hj]
    have hone' := hone v (by simp)
    simp only [storeCells, Sem.run_bind, addr_add]
    rw [run_store P w _ v _ hone', hc]
    simp only [hf]
    rw [hset]
    simp only [Result.andThen_ok, Bool.false_eq_true, if_false]
    have := ih (i + 1) (cells.set (o + i) v) { w with heap := w.heap.setIfInBounds b (.cells (cells.set (o + i) v).toArray el (lo, hi)) }
      (by simp [hlt]) (fun x hx => hone x (by simp [hx])) (by simp at hle ⊢; omega) (fun j h1 h2 => hfz j (by omega) (by simp; omega))
    rw [this]
    congr 2
    simp only [Array.setIfInBounds_setIfInBounds]
    congr 2
    unfold overL
    have e1 : (cells.set (o + i) v).take (o + (i + 1)) = cells.take (o + i) ++ [v] := by
      rw [← Nat.add_assoc, List.take_add_one, List.getElem?_set_self hlen, List.take_set_of_le (Nat.le_refl _)]
      rfl
    rw [e1]
    have e2 : (cells.set (o + i) v).drop (o + (i + 1) + vs.length) = cells.drop (o + i + (v :: vs).length) := by
      rw [List.drop_set_of_lt (by omega)]
      congr 1
      simp; omega
    rw [e2]; simp

theorem setB_get (w : World) (b : Nat) (o : Obj) (k : Nat) (hk : k ≠ b) : (w.heap.setIfInBounds b o)[k]? = w.heap[k]? := by
  rw [Array.getElem?_setIfInBounds]; simp [Ne.symm hk]

theorem allOne_mem : ∀ {vs : List AV}, allOne vs = true → ∀ v ∈ vs, v.oneCell = true
  | [], _, _, h => by cases h
  | v :: vs, h, x, hx => by
    unfold allOne at h
    cases hv : v.oneCell with
    | false => rw [hv] at h; cases h
    | true =>
      rw [hv] at h
      rcases List.mem_cons.1 hx with rfl | hx
      · exact hv
      · exact allOne_mem h x hx

theorem VRs.one {φ : Phi} : ∀ {as : List AV} {vs : List Value}, VRs φ as vs → allOne as = true → ∀ v ∈ vs, v.oneCell' = true
  | [], _, h, _, v, hv => by simp only [VRs] at h; subst h; cases hv
  | a :: as, _, h, ho, v, hv => by
    simp only [VRs] at h; obtain ⟨x, r, rfl, h1, h2⟩ := h
    have ha := allOne_mem ho
    rcases List.mem_cons.1 hv with rfl | hv
    · exact h1.one (ha a (by simp))
    · refine VRs.one h2 ?_ v hv
      unfold allOne at ho
      rw [ha a (by simp)] at ho; exact ho

theorem writeE_run (s : Sim B W φ h w) {l o : Nat} {as : List AV} {vs : List Value} {h' : AHeap} {p : Pl} (hw : writeE l o as h = some h') (hr : VRs φ as vs) (hp : φ l = some p) :
    ∃ w', (storeCells ⟨p.b, p.base + o, none⟩ vs).run P w = .ok () w' ∧ Sim B W φ h' w' ∧ w'.drawn = w.drawn := by
  unfold writeE rowAt at hw
  cases hg : h.get l with
  | none => rw [hg] at hw; cases hw
  | some ob' =>
    rw [hg] at hw
    cases ob' with
    | row cs opn fz wr =>
      obtain ⟨hwr, hw⟩ := ck_some hw
      obtain ⟨hfz, hw⟩ := ck_some hw
      obtain ⟨hle, hw⟩ := ck_some hw
      obtain ⟨hone, hw⟩ := ck_some hw
      cases hw
      have hfz := ble_le hfz
      have hle := ble_le hle
      subst hwr
      obtain ⟨cells, el, lo, hi, h1, h2, h4, h5, h6⟩ := s.obj l _ p hg hp
      have hl := hr.length
      have hrun := run_storeCells_at P p.b el lo hi (p.base + o) vs 0 cells.toList w (by simpa using h1) (hr.one hone) (by simp; omega)
        (fun j hj1 hj2 => h6 j (by omega) (by omega))
      refine ⟨_, hrun, ?_, rfl⟩
      refine s.turn hg rfl hp rfl rfl rfl (by simp) (fun k hk => setB_get _ _ _ _ hk) ?_
      have hlt := s.lt l p hp
      refine ⟨(overL cells.toList (p.base + o + 0) vs).toArray, el, lo, hi, by simp [hlt], ?_, ?_, ?_, h6⟩
      · simp [overL]; omega
      · unfold spliceE; simp; omega
      · intro i a ha
        unfold spliceE at ha
        simp only [overL, Nat.add_zero, List.getElem?_toArray]
        by_cases hi1 : i < o
        · rw [List.getElem?_append_left (by simp; omega), List.getElem?_take, if_pos hi1] at ha
          obtain ⟨v, hv, hvr⟩ := h5 i a ha
          refine ⟨v, ?_, hvr⟩
          rw [List.getElem?_append_left (by simp; omega), List.getElem?_take, if_pos (by omega)]
          simpa using hv
        · rw [List.getElem?_append_right (by simp; omega)] at ha
          simp only [List.length_take, Nat.min_eq_left (show o ≤ cs.length by omega)] at ha
          by_cases hi2 : i - o < as.length
          · rw [List.getElem?_append_left hi2] at ha
            obtain ⟨v, hv, hvr⟩ := hr.get _ a ha
            refine ⟨v, ?_, hvr⟩
            rw [List.getElem?_append_right (by simp; omega)]
            simp only [List.length_take, Nat.min_eq_left (show p.base + o ≤ cells.toList.length by simp; omega)]
            rw [List.getElem?_append_left (by omega)]
            rw [show p.base + i - (p.base + o) = i - o by omega]; exact hv
          · rw [List.getElem?_append_right (by omega), List.getElem?_drop] at ha
            obtain ⟨v, hv, hvr⟩ := h5 _ a ha
            refine ⟨v, ?_, hvr⟩
            rw [List.getElem?_append_right (by simp; omega)]
            simp only [List.length_take, Nat.min_eq_left (show p.base + o ≤ cells.toList.length by simp; omega)]
            rw [List.getElem?_append_right (by omega), List.getElem?_drop]
            rw [show p.base + o + vs.length + (p.base + i - (p.base + o) - vs.length) = p.base + (o + as.length + (i - o - as.length)) by omega]
            simpa using hv
    | amap es c => cases hw
    | siter x y => cases hw
    | dead => cases hw

/- a new row -/
theorem newE_run (s : Sim B W φ h w) {cs : List AV} {opn : Bool} {l : Nat} {h' : AHeap} (hn : newE cs opn h = some (l, h')) {vs : List Value} (hr : VRs φ cs vs)
    (spare : List Value) (el : TypeId) (lo hi : Nat) (hfz : ∀ i, i < (vs ++ spare).length → ¬ (lo ≤ i ∧ i < hi)) {w' : World}
    (hos : w'.os = w.os) (ht : w'.tape = w.tape) (hout : w'.output = w.output) (hsz : w'.heap.size = w.heap.size + 1) (hk : ∀ k, k < w.heap.size → w'.heap[k]? = w.heap[k]?)
    (hnew : w'.heap[w.heap.size]? = some (.cells (vs ++ spare).toArray el (lo, hi))) :
    Sim B W (φ.add l ⟨w.heap.size, 0, (vs ++ spare).length⟩) h' w' ∧ φ l = none ∧ l = h.next := by
  obtain ⟨hlt, hn⟩ := ck_some hn
  obtain ⟨hone, hn⟩ := ck_some hn
  cases hn
  have hlt := blt_lt hlt
  have hl := hr.length
  refine ⟨s.grow (p := ⟨w.heap.size, 0, (vs ++ spare).length⟩) hlt hos ht hout hsz hk rfl ?_, s.fresh, rfl⟩
  refine ⟨(vs ++ spare).toArray, el, lo, hi, hnew, by simp, by simp; omega, ?_, fun i _ h2 => hfz i h2⟩
  intro i a ha
  obtain ⟨v, hv, hvr⟩ := hr.get i a ha
  refine ⟨v, ?_, VR.mono (Phi.le_add _ s.fresh) _ _ hvr⟩
  have : i < vs.length := by
    rcases Nat.lt_or_ge i vs.length with h | h
    · exact h
    · rw [List.getElem?_eq_none h] at hv; cases hv
  simp [List.getElem?_append_left this, hv]

end Go.Ev

/-
  A small evaluator of the model's programs: its numbers, texts and comparisons are the model's.
-/
namespace Go.Ev
open Go Go.RowKit

theorem lowE_eq (k : IntKind) (n : Int) : (lowE k n : Int) = n % (2 ^ k.bits : Int) := by
  cases n with
  | ofNat m => cases k <;> simp [lowE, IntKind.modulus, Go.IntKind.bits]
  | negSucc m => cases k <;> simp only [lowE, IntKind.modulus, Go.IntKind.bits] <;> omega
theorem lowE_lt (k : IntKind) (n : Int) : lowE k n < IntKind.modulus k := by
  cases n with
  | ofNat m => cases k <;> simp only [lowE, IntKind.modulus] <;> omega
  | negSucc m => cases k <;> simp only [lowE, IntKind.modulus] <;> omega
theorem modulus_eq (k : IntKind) : IntKind.modulus k = 2 ^ k.bits := by cases k <;> rfl

theorem backE_wrap (k : IntKind) (n : Int) : backE k (lowE k n) = k.wrap n := by
  have h := lowE_eq k n
  have hl := lowE_lt k n
  unfold Go.IntKind.wrap
  simp only []
  rw [← h]
  generalize lowE k n = r at *
  cases k <;> simp only [backE, IntKind.sgn, IntKind.modulus, Go.IntKind.bits, Go.IntKind.signed] at * <;>
    (first
      | (simp only [Bool.false_and, Bool.false_eq_true, if_false]; rfl)
      | (cases hb : Nat.ble _ (2 * r) with
         | true =>
           have := ble_le hb
           simp only [Bool.true_and]
           rw [if_pos (by simp; omega)]
           omega
         | false =>
           have : ¬ _ ≤ 2 * r := fun hh => by rw [Nat.ble_eq_true_of_le hh] at hb; cases hb
           simp only [Bool.true_and]
           rw [if_neg (by simp; omega)]
           rfl))

theorem wrapE_eq (k : IntKind) (n : Int) : wrapE k n = k.wrap n := backE_wrap k n

theorem wrap_nat (k : IntKind) (r : Nat) (h : r < IntKind.modulus k) : k.wrap (r : Int) = backE k r := by
  rw [← backE_wrap]
  congr 1
  show lowE k (Int.ofNat r) = r
  simp only [lowE]
  exact Nat.mod_eq_of_lt h

theorem ltE_eq (a b : Int) : ltE a b = decide (a < b) := by
  cases a <;> cases b <;> simp only [ltE] <;> (try (rw [Bool.eq_iff_iff])) <;> simp [Nat.blt_eq] <;> omega
theorem eqE_eq (a b : Int) : eqE a b = (a == b) := by
  cases a <;> cases b <;> simp only [eqE] <;> rw [Bool.eq_iff_iff] <;> simp [Nat.beq_eq] <;> omega
theorem kindEq_eq {a b : IntKind} (h : kindEq a b = true) : a = b := by cases a <;> cases b <;> first | rfl | cases h

theorem ofInt_toNat (k : IntKind) (x : Int) : (BitVec.ofInt k.bits x).toNat = lowE k x := by
  have h := lowE_eq k x
  have e : (BitVec.ofInt k.bits x).toNat = (x % ((2 ^ k.bits : Nat) : Int)).toNat := by simp [BitVec.toNat_ofInt]
  rw [e]
  have : ((2 ^ k.bits : Nat) : Int) = (2 : Int) ^ k.bits := by simp
  rw [this, ← h]; simp

variable {P : Program} {T : Tab} {B : Nat} {W w : World} {φ : Phi} {h : AHeap}

theorem two_bits (k : IntKind) : IntKind.modulus k = 2 ^ k.bits := modulus_eq k

theorem land_lt {k : IntKind} (a b : Int) : Nat.land (lowE k a) (lowE k b) < IntKind.modulus k :=
  Nat.lt_of_le_of_lt Nat.and_le_left (lowE_lt k a)
theorem lor_lt {k : IntKind} (a b : Int) : Nat.lor (lowE k a) (lowE k b) < IntKind.modulus k := by
  rw [modulus_eq]; exact Nat.or_lt_two_pow (by rw [← modulus_eq]; exact lowE_lt k a) (by rw [← modulus_eq]; exact lowE_lt k b)
theorem xor_lt {k : IntKind} (a b : Int) : Nat.xor (lowE k a) (lowE k b) < IntKind.modulus k := by
  rw [modulus_eq]; exact Nat.xor_lt_two_pow (by rw [← modulus_eq]; exact lowE_lt k a) (by rw [← modulus_eq]; exact lowE_lt k b)

theorem intBits_run (op : BinOp) (k : IntKind) (a b : Int) (r : Nat) (hr : (op = .and ∧ r = Nat.land (lowE k a) (lowE k b)) ∨ (op = .or ∧ r = Nat.lor (lowE k a) (lowE k b)) ∨ (op = .xor ∧ r = Nat.xor (lowE k a) (lowE k b))) (w : World) :
    (Op.intBits op k a b).run P w = .ok (.int k (backE k r)) w := by
  rcases hr with ⟨rfl, rfl⟩ | ⟨rfl, rfl⟩ | ⟨rfl, rfl⟩
  · simp only [Op.intBits, Sem.run_pure, BitVec.toNat_and, ofInt_toNat]
    exact congrArg (fun z => Result.ok (Value.int k z) w) (wrap_nat k _ (land_lt a b))
  · simp only [Op.intBits, Sem.run_pure, BitVec.toNat_or, ofInt_toNat]
    exact congrArg (fun z => Result.ok (Value.int k z) w) (wrap_nat k _ (lor_lt a b))
  · simp only [Op.intBits, Sem.run_pure, BitVec.toNat_xor, ofInt_toNat]
    exact congrArg (fun z => Result.ok (Value.int k z) w) (wrap_nat k _ (xor_lt a b))

/- texts -/
theorem u8eq_eq (a b : UInt8) : u8eq a b = (a == b) := by
  unfold u8eq; rw [Bool.eq_iff_iff]; simp [UInt8.toNat_inj]
theorem u8lt_eq (a b : UInt8) : u8lt a b = decide (a < b) := by
  unfold u8lt; rw [Bool.eq_iff_iff]; simp [Nat.blt_eq, UInt8.lt_iff_toNat_lt]
theorem strEq_eq : ∀ a b : List UInt8, strEq a b = (a == b)
  | [], [] => rfl
  | [], _ :: _ => rfl
  | _ :: _, [] => rfl
  | a :: as, b :: bs => by
    unfold strEq; rw [u8eq_eq, strEq_eq as bs]
    cases hab : a == b <;> simp [List.cons_beq_cons, hab]
theorem strLt_eq : ∀ a b : List UInt8, strLt a b = Op.bytesLess a b
  | _, [] => by cases ‹List UInt8› <;> simp [strLt, Op.bytesLess]
  | [], _ :: _ => by simp [strLt, Op.bytesLess]
  | a :: as, b :: bs => by
    simp only [strLt, Op.bytesLess, u8eq_eq, u8lt_eq, strLt_eq as bs]
    by_cases h1 : a < b
    · simp [h1]
    · simp only [h1, decide_false, Bool.false_or]
      cases h2 : a == b <;> simp

theorem toList_mk (s : List UInt8) : (⟨s.toArray⟩ : ByteArray).toList = s := ByteArray.toList_mk s

end Go.Ev

/-
  A small evaluator of the model's programs: '==' and the binary operations.
-/
namespace Go.Ev
open Go Go.RowKit

variable {P : Program} {T : Tab} {B : Nat} {W w : World} {φ : Phi} {h : AHeap}

theorem cellsOf_eq {t : TypeId} {ti : Ti} (k : TiOk P t ti) : P.cellsOf t = ti.size := by
  obtain ⟨i, z, h1, h2, _⟩ := k.inf; simp [Program.cellsOf, h1, h2]

theorem VR.ptr_addr {l o m q : Nat} {v u : Value} (hv : VR φ (.ptr l o) v) (hu : VR φ (.ptr m q) u) (e : l = m) :
    ∃ b base, v = .pointer (some ⟨b, base + o, none⟩) ∧ u = .pointer (some ⟨b, base + q, none⟩) := by
  simp only [VR] at hv hu
  obtain ⟨p, hp, rfl⟩ := hv
  obtain ⟨p', hp', rfl⟩ := hu
  subst e; rw [hp] at hp'; cases hp'
  exact ⟨p.b, p.base, rfl, rfl⟩

theorem eqFields_run (k : TabOk P T) (d : Nat) (rec : TypeId → AV → AV → Option Bool)
    (IH : ∀ t x y b x' y', rec t x y = some b → VR φ x x' → VR φ y y' → ∀ w : World, (Op.equalIn d t x' y').run P w = .ok b w)
    {xs ys : List AV} {xs' ys' : List Value} (hx : VRs φ xs xs') (hy : VRs φ ys ys') : ∀ (fs : List Field) (b : Bool), eqFields T rec xs ys fs = some b →
    ∀ w : World, (Op.eqFields d (List.toArray xs') (List.toArray ys') fs).run P w = .ok b w
  | [], b, e, w => by cases e; rfl
  | f :: fs, b, e, w => by
    obtain ⟨hn, e⟩ := ck_some e
    obtain ⟨x, hpx, e⟩ := ob_some e
    obtain ⟨y, hpy, e⟩ := ob_some e
    obtain ⟨c, hc, e⟩ := ob_some e
    obtain ⟨x', hx1, hx2⟩ := part_run k hpx hx w
    obtain ⟨y', hy1, hy2⟩ := part_run k hpy hy w
    have hq := IH _ _ _ _ _ _ hc hx2 hy2 w
    have hne : f.name ≠ "_" := by simpa using hn
    simp only [Op.eqFields, if_pos hne, Sem.run_bind, hx1, hy1, hq, Result.andThen_ok]
    cases c with
    | false => cases e; rfl
    | true => simpa using eqFields_run k d rec IH hx hy fs b e w

theorem eqElems_run (k : TabOk P T) (d : Nat) (rec : TypeId → AV → AV → Option Bool)
    (IH : ∀ t x y b x' y', rec t x y = some b → VR φ x x' → VR φ y y' → ∀ w : World, (Op.equalIn d t x' y').run P w = .ok b w)
    {xs ys : List AV} {xs' ys' : List Value} (hx : VRs φ xs xs') (hy : VRs φ ys ys') (e0 n : Nat) : ∀ (left i : Nat) (b : Bool), eqElems T rec e0 n xs ys left i = some b →
    ∀ w : World, (Op.eqItems d e0 n (List.toArray xs') (List.toArray ys') (List.range' i left)).run P w = .ok b w
  | 0, i, b, e, w => by cases e; rfl
  | left + 1, i, b, e, w => by
    obtain ⟨x, hpx, e⟩ := ob_some e
    obtain ⟨y, hpy, e⟩ := ob_some e
    obtain ⟨c, hc, e⟩ := ob_some e
    obtain ⟨x', hx1, hx2⟩ := part_run k hpx hx w
    obtain ⟨y', hy1, hy2⟩ := part_run k hpy hy w
    have hq := IH _ _ _ _ _ _ hc hx2 hy2 w
    rw [List.range'_succ]
    simp only [Op.eqItems, Sem.run_bind, hx1, hy1, hq, Result.andThen_ok]
    cases c with
    | false => cases e; rfl
    | true => simpa using eqElems_run k d rec IH hx hy e0 n left (i + 1) b e w

theorem strEq_run (a b : List UInt8) : ((⟨a.toArray⟩ : ByteArray) == ⟨b.toArray⟩) = strEq a b := by
  rw [strEq_eq, beq_toListBytes, toList_mk, toList_mk]

theorem eqE_run (k : TabOk P T) : ∀ (d : Nat) (t : TypeId) (x y : AV) (b : Bool) (x' y' : Value), eqE_ T d t x y = some b → VR φ x x' → VR φ y y' →
    ∀ (m : Nat) (w : World), (Op.equalIn (d + m) t x' y').run P w = .ok b w
  | 0, _, _, _, _, _, _, e, _, _, _, _ => by cases e
  | d + 1, t, x, y, b, x', y', e, hx, hy, m, w => by
    rw [show d + 1 + m = (d + m) + 1 by omega]
    obtain ⟨ti, ht, e⟩ := ob_some e
    have kt := k.ty t ti ht
    have hund := kt.und
    have hrun := kt.und_run w
    have IH : ∀ t x y b x' y', eqE_ T d t x y = some b → VR φ x x' → VR φ y y' → ∀ w : World, (Op.equalIn (d + m) t x' y').run P w = .ok b w :=
      fun t x y b x' y' e hx hy w => eqE_run k d t x y b x' y' e hx hy m w
    revert e
    split
    · rename_i fields xs ys hd
      intro e
      obtain ⟨heq, e⟩ := ck_some e
      obtain ⟨_, hst⟩ := kt.eqs heq
      simp only [VR] at hx hy
      obtain ⟨xs', rfl, hx⟩ := hx
      obtain ⟨ys', rfl, hy⟩ := hy
      have hf : P.fieldsOf t = fields := by simp [Program.fieldsOf, hund, hd]
      rw [run_equalIn_struct w (d + m) t _ _ (by rw [hf, hund, hd]) hst, hf]
      exact eqFields_run k _ _ IH hx hy _ _ e w
    · rename_i n e0 xs ys hd
      intro e
      obtain ⟨heq, e⟩ := ck_some e
      obtain ⟨te, hte, e⟩ := ob_some e
      have ke := k.ty e0 te hte
      simp only [VR] at hx hy
      obtain ⟨xs', rfl, hx⟩ := hx
      obtain ⟨ys', rfl, hy⟩ := hy
      obtain ⟨i, z, hi, _⟩ := ke.inf
      rw [run_equalIn_array w (d + m) _ _ (by rw [hund, hd]) hi, cellsOf_eq ke, List.range_eq_range']
      exact eqElems_run k _ _ IH hx hy e0 te.size n 0 _ e w
    · rename_i a c hd; intro e; cases e; simp only [VR] at hx hy; subst hx; subst hy
      simp [Op.equalIn, run_underlying hund, hd]
    · rename_i k0 a j c hd; intro e; obtain ⟨hk, e⟩ := ck_some e; cases e; simp only [VR] at hx hy; subst hx; subst hy
      have := kindEq_eq hk; subst this
      simp [Op.equalIn, run_underlying hund, hd, eqE_eq]
    · rename_i a c hd; intro e; cases e; simp only [VR] at hx hy; subst hx; subst hy
      simp [Op.equalIn, run_underlying hund, hd, strEq_run]
    · rename_i hd; intro e; cases e; simp only [VR] at hx hy; subst hx; subst hy
      simp [Op.equalIn, run_underlying hund, hd]
    · rename_i hd; intro e; cases e; simp only [VR] at hx hy; subst hx; obtain ⟨p, _, rfl⟩ := hy
      simp [Op.equalIn, run_underlying hund, hd]
    · rename_i hd; intro e; cases e; simp only [VR] at hx hy; subst hy; obtain ⟨p, _, rfl⟩ := hx
      simp [Op.equalIn, run_underlying hund, hd]
    · rename_i e0 l o l' q hd; intro e
      obtain ⟨te, hte, e⟩ := ob_some e
      obtain ⟨hsz, e⟩ := ck_some e
      obtain ⟨hl, e⟩ := ck_some e
      cases e
      have ke := k.ty e0 te hte
      obtain ⟨bb, base, rfl, rfl⟩ := VR.ptr_addr hx hy (beq_eq hl)
      have hsz : te.size ≠ 0 := by have := ble_le hsz; omega
      have hq : (base + o == base + q) = Nat.beq o q := by
        rw [Bool.eq_iff_iff]; simp [Nat.beq_eq]
      simp only [Op.equalIn, run_underlying hund, hd, Sem.run_bind, Result.andThen_ok, ke.size_run w]
      rw [if_pos hsz]
      simp only [sameAddr, beq_self_eq_true, if_true, Sem.run_pure]
      congr 1
      rw [← hq, Bool.eq_iff_iff]; simp
    · rename_i hd; intro e; cases e; simp only [VR] at hx hy; subst hx; subst hy
      simp [Op.equalIn, run_underlying hund, hd]
    · rename_i hd; intro e; cases e; simp only [VR] at hx hy; subst hx; obtain ⟨p, a, c, _, rfl, _⟩ := hy
      simp [Op.equalIn, run_underlying hund, hd]
    · rename_i hd; intro e; cases e; simp only [VR] at hx hy; subst hy; obtain ⟨p, a, c, _, rfl, _⟩ := hx
      simp [Op.equalIn, run_underlying hund, hd]
    · rename_i hd; intro e; cases e; simp only [VR] at hx hy; subst hx; subst hy
      simp [Op.equalIn, run_underlying hund, hd]
    · rename_i hd; intro e; cases e; simp only [VR] at hx hy; subst hx; obtain ⟨p, _, rfl⟩ := hy
      simp [Op.equalIn, run_underlying hund, hd]
    · rename_i hd; intro e; cases e; simp only [VR] at hx hy; subst hy; obtain ⟨p, _, rfl⟩ := hx
      simp [Op.equalIn, run_underlying hund, hd]
    · rename_i hd; intro e; cases e; simp only [VR] at hx hy; subst hx; subst hy
      simp [Op.equalIn, run_underlying hund, hd]
    · rename_i hd; intro e; cases e; simp only [VR] at hx hy; subst hx; obtain ⟨f, c, rfl, _⟩ := hy
      simp [Op.equalIn, run_underlying hund, hd]
    · rename_i hd; intro e; cases e; simp only [VR] at hx hy; subst hy; obtain ⟨f, c, rfl, _⟩ := hx
      simp [Op.equalIn, run_underlying hund, hd]
    · rename_i hd; intro e; cases e; simp only [VR] at hx hy; subst hx; subst hy
      simp [Op.equalIn, run_underlying hund, hd]
    · rename_i hd; intro e; cases e; simp only [VR] at hx hy; subst hx; obtain ⟨f, rfl, _⟩ := hy
      simp [Op.equalIn, run_underlying hund, hd]
    · rename_i hd; intro e; cases e; simp only [VR] at hx hy; subst hy; obtain ⟨f, rfl, _⟩ := hx
      simp [Op.equalIn, run_underlying hund, hd]
    · rename_i t1 _ t2 _ hd; intro e; obtain ⟨hne, e⟩ := ck_some e; cases e
      simp only [VR] at hx hy; obtain ⟨f, rfl, _⟩ := hx; obtain ⟨g, rfl, _⟩ := hy
      have : t1 ≠ t2 := fun h => by subst h; rw [Nat.beq_refl] at hne; cases hne
      simp [Op.equalIn, run_underlying hund, hd, this]
    · intro e; cases e

end Go.Ev

/-
  A small evaluator of the model's programs: operands, the binary and unary operations, conversions.
-/
namespace Go.Ev
open Go Go.RowKit

variable {P : Program} {T : Tab} {B : Nat} {W w : World} {φ : Phi} {h : AHeap}

structure EnvR (φ : Phi) (env : Env) (a : Act) : Prop where
  size : a.tmps.size = env.size
  room : env.size ≤ PT.room
  val : ∀ t x, env.get t = some x → VR φ x (a.tmps.getD t undef)
  out : ∀ t, env.size ≤ t → env.get t = none
  glob : ∀ g, g < env.glob → ∃ p, φ g = some p ∧ p.b = g ∧ p.base = 0

theorem EnvR.mono {φ ψ : Phi} (hle : φ.le ψ) {env : Env} {a : Act} (k : EnvR φ env a) : EnvR ψ env a :=
  ⟨k.size, k.room, fun t x e => VR.mono hle _ _ (k.val t x e), k.out, fun g hg => let ⟨p, h1, h2⟩ := k.glob g hg; ⟨p, hle _ _ h1, h2⟩⟩

theorem VR.undef {φ : Phi} : VR φ AV.undef Go.undef := by simp only [AV.undef, VR, Go.undef]; exact ⟨[], rfl, VRs.nil⟩

theorem EnvR.put {env : Env} {a : Act} (k : EnvR φ env a) (dst : Option Nat) {v : AV} {v' : Value} (hv : VR φ v v') : EnvR φ (env.put dst v) (a.put dst v') := by
  cases dst with
  | none => exact k
  | some d =>
    unfold Act.put; rw [Env.put_eq]
    simp only []
    cases hb : Nat.blt d env.size with
    | false =>
      have hge : env.size ≤ d := by
        rcases Nat.lt_or_ge d env.size with hlt | hge
        · have : Nat.blt d env.size = true := Nat.ble_eq_true_of_le hlt
          rw [this] at hb; cases hb
        · exact hge
      have : a.tmps.setIfInBounds d v' = a.tmps := by
        apply Array.setIfInBounds_eq_of_size_le; rw [k.size]; exact hge
      simp only [this]
      exact k
    | true =>
      have hlt := blt_lt hb
      refine ⟨by simp [k.size], k.room, fun t x e => ?_, fun t ht => ?_, k.glob⟩
      rotate_left
      · have hd : d < PT.room := Nat.lt_of_lt_of_le hlt k.room
        have ht' : env.size ≤ t := ht
        simp only [Env.get, PT.get_set _ _ _ _ hd]
        rw [if_neg (by omega)]; exact k.out t ht'
      have hd : d < PT.room := Nat.lt_of_lt_of_le hlt k.room
      simp only [Env.get, PT.get_set _ _ _ _ hd] at e
      by_cases ht : t = d
      · subst ht
        rw [if_pos rfl] at e
        cases e
        have : (a.tmps.setIfInBounds t v').getD t Go.undef = v' := by simp [Array.getD, k.size, hlt]
        rw [this]; exact hv
      · rw [if_neg ht] at e
        have : (a.tmps.setIfInBounds d v').getD t Go.undef = a.tmps.getD t Go.undef := by
          simp only [Array.getD_eq_getD_getElem?, Array.getElem?_setIfInBounds]; rw [if_neg (fun e => ht e.symm)]
        rw [this]; exact k.val t x e

theorem leafV_R {v : Value} {a : AV} (e : leafV v = some a) : VR φ a v := by
  unfold leafV at e
  split at e <;> first | (cases e; simp [VR]; done) | (cases e; done)

theorem leafVs_R : ∀ {vs : List Value} {as : List AV}, leafVs vs = some as → VRs φ as vs
  | [], as, e => by cases e; exact VRs.nil
  | v :: vs, as, e => by
    obtain ⟨a, ha, e⟩ := ob_some e
    obtain ⟨r, hr, e⟩ := ob_some e
    cases e
    exact VRs.cons (leafV_R ha) (leafVs_R hr)

theorem constV_R {v : Value} {a : AV} (e : constV v = some a) : VR φ a v := by
  unfold constV at e
  split at e
  · obtain ⟨as, ha, e⟩ := ob_some e
    cases e
    simp only [VR]
    exact ⟨_, by simp, leafVs_R ha⟩
  · cases e; simp only [VR]; exact ⟨[], rfl, VRs.nil⟩
  · exact leafV_R e

theorem EnvR.eval {env : Env} {a : Act} (k : EnvR φ env a) {x : Operand} {v : AV} (e : env.eval x = some v) : VR φ v (a.eval x) := by
  cases x with
  | tmp t => exact k.val t v e
  | const c => exact constV_R e
  | global g =>
    obtain ⟨hb, e⟩ := ck_some e
    cases e
    obtain ⟨p, h1, h2, h3⟩ := k.glob g (blt_lt hb)
    simp only [VR]
    exact ⟨p, h1, by simp [Act.eval, h2, h3]⟩
  | func f => cases e; simp only [VR]; exact ⟨[], [], rfl, VRs.nil, VRs.nil⟩

theorem EnvR.evals {env : Env} {a : Act} (k : EnvR φ env a) : ∀ {xs : List Operand} {vs : List AV}, evals env xs = some vs → VRs φ vs (xs.map a.eval)
  | [], vs, e => by cases e; exact VRs.nil
  | x :: xs, vs, e => by
    obtain ⟨v, hv, e⟩ := ob_some e
    obtain ⟨r, hr, e⟩ := ob_some e
    cases e
    exact VRs.cons (k.eval hv) (k.evals hr)

theorem intBin_run {op : BinOp} {k : IntKind} {a b : Int} {r : AV} (e : intBin op k a b = some r) (ho : op ≠ .shl) (ho' : op ≠ .shr) (t : TypeId) (w : World) :
    ∃ v, (binOp op t (.int k a) (.int k b)).run P w = .ok v w ∧ VR φ r v := by
  cases op <;> simp only [intBin] at e
  case add => cases e; exact ⟨.int k (k.wrap (a + b)), by simp [binOp, Op.intArith], by simp [VR, wrapE_eq]⟩
  case sub => cases e; exact ⟨.int k (k.wrap (a - b)), by simp [binOp, Op.intArith], by simp [VR, wrapE_eq]⟩
  case mul => cases e; exact ⟨.int k (k.wrap (a * b)), by simp [binOp, Op.intArith], by simp [VR, wrapE_eq]⟩
  case quo =>
    obtain ⟨hz, e⟩ := ck_some e; cases e
    have hz : b ≠ 0 := by simpa [eqE_eq] using hz
    exact ⟨.int k (k.wrap (a.tdiv b)), by simp [binOp, Op.intDiv, hz], by simp [VR, wrapE_eq]⟩
  case rem =>
    obtain ⟨hz, e⟩ := ck_some e; cases e
    have hz : b ≠ 0 := by simpa [eqE_eq] using hz
    exact ⟨.int k (a.tmod b), by simp [binOp, Op.intDiv, hz], by simp [VR]⟩
  case and => cases e; exact ⟨_, (by have := intBits_run (P := P) .and k a b _ (.inl ⟨rfl, rfl⟩) w; simpa [binOp] using this), by simp [VR]⟩
  case or => cases e; exact ⟨_, (by have := intBits_run (P := P) .or k a b _ (.inr (.inl ⟨rfl, rfl⟩)) w; simpa [binOp] using this), by simp [VR]⟩
  case xor => cases e; exact ⟨_, (by have := intBits_run (P := P) .xor k a b _ (.inr (.inr ⟨rfl, rfl⟩)) w; simpa [binOp] using this), by simp [VR]⟩
  case andNot => cases e
  case shl => exact absurd rfl ho
  case shr => exact absurd rfl ho'
  case eql => cases e; exact ⟨.bool (a == b), by simp [binOp, Op.intCmp], by simp [VR, eqE_eq]⟩
  case neq => cases e; exact ⟨.bool (a != b), by simp [binOp, Op.intCmp], by simp [VR, eqE_eq, bne]⟩
  case lss => cases e; exact ⟨.bool (decide (a < b)), by simp [binOp, Op.intCmp], by simp [VR, ltE_eq]⟩
  case leq => cases e; exact ⟨.bool (decide (a ≤ b)), by simp [binOp, Op.intCmp], by simp only [VR, ltE_eq]; congr 1; rw [Bool.eq_iff_iff]; simp⟩
  case gtr => cases e; exact ⟨.bool (decide (a > b)), by simp [binOp, Op.intCmp], by simp [VR, ltE_eq]⟩
  case geq => cases e; exact ⟨.bool (decide (a ≥ b)), by simp [binOp, Op.intCmp], by simp only [VR, ltE_eq]; congr 1; rw [Bool.eq_iff_iff]; simp⟩

theorem shiftBin_run {op : BinOp} {k j : IntKind} {a b : Int} {r : AV} (e : shiftBin op k a b = some r) (t : TypeId) (w : World) :
    ∃ v, (binOp op t (.int k a) (.int j b)).run P w = .ok v w ∧ VR φ r v := by
  cases b with
  | negSucc s => cases e
  | ofNat s =>
    have hneg : ¬ (Int.ofNat s < 0) := by simp
    cases op <;> simp only [shiftBin] at e <;> first | (cases e; done) | skip
    · cases e
      refine ⟨_, by simp only [binOp, Op.shift, if_neg hneg]; rfl, ?_⟩
      simp [VR, wrapE_eq]
    · cases e
      refine ⟨_, by simp only [binOp, Op.shift, if_neg hneg]; rfl, ?_⟩
      simp [VR]

theorem strBin_run {op : BinOp} {a b : List UInt8} {r : AV} (e : strBin op a b = some r) (t : TypeId) (w : World) :
    ∃ v, (binOp op t (.string ⟨a.toArray⟩) (.string ⟨b.toArray⟩)).run P w = .ok v w ∧ VR φ r v := by
  cases op <;> simp only [strBin] at e
  case add =>
    obtain ⟨hb, e⟩ := ck_some e; cases e
    have hb := ble_le hb
    have hs : ¬ ((((⟨a.toArray⟩ : ByteArray).size + (⟨b.toArray⟩ : ByteArray).size : Nat) : Int) > Go.IntKind.i64.max) := by
      simp [ByteArray.size, Go.IntKind.max, Go.IntKind.signed, Go.IntKind.bits]; unfold strMax at hb; omega
    refine ⟨_, by simp only [binOp, Op.stringOp]; rw [if_neg hs]; rfl, ?_⟩
    simp only [VR]
    congr 1
  case eql => cases e; exact ⟨_, by simp only [binOp, Op.stringOp]; rfl, by simp [VR, strEq_eq]⟩
  case neq => cases e; exact ⟨_, by simp only [binOp, Op.stringOp]; rfl, by simp [VR, strEq_eq]⟩
  case lss => cases e; exact ⟨_, by simp only [binOp, Op.stringOp]; rfl, by simp [VR, strLt_eq]⟩
  case leq => cases e; exact ⟨_, by simp only [binOp, Op.stringOp]; rfl, by simp [VR, strLt_eq, strEq_eq]⟩
  case gtr => cases e; exact ⟨_, by simp only [binOp, Op.stringOp]; rfl, by simp [VR, strLt_eq, strEq_eq]⟩
  case geq => cases e; exact ⟨_, by simp only [binOp, Op.stringOp]; rfl, by simp [VR, strLt_eq]⟩
  all_goals cases e

theorem eqlNeq (op : BinOp) (t : TypeId) (x y : Value) (b : Bool) (w : World) (hq : (Op.equalIn 10000 t x y).run P w = .ok b w) (hni : ¬ (∃ k n j m, x = .int k n ∧ y = .int j m)) (hns : ¬ (∃ s u, x = .string s ∧ y = .string u))
    (hnf : ∀ k n, x ≠ .float k n) (hnc : ∀ k n m, x ≠ .complex k n m) :
    (op = .eql → (binOp op t x y).run P w = .ok (.bool b) w) ∧ (op = .neq → (binOp op t x y).run P w = .ok (.bool (!b)) w) := by
  constructor
  · rintro rfl
    unfold binOp
    split <;> first
      | (exfalso; exact hni ⟨_, _, _, _, rfl, rfl⟩)
      | (exfalso; exact hns ⟨_, _, rfl, rfl⟩)
      | (exfalso; exact hnf _ _ rfl)
      | (exfalso; exact hnc _ _ _ rfl)
      | (exfalso; simp_all; done)
      | (simp [Op.equal, Op.maxDepth, hq]; done)
  · rintro rfl
    unfold binOp
    split <;> first
      | (exfalso; exact hni ⟨_, _, _, _, rfl, rfl⟩)
      | (exfalso; exact hns ⟨_, _, rfl, rfl⟩)
      | (exfalso; exact hnf _ _ rfl)
      | (exfalso; exact hnc _ _ _ rfl)
      | (exfalso; simp_all; done)
      | (simp [Op.equal, Op.maxDepth, hq]; done)

end Go.Ev

/-
  A small evaluator of the model's programs: operations that make no memory.
-/
namespace Go.Ev
open Go Go.RowKit

variable {P : Program} {T : Tab} {B : Nat} {W w : World} {φ : Phi} {h : AHeap}

theorem VR.inv_int {a : AV} {k : Go.IntKind} {n : Int} (e : VR φ a (.int k n)) : a = .int k n := by
  cases a <;> simp [VR] at e
  obtain ⟨rfl, rfl⟩ := e; rfl
theorem VR.inv_bool {a : AV} {b : Bool} (e : VR φ a (.bool b)) : a = .bool b := by
  cases a <;> simp [VR] at e
  subst e; rfl
theorem VR.inv_str {a : AV} {s : ByteArray} (e : VR φ a (.string s)) : a = .str s.data.toList := by
  cases a <;> simp [VR] at e
  subst e; rfl
theorem VR.no_float {a : AV} {k : Go.FloatKind} {n : Nat} (e : VR φ a (.float k n)) : False := by
  cases a <;> simp [VR] at e
theorem VR.no_complex {a : AV} {k : Go.FloatKind} {n m : Nat} (e : VR φ a (.complex k n m)) : False := by
  cases a <;> simp [VR] at e
theorem VR.inv_nilIface {a : AV} (e : VR φ a .nilIface) : a = .nilIface := by
  cases a <;> simp [VR] at e ⊢
theorem VR.inv_agg {a : AV} {cs : Array Value} (e : VR φ a (.agg cs)) : ∃ as, a = .agg as ∧ VRs φ as cs.toList := by
  cases a <;> simp [VR] at e
  obtain ⟨vs, rfl, hr⟩ := e
  exact ⟨_, rfl, by simpa using hr⟩

theorem isConstE_iff {x : Operand} (e : isConstE x = true) : ∃ v, x = .const v := by
  cases x <;> simp [isConstE] at e; exact ⟨_, rfl⟩

theorem eqGuard_run (op : BinOp) (t : TypeId) (x y : Operand) (a b : Value) (hagg : ∀ cs ds, a = .agg cs → b = .agg ds → P.eqGuardType P.depth t = false)
    (hnil : a = .nilIface → b = .nilIface → (isConstE x || isConstE y) = true) (w : World) : (eqGuard op t x y a b).run P w = .ok () w := by
  have key : (∃ cs ds, a = .agg cs ∧ b = .agg ds) ∨ (a = .nilIface ∧ b = .nilIface) ∨ (¬ (∃ cs ds, a = .agg cs ∧ b = .agg ds) ∧ ¬ (a = .nilIface ∧ b = .nilIface)) := by
    by_cases h1 : ∃ cs ds, a = .agg cs ∧ b = .agg ds
    · exact .inl h1
    · by_cases h2 : a = .nilIface ∧ b = .nilIface
      · exact .inr (.inl h2)
      · exact .inr (.inr ⟨h1, h2⟩)
  rcases key with ⟨cs, ds, rfl, rfl⟩ | ⟨rfl, rfl⟩ | ⟨h1, h2⟩
  · exact run_eqGuard_agg w op t x y cs ds (hagg _ _ rfl rfl)
  · rcases Bool.or_eq_true_iff.1 (hnil rfl rfl) with hc | hc
    · obtain ⟨v, rfl⟩ := isConstE_iff hc; cases op <;> simp [eqGuard]
    · obtain ⟨v, rfl⟩ := isConstE_iff hc; cases op <;> simp [eqGuard]
  · clear hagg hnil
    cases op <;> simp only [eqGuard, Bool.not_true, Bool.not_false, Bool.false_eq_true, if_false, if_true, Sem.run_pure]
    all_goals
      split
      · exact absurd ⟨rfl, rfl⟩ h2
      · exact absurd ⟨_, _, rfl, rfl⟩ h1
      · rfl

theorem eqE_agg {d : Nat} {t : TypeId} {xs ys : List AV} {b : Bool} (e : eqE_ T (d + 1) t (.agg xs) (.agg ys) = some b) : ∃ ti, T.ty.get t = some ti ∧ ti.eqs = true := by
  obtain ⟨ti, ht, e⟩ := ob_some e
  refine ⟨ti, ht, ?_⟩
  cases hd : ti.desc <;> simp only [hd] at e <;> first | (exact (ck_some e).1) | (cases e; done)

theorem binE_run (k : TabOk P T) {xo yo : Operand} {op : BinOp} {t : TypeId} {x y r : AV} {x' y' : Value} (e : binE T (isConstE xo || isConstE yo) op t x y = some r)
    (hx : VR φ x x') (hy : VR φ y y') (w : World) : ∃ v, (do eqGuard op t xo yo x' y'; binOp op t x' y' : Sem Value).run P w = .ok v w ∧ VR φ r v := by
  unfold binE at e
  split at e
  · rename_i k1 a k2 b
    simp only [VR] at hx hy
    subst hx; subst hy
    have hg : (eqGuard op t xo yo (.int k1 a) (.int k2 b)).run P w = .ok () w := eqGuard_run op t xo yo _ _ (fun _ _ h => by cases h) (fun h => by cases h) w
    simp only [Sem.run_bind, hg, Result.andThen_ok]
    split at e
    · exact shiftBin_run e t w
    · exact shiftBin_run e t w
    · rename_i h1 h2
      obtain ⟨hk, e2⟩ := ck_some e
      clear e
      have := kindEq_eq hk; subst this
      exact intBin_run e2 h1 h2 t w
  · rename_i a b
    simp only [VR] at hx hy
    subst hx; subst hy
    have hg : (eqGuard op t xo yo (.string ⟨a.toArray⟩) (.string ⟨b.toArray⟩)).run P w = .ok () w := eqGuard_run op t xo yo _ _ (fun _ _ h => by cases h) (fun h => by cases h) w
    simp only [Sem.run_bind, hg, Result.andThen_ok]
    exact strBin_run e t w
  · rename_i hni hns
    have h1 : ¬ (∃ k n j m, x' = .int k n ∧ y' = .int j m) := by
      rintro ⟨k, n, j, m, rfl, rfl⟩; exact hni _ _ _ _ hx.inv_int hy.inv_int
    have h2 : ¬ (∃ s u, x' = .string s ∧ y' = .string u) := by
      rintro ⟨s, u, rfl, rfl⟩; exact hns _ _ hx.inv_str hy.inv_str
    have h3 : ∀ k n, x' ≠ .float k n := fun k n e => by subst e; exact hx.no_float
    have h4 : ∀ k n m, x' ≠ .complex k n m := fun k n m e => by subst e; exact hx.no_complex
    have key : ∀ b, eqE_ T 12 t x y = some b → (isConstE xo || isConstE yo || !bothNil x y) = true →
        (eqGuard op t xo yo x' y').run P w = .ok () w ∧ (Op.equalIn 10000 t x' y').run P w = .ok b w := by
      intro b hb hc
      refine ⟨eqGuard_run op t xo yo _ _ ?_ ?_ w, eqE_run k 12 t x y b x' y' hb hx hy 9988 w⟩
      · intro cs ds e1 e2
        subst e1; subst e2
        obtain ⟨as, rfl, _⟩ := hx.inv_agg
        obtain ⟨bs, rfl, _⟩ := hy.inv_agg
        obtain ⟨ti, ht, hq⟩ := eqE_agg hb
        exact ((k.ty t ti ht).eqs hq).1
      · intro e1 e2
        subst e1; subst e2
        have := hx.inv_nilIface; subst this
        have := hy.inv_nilIface; subst this
        simpa [bothNil] using hc
    split at e
    · obtain ⟨b, hb, e⟩ := ob_some e
      obtain ⟨hc, e⟩ := ck_some e
      cases e
      obtain ⟨hg, hq⟩ := key b hb hc
      have := (eqlNeq .eql t x' y' b w hq h1 h2 h3 h4).1 rfl
      exact ⟨.bool b, by simp only [Sem.run_bind, hg, Result.andThen_ok, this], by simp [VR]⟩
    · obtain ⟨b, hb, e⟩ := ob_some e
      obtain ⟨hc, e⟩ := ck_some e
      cases e
      obtain ⟨hg, hq⟩ := key b hb hc
      have := (eqlNeq .neq t x' y' b w hq h1 h2 h3 h4).2 rfl
      exact ⟨.bool (!b), by simp only [Sem.run_bind, hg, Result.andThen_ok, this], by simp [VR]⟩
    · cases e

theorem unE_run {op : UnOp} {x r : AV} {x' : Value} (e : unE op x = some r) (hx : VR φ x x') (w : World) : ∃ v, (Op.unary op x').run P w = .ok v w ∧ VR φ r v := by
  unfold unE at e
  split at e
  · cases e; simp only [VR] at hx; subst hx
    exact ⟨_, by simp only [Op.unary, Op.intArith]; rfl, by simp [VR, wrapE_eq]⟩
  · rename_i k n
    cases e; simp only [VR] at hx; subst hx
    refine ⟨.int k (backE k (Nat.xor (lowE k (if k.signed then -1 else k.max)) (lowE k n))), ?_, ?_⟩
    · simp only [Op.unary]; exact intBits_run .xor k _ n _ (.inr (.inr ⟨rfl, rfl⟩)) w
    · simp only [VR]
      congr 2
      have hl : lowE k (if k.signed then -1 else k.max) = IntKind.modulus k - 1 := by cases k <;> rfl
      rw [hl, modulus_eq]
      have h2 := lowE_lt k n
      rw [modulus_eq] at h2
      have h3 : (BitVec.allOnes k.bits ^^^ BitVec.ofNat k.bits (lowE k n)).toNat = (~~~ BitVec.ofNat k.bits (lowE k n)).toNat := by
        rw [BitVec.allOnes_xor]
      rw [BitVec.toNat_xor, BitVec.toNat_not, BitVec.toNat_allOnes, BitVec.toNat_ofNat, Nat.mod_eq_of_lt h2] at h3
      exact h3
  · cases e; simp only [VR] at hx; subst hx
    exact ⟨_, by simp only [Op.unary]; rfl, by simp [VR]⟩
  · cases e

end Go.Ev

/-
  A small evaluator of the model's programs: indexes, fields, slices, constructions.
-/
namespace Go.Ev
open Go Go.RowKit

variable {P : Program} {T : Tab} {B : Nat} {W w : World} {φ : Phi} {h : AHeap}

theorem natOf_R {a : AV} {n : Nat} {v : Value} (e : natOf a = some n) (hv : VR φ a v) : ∃ k, v = .int k (n : Int) := by
  cases a <;> simp only [natOf] at e <;> first | (cases e; done) | skip
  rename_i k m
  cases m with
  | ofNat m => cases e; simp only [VR] at hv; exact ⟨k, hv⟩
  | negSucc m => cases e

theorem asIntOf_run (k : Go.IntKind) (n : Int) (w : World) : (asIntOf (.int k n)).run P w = .ok (k, n) w := rfl
theorem asInt_run (k : Go.IntKind) (n : Int) (w : World) : (asInt (.int k n)).run P w = .ok n w := rfl

theorem mul_add_zero (b base o n : Nat) : (⟨b, base + o, none⟩ : Addr).add n = ⟨b, base + (o + n), none⟩ := by
  rw [addr_add, Nat.add_assoc]

theorem indexAddrE_run (k : TabOk P T) {t : TypeId} {x ix r : AV} {x' ix' : Value} (e : indexAddrE T t x ix = some r) (hx : VR φ x x') (hi : VR φ ix ix') (w : World) :
    ∃ v, (Instr.indexAt t x' ix').run P w = .ok v w ∧ VR φ r v := by
  replace e := ob_some e; obtain ⟨ti, ht, e⟩ := e
  replace e := ob_some e; obtain ⟨i, hix, e⟩ := e
  have kt := k.ty t ti ht
  obtain ⟨ki, rfl⟩ := natOf_R hix hi
  split at e
  · rename_i n el l o hd
    replace e := ob_some e; obtain ⟨te, hte, e⟩ := e
    replace e := ck_some e; obtain ⟨hsz, e⟩ := e
    replace e := ck_some e; obtain ⟨hlt, e⟩ := e
    cases e
    have hlt := blt_lt hlt
    simp only [VR] at hx
    obtain ⟨p, hp, rfl⟩ := hx
    refine ⟨.pointer (some ⟨p.b, p.base + (o + i * te.size), none⟩), ?_, by simp only [VR]; exact ⟨p, hp, rfl⟩⟩
    have hcond : (0 : Int) ≤ (i : Int) ∧ (i : Int) < (n : Int) := by omega
    simp [Instr.indexAt, asIntOf_run, kt.und_run w, hd, Instr.sureAddr, (k.ty el te hte).size_run w, hcond, hlt, mul_add_zero]
  · rename_i el l o len cap hd
    replace e := ob_some e; obtain ⟨te, hte, e⟩ := e
    replace e := ck_some e; obtain ⟨hsz, e⟩ := e
    replace e := ck_some e; obtain ⟨hlt, e⟩ := e
    cases e
    have hlt := blt_lt hlt
    simp only [VR] at hx
    obtain ⟨p, a, c, hp, rfl, hc, ha, _⟩ := hx
    have ha := ha (by omega)
    subst ha
    refine ⟨.pointer (some ⟨p.b, p.base + (o + i * te.size), none⟩), ?_, by simp only [VR]; exact ⟨p, hp, rfl⟩⟩
    simp [Instr.indexAt, asIntOf_run, kt.und_run w, hd, (k.ty el te hte).size_run w, hlt, mul_add_zero]
  · cases e

theorem indexE_run (k : TabOk P T) {t : TypeId} {x ix r : AV} {x' ix' : Value} (e : indexE T t x ix = some r) (hx : VR φ x x') (hi : VR φ ix ix') (w : World) :
    ∃ v, (Instr.index t x' ix').run P w = .ok v w ∧ VR φ r v := by
  replace e := ob_some e; obtain ⟨ti, ht, e⟩ := e
  replace e := ob_some e; obtain ⟨i, hix, e⟩ := e
  have kt := k.ty t ti ht
  obtain ⟨ki, rfl⟩ := natOf_R hix hi
  split at e
  · rename_i n el cs hd
    replace e := ob_some e; obtain ⟨te, hte, e⟩ := e
    replace e := ck_some e; obtain ⟨hlt, e⟩ := e
    have hlt := blt_lt hlt
    simp only [VR] at hx
    obtain ⟨vs, rfl, hx⟩ := hx
    obtain ⟨v, hv, hr⟩ := part_run k e hx w
    exact ⟨v, by simp [Instr.index, asIntOf_run, kt.und_run w, hd, (k.ty el te hte).size_run w, hlt, hv], hr⟩
  · rename_i s hd
    replace e := ob_some e; obtain ⟨b, hb, e⟩ := e
    cases e
    simp only [VR] at hx
    subst hx
    refine ⟨.int .u8 b.toNat, ?_, by simp [VR]⟩
    have hb' : (⟨s.toArray⟩ : ByteArray)[i]? = some b := by
      obtain ⟨hlt, hbe⟩ := List.getElem?_eq_some_iff.1 hb
      have : i < (⟨s.toArray⟩ : ByteArray).size := by simpa [ByteArray.size] using hlt
      rw [getElem?_pos (⟨s.toArray⟩ : ByteArray) i this]
      congr 1
    simp [Instr.index, asIntOf_run, kt.und_run w, hd, hb']
  · cases e

theorem fieldAddrE_run (k : TabOk P T) {t : TypeId} {x r : AV} {x' : Value} {f : Nat} (e : fieldAddrE T t x f = some r) (hx : VR φ x x') (w : World) :
    ∃ v, (Instr.fieldAt t x' f).run P w = .ok v w ∧ VR φ r v := by
  replace e := ob_some e; obtain ⟨ti, ht, e⟩ := e
  have kt := k.ty t ti ht
  split at e
  · rename_i fields l o hd
    replace e := ob_some e; obtain ⟨fd, hf, e⟩ := e
    replace e := ob_some e; obtain ⟨tf, htf, e⟩ := e
    replace e := ck_some e; obtain ⟨hsz, e⟩ := e
    cases e
    have hsz : tf.size ≠ 0 := by have := ble_le hsz; omega
    simp only [VR] at hx
    obtain ⟨p, hp, rfl⟩ := hx
    refine ⟨.pointer (some ⟨p.b, p.base + (o + fd.offset), none⟩), ?_, by simp only [VR]; exact ⟨p, hp, rfl⟩⟩
    simp [Instr.fieldAt, kt.und_run w, hd, hf, Instr.sureAddr, fieldPlace, (k.ty fd.type tf htf).size_run w, hsz, mul_add_zero]
  · cases e

theorem fieldE_run (k : TabOk P T) {t : TypeId} {x r : AV} {x' : Value} {f : Nat} (e : fieldE T t x f = some r) (hx : VR φ x x') (w : World) :
    ∃ v, (Instr.field t x' f).run P w = .ok v w ∧ VR φ r v := by
  replace e := ob_some e; obtain ⟨ti, ht, e⟩ := e
  have kt := k.ty t ti ht
  split at e
  · rename_i fields cs hd
    replace e := ob_some e; obtain ⟨fd, hf, e⟩ := e
    simp only [VR] at hx
    obtain ⟨vs, rfl, hx⟩ := hx
    obtain ⟨v, hv, hr⟩ := part_run k e hx w
    exact ⟨v, by simp [Instr.field, kt.und_run w, hd, hf, asAgg, hv], hr⟩
  · cases e

/- bounds that may be left out -/
def OptR (φ : Phi) : Option AV → Option Value → Prop
  | none, none => True
  | some a, some v => VR φ a v
  | _, _ => False

theorem boundE_R {d n : Nat} {a : Option AV} {v : Option Value} (e : boundE d a = some n) (hv : OptR φ a v) : (v = none ∧ n = d) ∨ ∃ k, v = some (.int k (n : Int)) := by
  cases a with
  | none => cases v with
    | none => cases e; exact .inl ⟨rfl, rfl⟩
    | some v => exact hv.elim
  | some a => cases v with
    | none => exact hv.elim
    | some v => obtain ⟨k, rfl⟩ := natOf_R e hv; exact .inr ⟨k, rfl⟩

theorem sliceBound_run (k : Go.IntKind) (n y : Nat) (c : BoundsCode) (hle : n ≤ y) (w : World) : (Instr.sliceBound (.int k (n : Int)) y c).run P w = .ok n w := by
  simp [Instr.sliceBound, asIntOf_run, hle]

theorem sliceBounds_run {isS : Bool} {len cap l hh : Nat} {lo hi : Option AV} {lo' hi' : Option Value} (e1 : boundE len hi = some hh) (e0 : boundE 0 lo = some l)
    (r1 : OptR φ hi hi') (r0 : OptR φ lo lo') (hc : hh ≤ cap) (hl : l ≤ hh) (w : World) :
    (Instr.sliceBounds isS len cap lo' hi' none).run P w = .ok (l, hh, cap) w := by
  rcases boundE_R e1 r1 with ⟨rfl, rfl⟩ | ⟨k1, rfl⟩ <;> rcases boundE_R e0 r0 with ⟨rfl, rfl⟩ | ⟨k0, rfl⟩ <;>
    simp [Instr.sliceBounds, sliceBound_run _ _ _ _ hc, sliceBound_run _ _ _ _ hl]

theorem sliceBounds_max_run {isS : Bool} {len cap l hh m : Nat} {lo : Option AV} {hv mv : AV} {lo' : Option Value} {hv' mv' : Value} (em : natOf mv = some m) (e1 : natOf hv = some hh) (e0 : boundE 0 lo = some l)
    (rm : VR φ mv mv') (r1 : VR φ hv hv') (r0 : OptR φ lo lo') (hm : m ≤ cap) (hc : hh ≤ m) (hl : l ≤ hh) (w : World) :
    (Instr.sliceBounds isS len cap lo' (some hv') (some mv')).run P w = .ok (l, hh, m) w := by
  obtain ⟨km, rfl⟩ := natOf_R em rm
  obtain ⟨k1, rfl⟩ := natOf_R e1 r1
  rcases boundE_R e0 r0 with ⟨rfl, rfl⟩ | ⟨k0, rfl⟩ <;>
    simp [Instr.sliceBounds, sliceBound_run _ _ _ _ hm, sliceBound_run _ _ _ _ hc, sliceBound_run _ _ _ _ hl]

theorem extract_mk (s : List UInt8) (l hh : Nat) : (⟨s.toArray⟩ : ByteArray).extract l hh = ⟨((s.drop l).take (hh - l)).toArray⟩ := by
  apply ByteArray.ext
  simp [List.extract_eq_take_drop]

/- a part of a slice -/
theorem slice_part {φ : Phi} {l o hh lo m c : Nat} {cap : Cap} {p : Pl} {a : Addr} {es : Nat} (hp : φ l = some p) (hlen : hh ≤ m) (hlo : lo ≤ hh) (hm : m ≤ c)
    (ha : 0 < c → a = ⟨p.b, p.base + o, none⟩)
    (hcap : match cap with | .ex k => m - lo = k | .op e => m = c ∧ e = es ∧ p.base + o + c * es = p.n) :
    VR φ (.slice l (o + lo * es) (hh - lo) cap) (.slice (if m = lo then some a else (some a).map (·.add (lo * es))) (hh - lo) (m - lo)) := by
  simp only [VR]
  refine ⟨p, if m = lo then a else a.add (lo * es), m - lo, hp, by split <;> rfl, by omega, ?_, ?_⟩
  · intro h0
    rw [if_neg (by omega), ha (by omega), mul_add_zero]
  · cases cap with
    | ex k => exact hcap
    | op e =>
      obtain ⟨rfl, rfl, h3⟩ := hcap
      have : (m - lo) * e + lo * e = m * e := by rw [← Nat.add_mul]; congr 1; omega
      show p.base + (o + lo * e) + (m - lo) * e = p.n
      omega

theorem sliceE_run (k : TabOk P T) {t : TypeId} {x r : AV} {lo hi mx : Option AV} {x' : Value} {lo' hi' mx' : Option Value} (e : sliceE T t x lo hi mx = some r) (hx : VR φ x x')
    (r0 : OptR φ lo lo') (r1 : OptR φ hi hi') (r2 : OptR φ mx mx') (w : World) : ∃ v, (Instr.sliceAt t x' lo' hi' mx').run P w = .ok v w ∧ VR φ r v := by
  replace e := ob_some e; obtain ⟨ti, ht, e⟩ := e
  have kt := k.ty t ti ht
  split at e
  · rename_i s hd
    cases mx with
    | some m => cases e
    | none =>
      cases mx' with
      | some _ => exact r2.elim
      | none =>
      replace e := ob_some e; obtain ⟨hh, h1, e⟩ := e
      replace e := ob_some e; obtain ⟨l, h0, e⟩ := e
      replace e := ck_some e; obtain ⟨hc, e⟩ := e
      replace e := ck_some e; obtain ⟨hl, e⟩ := e
      cases e
      have hc := ble_le hc
      have hl := ble_le hl
      simp only [VR] at hx
      subst hx
      have hb := sliceBounds_run (P := P) (isS := false) (cap := s.length) h1 h0 r1 r0 hc hl w
      refine ⟨.string ⟨((s.drop l).take (hh - l)).toArray⟩, ?_, by simp [VR]⟩
      have hsz : (⟨s.toArray⟩ : ByteArray).size = s.length := by simp [ByteArray.size]
      simp [Instr.sliceAt, Instr.slice, kt.und_run w, hd, hsz, hb, extract_mk]
  · rename_i n el p0 o hd
    replace e := ob_some e; obtain ⟨te, hte, e⟩ := e
    cases mx with
    | some m => cases e
    | none =>
      cases mx' with
      | some _ => exact r2.elim
      | none =>
      replace e := ob_some e; obtain ⟨hh, h1, e⟩ := e
      replace e := ob_some e; obtain ⟨l, h0, e⟩ := e
      replace e := ck_some e; obtain ⟨hc, e⟩ := e
      replace e := ck_some e; obtain ⟨hl, e⟩ := e
      cases e
      have hc := ble_le hc
      have hl := ble_le hl
      simp only [VR] at hx
      obtain ⟨p, hp, rfl⟩ := hx
      have hb := sliceBounds_run (P := P) (isS := false) (cap := n) h1 h0 r1 r0 hc hl w
      refine ⟨_, ?_, slice_part (es := te.size) (a := ⟨p.b, p.base + o, none⟩) (c := n) hp hc hl (Nat.le_refl n) (fun _ => rfl) rfl⟩
      simp only [Instr.sliceAt, Sem.run_bind, kt.und_run w, hd, Result.andThen_ok, Instr.sureAddr, Sem.run_pure, hb, (k.ty el te hte).size_run w]
      congr 2
      split <;> rfl
  · rename_i e0 hd
    replace e := ob_some e; obtain ⟨te, hte, e⟩ := e
    cases mx with
    | some m => cases e
    | none =>
      cases mx' with
      | some _ => exact r2.elim
      | none =>
      replace e := ob_some e; obtain ⟨hh, h1, e⟩ := e
      replace e := ob_some e; obtain ⟨l, h0, e⟩ := e
      replace e := ck_some e; obtain ⟨hc, e⟩ := e
      replace e := ck_some e; obtain ⟨hl, e⟩ := e
      cases e
      have hc := ble_le hc
      have hl := ble_le hl
      simp only [VR] at hx
      subst hx
      have hb := sliceBounds_run (P := P) (isS := true) (cap := 0) h1 h0 r1 r0 hc hl w
      obtain rfl : hh = 0 := by omega
      obtain rfl : l = 0 := by omega
      have hz := (k.ty e0 te hte).size_run w
      exact ⟨.slice none 0 0, by simp [Instr.sliceAt, Instr.slice, kt.und_run w, hd, hb, hz], by simp [VR]⟩
  · rename_i el p0 o len cap hd
    replace e := ob_some e; obtain ⟨te, hte, e⟩ := e
    simp only [VR] at hx
    obtain ⟨p, a, c, hp, rfl, hlc, ha, hcap⟩ := hx
    cases mx with
    | none =>
      cases mx' with
      | some _ => exact r2.elim
      | none =>
      replace e := ob_some e; obtain ⟨hh, h1, e⟩ := e
      replace e := ob_some e; obtain ⟨l, h0, e⟩ := e
      replace e := ck_some e; obtain ⟨hc, e⟩ := e
      replace e := ck_some e; obtain ⟨hl, e⟩ := e
      replace e := ck_some e; obtain ⟨hf, e⟩ := e
      cases e
      have hc := ble_le hc
      have hl := ble_le hl
      have hcc : hh ≤ c := by
        cases cap with
        | ex k => simp only [Cap.most] at hcap hc; omega
        | op e => simp only [Cap.most] at hc; omega
      have hb := sliceBounds_run (P := P) (isS := true) (cap := c) h1 h0 r1 r0 hcc hl w
      cases cap with
      | ex k0 =>
        refine ⟨_, ?_, slice_part (es := te.size) (a := a) (c := c) (m := c) hp hcc hl (Nat.le_refl c) ha (by simp only [Cap.less] at hcap ⊢; omega)⟩
        simp [Instr.sliceAt, Instr.slice, kt.und_run w, hd, hb, (k.ty el te hte).size_run w]
      | op e =>
        have hfe := beq_eq hf
        subst hfe
        refine ⟨_, ?_, slice_part (es := te.size) (a := a) (c := c) (m := c) (cap := .op te.size) hp hcc hl (Nat.le_refl c) ha ⟨rfl, rfl, hcap⟩⟩
        simp [Instr.sliceAt, Instr.slice, kt.und_run w, hd, hb, (k.ty el te hte).size_run w]
    | some m =>
      cases mx' with
      | none => exact r2.elim
      | some m' =>
      cases hi with
      | none => cases e
      | some hv =>
      cases hi' with
      | none => exact r1.elim
      | some hv' =>
      replace e := ob_some e; obtain ⟨mm, hm, e⟩ := e
      replace e := ob_some e; obtain ⟨hh, h1, e⟩ := e
      replace e := ob_some e; obtain ⟨l, h0, e⟩ := e
      replace e := ck_some e; obtain ⟨hcm, e⟩ := e
      replace e := ck_some e; obtain ⟨hc, e⟩ := e
      replace e := ck_some e; obtain ⟨hl, e⟩ := e
      cases e
      have hcm := ble_le hcm
      have hc := ble_le hc
      have hl := ble_le hl
      have hcc : mm ≤ c := by
        cases cap with
        | ex k => simp only [Cap.most] at hcap hcm; omega
        | op e => simp only [Cap.most] at hcm; omega
      have hb := sliceBounds_max_run (P := P) (isS := true) (len := len) hm h1 h0 r2 r1 r0 hcc hc hl w
      refine ⟨_, ?_, slice_part (es := te.size) (a := a) (c := c) (m := mm) hp hc hl hcc ha rfl⟩
      simp [Instr.sliceAt, Instr.slice, kt.und_run w, hd, hb, (k.ty el te hte).size_run w]
  · cases e

end Go.Ev

/-
  A small evaluator of the model's programs: constructions; conversions; memory that is made.
-/
namespace Go.Ev
open Go Go.RowKit

variable {P : Program} {T : Tab} {B : Nat} {W w : World} {φ : Phi} {h : AHeap}

/- what an operation that may make memory comes to -/
def Res (P : Program) (B : Nat) (W : World) (φ : Phi) (h : AHeap) (w : World) (m : Sem Value) (v : AV) (ho : Option AHeap) : Prop :=
  ∃ v' w' φ', m.run P w = .ok v' w' ∧ φ.le φ' ∧ VR φ' v v' ∧ Sim B W φ' (AHeap.or ho h) w'

theorem Res.quiet {m : Sem Value} {v : AV} {v' : Value} (s : Sim B W φ h w) (hr : m.run P w = .ok v' w) (hv : VR φ v v') : Res P B W φ h w m v none :=
  ⟨v', w, φ, hr, Phi.le_refl φ, hv, s⟩

/- filling in parts -/
theorem foldl_over : ∀ (vs : List Value) (off j : Nat) (cells : List Value), off + j + vs.length ≤ cells.length →
    (vs.zipIdx j).foldl (fun (cs : Array Value) (x : Value × Nat) => cs.setIfInBounds (off + x.2) x.1) cells.toArray = (overL cells (off + j) vs).toArray
  | [], off, j, cells, _ => by simp [overL]
  | v :: vs, off, j, cells, hle => by
    simp only [List.zipIdx_cons, List.foldl_cons]
    have hlt : off + j < cells.length := by simp at hle; omega
    have e0 : cells.toArray.setIfInBounds (off + j) v = (cells.set (off + j) v).toArray := by simp
    rw [e0, foldl_over vs off (j + 1) (cells.set (off + j) v) (by simp at hle ⊢; omega)]
    congr 1
    unfold overL
    have e1 : (cells.set (off + j) v).take (off + (j + 1)) = cells.take (off + j) ++ [v] := by
      rw [← Nat.add_assoc, List.take_add_one, List.getElem?_set_self hlt, List.take_set_of_le (Nat.le_refl _)]
      rfl
    rw [e1]
    have e2 : (cells.set (off + j) v).drop (off + (j + 1) + vs.length) = cells.drop (off + j + (v :: vs).length) := by
      rw [List.drop_set_of_lt (by omega)]
      congr 1
      simp; omega
    rw [e2]; simp

def PartsR (φ : Phi) : List (Nat × AV) → List (Nat × Value) → Prop
  | [], qs => qs = []
  | (i, a) :: ps, qs => ∃ v r, qs = (i, v) :: r ∧ VR φ a v ∧ PartsR φ ps r

theorem fillE_R {place : Nat → Option (Nat × Nat)} {place' : Nat → Option (Nat × Nat)} (hpl : ∀ i x, place i = some x → place' i = some x) : ∀ {ps : List (Nat × AV)} {qs : List (Nat × Value)} {cs r : List AV} {cs' : List Value},
    fillE place cs ps = some r → PartsR φ ps qs → VRs φ cs cs' → ∃ r', Instr.fill place' cs'.toArray qs = some (List.toArray r') ∧ VRs φ r r'
  | [], qs, cs, r, cs', e, hp, hc => by
    simp only [PartsR] at hp; subst hp; cases e; exact ⟨cs', rfl, hc⟩
  | (i, a) :: ps, qs, cs, r, cs', e, hp, hc => by
    simp only [PartsR] at hp
    obtain ⟨v, q, rfl, hv, hp⟩ := hp
    replace e := ob_some e; obtain ⟨⟨off, size⟩, hi, e⟩ := e
    replace e := ck_some e; obtain ⟨hs, e⟩ := e
    replace e := ck_some e; obtain ⟨hle, e⟩ := e
    have hs := beq_eq hs
    have hle := ble_le hle
    have hvc := hv.cells
    have hl := hvc.length
    have hl2 := hc.length
    have hsz : v.cells.size = a.cells.length := by rw [← hl]; simp
    obtain ⟨r', hr', hrr⟩ := fillE_R hpl e hp (hc.splice off hvc)
    refine ⟨r', ?_, hrr⟩
    simp only [Instr.fill, hpl i _ hi]
    rw [if_neg (by simp [hsz, hs]; omega)]
    rw [← hr']
    congr 1
    have := foldl_over v.cells.toList off 0 cs' (by simp [hsz]; omega)
    rw [Nat.add_zero] at this
    rw [show (List.take off cs' ++ (v.cells.toList ++ List.drop (off + v.cells.toList.length) cs')) = overL cs' off v.cells.toList from rfl, ← this]
    rw [← Array.foldl_toList]
    rw [Array.toList_zipIdx]

theorem evalParts_R {env : Env} {a : Act} (k : EnvR φ env a) : ∀ {ps : List (Nat × Operand)} {qs : List (Nat × AV)}, evalParts env ps = some qs → PartsR φ qs (ps.map fun (i, x) => (i, a.eval x))
  | [], qs, e => by cases e; simp [PartsR]
  | (i, x) :: ps, qs, e => by
    replace e := ob_some e; obtain ⟨v, hv, e⟩ := e
    replace e := ob_some e; obtain ⟨r, hr, e⟩ := e
    cases e
    simp only [List.map_cons, PartsR]
    exact ⟨_, _, rfl, k.eval hv, evalParts_R k hr⟩

theorem zero_cells {t : TypeId} {ti : Ti} (kt : TiOk P t ti) : ∃ i z, P.info? t = some i ∧ i.zero = some z ∧ i.size = ti.size ∧ i.bytes = ti.bytes ∧ ∀ φ, VRs φ ti.zero z.cells.toList := by
  obtain ⟨i, z, h1, h2, h3, h4, h5⟩ := kt.inf
  refine ⟨i, z, h1, h4, h2, h3, fun φ => ?_⟩
  have := (h5 φ).cells
  rw [kt.zer] at this; exact this

theorem places_some (k : TabOk P T) : ∀ (fs : List Field), (fs.all fun f => match T.ty.get f.type with | some _ => true | none => false) = true →
    ∃ pl, fs.mapM (fun f => (P.info? f.type).map fun i => (f.offset, i.size)) = some pl ∧ ∀ (i : Nat) (f : Field) (tf : Ti), fs[i]? = some f → T.ty.get f.type = some tf → pl[i]? = some (f.offset, tf.size)
  | [], _ => ⟨[], by simp, by simp⟩
  | f :: fs, hall => by
    simp only [List.all_cons, Bool.and_eq_true] at hall
    obtain ⟨h1, h2⟩ := hall
    obtain ⟨pl, hp, hq⟩ := places_some k fs h2
    cases ht : T.ty.get f.type with
    | none => rw [ht] at h1; cases h1
    | some tf =>
      obtain ⟨i, z, hi, hs, _⟩ := (k.ty _ _ ht).inf
      refine ⟨(f.offset, i.size) :: pl, by simp [List.mapM_cons, hi, hp], ?_⟩
      intro j g tg hj htg
      cases j with
      | zero => simp at hj; subst hj; rw [ht] at htg; cases htg; simp [hs]
      | succ j => simp at hj; simpa using hq j g tg hj htg

theorem buildE_run (k : TabOk P T) {t : TypeId} {ps : List (Nat × AV)} {r : AV} {qs : Array (Nat × Value)} (e : buildE T t ps = some r) (hp : PartsR φ ps qs.toList) (w : World) :
    ∃ v, (Instr.build t qs).run P w = .ok v w ∧ VR φ r v := by
  replace e := ob_some e; obtain ⟨ti, ht, e⟩ := e
  have kt := k.ty t ti ht
  obtain ⟨i, z, hi, hz, hs, hb, hzr⟩ := zero_cells kt
  split at e
  · rename_i fields hd
    replace e := ck_some e; obtain ⟨hall, e⟩ := e
    replace e := ob_some e; obtain ⟨cs, hf, e⟩ := e
    cases e
    obtain ⟨pl, hpl, hq⟩ := places_some k fields.toList hall
    obtain ⟨r', hr', hrr⟩ := fillE_R (place' := (pl.toArray[·]?)) (fun j x hj => by
      replace hj := ob_some hj; obtain ⟨f, hf1, hj⟩ := hj
      replace hj := ob_some hj; obtain ⟨tf, htf, hj⟩ := hj
      cases hj
      have := hq j f tf (by simpa using hf1) htf
      simpa using this) hf hp (hzr φ)
    refine ⟨.agg r'.toArray, run_build w t qs r'.toArray ?_, by simp only [VR]; exact ⟨r', rfl, hrr⟩⟩
    simp only [Program.built, hi, kt.und, hd, hz, hpl]
    simpa using hr'
  · rename_i n e0 hd
    replace e := ob_some e; obtain ⟨te, hte, e⟩ := e
    replace e := ob_some e; obtain ⟨cs, hf, e⟩ := e
    cases e
    obtain ⟨ie, ze, hie, hze, hse, _⟩ := zero_cells (k.ty e0 te hte)
    obtain ⟨r', hr', hrr⟩ := fillE_R (place' := fun j => some (j * ie.size, ie.size)) (fun j x hj => by cases hj; rw [hse]) hf hp (hzr φ)
    refine ⟨.agg r'.toArray, run_build w t qs r'.toArray ?_, by simp only [VR]; exact ⟨r', rfl, hrr⟩⟩
    simp only [Program.built, hi, kt.und, hd, hz, hie]
    simpa using hr'
  · cases e

/- a new row, all of whose cells are known -/
theorem newRow_run (s : Sim B W φ h w) {cs : List AV} {opn : Bool} {l : Nat} {h' : AHeap} (hn : newE cs opn h = some (l, h')) {vs : List Value} (hr : VRs φ cs vs) (el : TypeId) :
    (newRow el vs.toArray).run P w = .ok ⟨w.heap.size, 0, none⟩ { w with heap := w.heap.push (.cells vs.toArray el) } ∧
    Sim B W (φ.add l ⟨w.heap.size, 0, vs.length⟩) h' { w with heap := w.heap.push (.cells vs.toArray el) } ∧ φ.le (φ.add l ⟨w.heap.size, 0, vs.length⟩) := by
  refine ⟨by simp [newRow], ?_, ?_⟩
  · have := newE_run s hn hr [] el 0 0 (fun i _ => by omega) (w' := { w with heap := w.heap.push (.cells vs.toArray el) }) rfl rfl rfl (by simp)
      (fun k hk => by simp [Array.getElem?_push, Nat.ne_of_lt hk]) (by simp)
    simpa using this.1
  · have := newE_run s hn hr [] el 0 0 (fun i _ => by omega) (w' := { w with heap := w.heap.push (.cells vs.toArray el) }) rfl rfl rfl (by simp)
      (fun k hk => by simp [Array.getElem?_push, Nat.ne_of_lt hk]) (by simp)
    exact Phi.le_add _ this.2.1

theorem ptr_new {l b n : Nat} : VR (φ.add l ⟨b, 0, n⟩) (.ptr l 0) (.pointer (some ⟨b, 0, none⟩)) := by
  simp only [VR]; exact ⟨_, Phi.add_same _ _ _, rfl⟩

theorem alloc_run (k : TabOk P T) (s : Sim B W φ h w) {t : TypeId} {ti : Ti} {l : Nat} {h' : AHeap} (ht : T.ty.get t = some ti) (hn : newE ti.zero false h = some (l, h')) :
    Res P B W φ h w (Instr.alloc t true (.tuple #[])) (.ptr l 0) (some h') := by
  obtain ⟨i, z, hi, hz, hs, hb, hzr⟩ := zero_cells (k.ty t ti ht)
  obtain ⟨h1, h2, h3⟩ := newRow_run (P := P) s hn (hzr φ) t
  refine ⟨_, _, _, ?_, h3, ptr_new, h2⟩
  have hzv : (zeroValue t).run P w = .ok z w := by simp [zeroValue, typeInfo, hi, hz]
  simp only [Instr.alloc, Sem.run_bind, hzv, Result.andThen_ok, newVar]
  have : z.cells.toList.toArray = z.cells := by simp
  rw [this] at h1
  rw [h1]; rfl

theorem box_run (s : Sim B W φ h w) {a : AV} {v : Value} {l : Nat} {h' : AHeap} (hv : VR φ a v) (hn : newE a.cells false h = some (l, h')) (t : TypeId) :
    Res P B W φ h w (Instr.box t v) (.ptr l 0) (some h') := by
  obtain ⟨h1, h2, h3⟩ := newRow_run (P := P) s hn hv.cells t
  refine ⟨_, _, _, ?_, h3, ptr_new, h2⟩
  have : v.cells.toList.toArray = v.cells := by simp
  rw [this] at h1
  simp only [Instr.box, newVar, Sem.run_bind, h1, Result.andThen_ok]; rfl

theorem rep_map (z : Array Value) : ∀ n, z.size ≠ 0 → ((Array.range (n * z.size)).map fun i => z[i % z.size]!) = ((List.replicate n z.toList).flatten).toArray := by
  intro n hz
  apply Array.ext
  · simp
  · intro i h1 h2
    simp at h1
    have hm : i % z.size < z.size := Nat.mod_lt _ (by omega)
    simp only [Array.getElem_map, Array.getElem_range, List.getElem_toArray]
    rw [getElem!_pos z _ hm]
    have key : ∀ (n i : Nat) (hi : i < ((List.replicate n z.toList).flatten).length), ((List.replicate n z.toList).flatten)[i] = z[i % z.size]'(Nat.mod_lt _ (by omega)) := by
      intro n
      induction n with
      | zero => intro i hi; simp at hi
      | succ n ih =>
        intro i hi
        simp only [List.replicate_succ, List.flatten_cons]
        by_cases hlt : i < z.size
        · rw [List.getElem_append_left (by simpa using hlt)]
          simp only [Array.getElem_toList]
          congr 1
          exact (Nat.mod_eq_of_lt hlt).symm
        · rw [List.getElem_append_right (by simpa using hlt)]
          rw [ih]
          congr 1
          simp only [Array.length_toList]
          exact (Nat.mod_eq_sub_mod (by omega)).symm
    exact (key n i (by simpa using h2)).symm

theorem slice_new {l b n c len : Nat} {cap : Cap} (hlen : len ≤ c) (hcap : match cap with | .ex k => c = k | .op es => c * es = n) :
    VR (φ.add l ⟨b, 0, n⟩) (.slice l 0 len cap) (.slice (some ⟨b, 0, none⟩) len c) := by
  simp only [VR]
  refine ⟨_, _, c, Phi.add_same _ _ _, rfl, hlen, fun _ => rfl, ?_⟩
  cases cap with
  | ex k => exact hcap
  | op es => simpa using hcap

theorem buildSliceE_run (k : TabOk P T) (s : Sim B W φ h w) {t : TypeId} {len : Nat} {ps : List (Nat × AV)} {r : AV} {ho : Option AHeap} {qs : Array (Nat × Value)} (e : buildSliceE T t len ps h = some (r, ho))
    (hp : PartsR φ ps qs.toList) : Res P B W φ h w (Instr.buildSlice t len qs) r ho := by
  replace e := ob_some e; obtain ⟨ti, ht, e⟩ := e
  have kt := k.ty t ti ht
  split at e
  · rename_i e0 hd
    replace e := ob_some e; obtain ⟨te, hte, e⟩ := e
    replace e := ck_some e; obtain ⟨h1, e⟩ := e
    replace e := ck_some e; obtain ⟨h2, e⟩ := e
    replace e := ck_some e; obtain ⟨h3, e⟩ := e
    replace e := ob_some e; obtain ⟨cs, hf, e⟩ := e
    replace e := ob_some e; obtain ⟨⟨l, h'⟩, hn, e⟩ := e
    cases e
    have h1 := ble_le h1
    have h2 := beq_eq h2
    have h3 := ble_le h3
    have ke := k.ty e0 te hte
    obtain ⟨i, z, hi, hz, hs, hb, hzr⟩ := zero_cells ke
    have hzl : z.cells.size = te.size := by have := (hzr φ).length; rw [h2] at this; simpa using this
    have hrep : VRs φ (repE te.zero len) ((List.replicate len z.cells.toList).flatten) := (hzr φ).rep len
    obtain ⟨r', hr', hrr⟩ := fillE_R (place' := fun j => some (j * te.size, te.size)) (fun j x hj => by cases hj; rfl) hf hp hrep
    obtain ⟨g1, g2, g3⟩ := newRow_run (P := P) s hn hrr e0
    refine ⟨_, _, _, ?_, g3, slice_new (c := len) (Nat.le_refl _) rfl, g2⟩
    have hzv : (zeroValue e0).run P w = .ok z w := by simp [zeroValue, typeInfo, hi, hz]
    have hcells : (Array.range (len * te.size)).map (fun j => z.cells[j % z.cells.size]!) = ((List.replicate len z.cells.toList).flatten).toArray := by
      rw [← hzl]; exact rep_map z.cells len (by omega)
    have hne : ¬ (len * te.size > 2 ^ 24) := by omega
    by_cases hl0 : len = 0
    · subst hl0
      simp only [Nat.zero_mul, List.replicate_zero, List.flatten_nil] at hcells hr'
      have hr0 : Array.range 0 = (#[] : Array Nat) := rfl
      simp [Instr.buildSlice, kt.und_run w, hd, ke.size_run w, hr0, hr', g1]
    · have hn0 : ¬ (len * te.size = 0) := by
        have : 0 < len * te.size := Nat.mul_pos (by omega) (by omega)
        omega
      simp only [Instr.buildSlice, Sem.run_bind, kt.und_run w, hd, Result.andThen_ok, ke.size_run w]
      rw [if_neg hne]
      simp only [if_neg hn0, Sem.run_bind, hzv, Result.andThen_ok, Sem.run_pure, hcells, hr', g1, pure_bind]
  · cases e

theorem makeSliceE_run (k : TabOk P T) (s : Sim B W φ h w) {t : TypeId} {a b r : AV} {ho : Option AHeap} {a' b' : Value} (e : makeSliceE T t a b h = some (r, ho))
    (ha : VR φ a a') (hb' : VR φ b b') : Res P B W φ h w (Instr.makeSlice t a' b') r ho := by
  replace e := ob_some e; obtain ⟨ti, ht, e⟩ := e
  have kt := k.ty t ti ht
  split at e
  · rename_i e0 hd
    replace e := ob_some e; obtain ⟨te, hte, e⟩ := e
    replace e := ob_some e; obtain ⟨n, hn, e⟩ := e
    replace e := ob_some e; obtain ⟨c, hc, e⟩ := e
    replace e := ck_some e; obtain ⟨h1, e⟩ := e
    replace e := ck_some e; obtain ⟨h2, e⟩ := e
    replace e := ck_some e; obtain ⟨h3, e⟩ := e
    replace e := ck_some e; obtain ⟨h4, e⟩ := e
    replace e := ck_some e; obtain ⟨h5, e⟩ := e
    replace e := ob_some e; obtain ⟨⟨l, h'⟩, hnew, e⟩ := e
    cases e
    have h1 := ble_le h1
    have h2 := ble_le h2
    have h3 := beq_eq h3
    have h4 := ble_le h4
    have h5 := ble_le h5
    obtain ⟨k1, rfl⟩ := natOf_R hn ha
    obtain ⟨k2, rfl⟩ := natOf_R hc hb'
    have ke := k.ty e0 te hte
    obtain ⟨i, z, hi, hz, hs, hb, hzr⟩ := zero_cells ke
    have hzl : z.cells.size = te.size := by have := (hzr φ).length; rw [h3] at this; simpa using this
    have hrep : VRs φ (repE te.zero c) ((List.replicate c z.cells.toList).flatten) := (hzr φ).rep c
    obtain ⟨g1, g2, g3⟩ := newRow_run (P := P) s hnew hrep e0
    refine ⟨_, _, _, ?_, g3, slice_new (c := c) h1 rfl, g2⟩
    have hw1 : Go.IntKind.i64.wrap (n : Int) = n := by
      exact wrap_small _ (by omega) (by omega)
    have hw2 : Go.IntKind.i64.wrap (c : Int) = c := by
      exact wrap_small _ (by omega) (by omega)
    have hinf : (typeInfo e0).run P w = .ok i w := by simp [typeInfo, hi]
    have hbb : ¬ ((i.bytes : Int) * (c : Int) > 281474976710656) := by
      rw [hb]
      have : ((te.bytes * c : Nat) : Int) = (te.bytes : Int) * (c : Int) := by simp
      omega
    have hzv : (zeroValue e0).run P w = .ok z w := by simp [zeroValue, typeInfo, hi, hz]
    have hcells : (Array.range (c * te.size)).map (fun j => z.cells[j % z.cells.size]!) = ((List.replicate c z.cells.toList).flatten).toArray := by
      rw [← hzl]; exact rep_map z.cells c (by omega)
    by_cases hc0 : c = 0
    · subst hc0
      have hn0 : n = 0 := by omega
      subst hn0
      simp only [List.replicate_zero, List.flatten_nil] at g1 ⊢
      have w0 : Go.IntKind.i64.wrap 0 = 0 := wrap_small _ (by omega) (by omega)
      have hr0 : Array.range 0 = (#[] : Array Nat) := rfl
      have h281 : ¬ ((281474976710656 : Int) < 0) := by omega
      simp [Instr.makeSlice, kt.und_run w, hd, asInt, asIntOf_run, hinf, w0, hr0, h281, ke.size_run w, g1]
    · have hn0 : ¬ (c * te.size = 0) := by
        have : 0 < c * te.size := Nat.mul_pos (by omega) (by omega)
        omega
      simp only [Instr.makeSlice, Sem.run_bind, kt.und_run w, hd, Result.andThen_ok, asInt, asIntOf_run, Sem.run_pure, hinf, hw1, hw2]
      have ht1 : (decide ((c : Int) < 0) || decide ((i.bytes : Int) * (c : Int) > 2 ^ 48)) = false := by simp; omega
      simp only [ht1, Bool.false_or]
      rw [if_neg (by simp; omega)]
      simp only [Sem.run_bind, run_askRoom, Result.andThen_ok, ke.size_run w, Int.toNat_natCast, if_neg hn0, hzv, Sem.run_pure, hcells, g1, pure_bind]
  · cases e

end Go.Ev
