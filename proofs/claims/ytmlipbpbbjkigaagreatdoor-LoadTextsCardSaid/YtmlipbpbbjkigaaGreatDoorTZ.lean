/- inputs: what it answers. -/
import Derived.Test.YtmlipbpbbjkigaaGreatDoorTY
set_option linter.unusedVariables false
set_option linter.unusedSimpArgs false
namespace Go.Proofs.YtmlipbpbbjkigaaGreatDoor
open Go Go.Ev Go.Proofs
set_option maxRecDepth 100000

theorem inputs_body (xs : List InD) (opn : Bool) (fz : Nat) (cp : Cap) (hn : xs.length ≤ 1048576) (hb : (inputsL xs).length ≤ 1152921504606846976) {B : Nat} {W w : World} {a : Act}
    (i : InSt B W 15 5 5 23 ⟨[(0, .slice 15 0 xs.length cp)], [.row (rowOf inC xs) opn fz false]⟩ a w) : (bodyOf Tryz.f17).wp Tryz.prog (Gives tabV Tryz.f17 (.str (inputsL xs)) B W 5 5 23) a w := by
  refine Leads.on tabV_ok (i_p0 xs opn fz cp) i fun a w i => ?_
  refine as_seq (by kernel_rfl) ?_
  refine Leads.on tabV_ok (i_p1 xs opn fz cp) i fun a w i => ?_
  refine loop_of (N := 60) (id := 0) tabV_ok (by kernel_rfl) (by kernel_rfl) (by kernel_rfl)
    (fun i => ⟨[(6, (.slice 15 0 xs.length cp)), (7, (.int .i64 (.ofNat xs.length))), (8, (.int .i64 (.ofNat i))), (3, acV 16 1 (wordsOf wIn (xs.take i)))], [(.row (rowOf inC xs) opn fz false), acR strC (wordsOf wIn (xs.take i))]⟩)
    (σ' := ⟨[(3, acV 15 1 (wordsOf wIn xs))], [acR strC (wordsOf wIn xs)]⟩)
    xs.length ?_ ?_ i fun a w i => ?_
  · intro j hj
    obtain ⟨x, hx⟩ : ∃ x, xs[j]? = some x := ⟨_, List.getElem?_eq_getElem hj⟩
    have e := wordsOf_take wIn hx
    have hl := wordsOf_len (f := wIn) (k := 2) (fun _ => rfl) (xs.take j)
    have hl2 : (xs.take j).length ≤ xs.length := by simp; omega
    rw [e]
    cases hw : wordsOf wIn (xs.take j) with
    | nil => exact ⟨_, i_l0 xs opn fz cp j x hj hn hx⟩
    | cons v vs => rw [hw] at hl; exact ⟨_, i_l1 xs opn fz cp j v vs x hj hn hx (by omega)⟩
  · rw [List.take_length]
    have hl := wordsOf_len (f := wIn) (k := 2) (fun _ => rfl) xs
    cases xs with
    | nil => exact ⟨_, i_e0 [] opn fz cp _ rfl⟩
    | cons x xs => exact ⟨_, i_e1 (x :: xs) opn fz cp _ x.path (idL x.id :: wordsOf wIn xs) rfl⟩
  unfold inputsL at hb ⊢
  cases hw : wordsOf wIn xs with
  | nil =>
    rw [hw] at i
    refine Leads.wp tabV_ok i_q0 i fun a w i => ?_
    exact ⟨.inr rfl, _, [.str (joinL [])], i, by kernel_rfl, rfl⟩
  | cons v vs =>
    rw [hw] at i hb
    refine Leads.wp tabV_ok (i_q1 v vs hb) i fun a w i => ?_
    exact ⟨.inr rfl, _, [.str (joinL (v :: vs))], i, by kernel_rfl, rfl⟩

def inputsR : List AV → AHeap → AV → Prop := fun args h v => ∃ l o xs opn fz wr, args = [slV l xs.length o] ∧ (o = none → xs = []) ∧ (o.isSome = true → h.get l = some (.row (rowOf inC xs) opn fz wr)) ∧ xs.length ≤ 1048576 ∧ (inputsL xs).length ≤ 1152921504606846976 ∧ v = .str (inputsL xs)

theorem inputsP_ok {T : Tab} (hg : T.glob = tabV.glob) : PurOk Tryz.prog T 17 (pOf inputsR) := by
  refine PurOk.of tabV_ok hg (fn := Tryz.f17) (c := bodyOf Tryz.f17) (n := 23) (depE := 5) (depH := 5) (by kernel_rfl) (by kernel_rfl) (by kernel_rfl) (by decide) fun args h v e => ?_
  obtain ⟨l, o, xs, opn, fz, wr, rfl, ho, hrow, hn, hb, rfl⟩ := pOf_some e
  cases o with
  | none =>
    obtain rfl := ho rfl
    refine ⟨rfl, [], [], [.nilslice], ⟨trivial, trivial, rfl, rfl, Nat.le_of_ble_eq_true rfl, Nat.le_of_ble_eq_true rfl, Nat.le_of_ble_eq_true rfl⟩, fun B W a w i => ?_⟩
    refine Leads.wp tabV_ok i_nil i fun a w i => ?_
    exact ⟨.inr rfl, _, [.str (inputsL [])], i, by kernel_rfl, rfl⟩
  | some c =>
    refine ⟨rfl, [.row (rowOf inC xs) opn fz false], [l], [.slice 15 0 xs.length c], ⟨⟨⟨_, hrow rfl, .inl ⟨rfl, rowOf_plain inC_plain _⟩, Nat.le_refl _, fun h => by cases h⟩, trivial⟩, trivial, rfl, rfl, Nat.le_of_ble_eq_true rfl, Nat.le_of_ble_eq_true rfl, Nat.le_of_ble_eq_true rfl⟩, fun B W a w i => ?_⟩
    exact inputs_body xs opn fz c hn hb i

/- cells tell what is the same of two lists -/
theorem bytesE_inj : ∀ {a b : List UInt8}, bytesE a = bytesE b → a = b
  | [], [], _ => rfl
  | [], _ :: _, h => by cases h
  | _ :: _, [], h => by cases h
  | x :: a, y :: b, h => by
    simp only [bytesE, List.cons.injEq, AV.int.injEq] at h
    have : x.toNat = y.toNat := by have := h.1.2; exact Int.ofNat.inj this
    rw [bytesE_inj h.2, UInt8.toNat_inj.1 this]
theorem inC_inj {x y : InD} (h : inC x = inC y) : x.path = y.path ∧ idL x.id = idL y.id := by
  unfold inC at h
  simp only [List.cons.injEq, AV.str.injEq] at h
  exact ⟨h.1, bytesE_inj h.2⟩
theorem rowOf_inC {β : Type} {g : InD → β} (hg : ∀ x y, inC x = inC y → g x = g y) : ∀ {xs ys : List InD}, rowOf inC xs = rowOf inC ys → xs.map g = ys.map g
  | [], [], _ => rfl
  | [], y :: ys, h => by have := congrArg List.length h; simp [rowOf, inC_len] at this; try omega
  | x :: xs, [], h => by have := congrArg List.length h; simp [rowOf, inC_len] at this; try omega
  | x :: xs, y :: ys, h => by
    have := List.append_inj (show inC x ++ rowOf inC xs = inC y ++ rowOf inC ys from h) rfl
    simp only [List.map_cons, hg x y this.1, rowOf_inC hg this.2]
theorem wordsOf_map {α : Type} (f : α → List (List UInt8)) : ∀ (l : List α), wordsOf f l = (l.map f).flatten
  | [] => rfl
  | a :: l => by simp [wordsOf, wordsOf_map f l]
theorem inputsL_cells {xs ys : List InD} (h : rowOf inC xs = rowOf inC ys) : inputsL xs = inputsL ys := by
  unfold inputsL
  rw [wordsOf_map, wordsOf_map, rowOf_inC (g := wIn) (fun x y h => by unfold wIn; rw [(inC_inj h).1, (inC_inj h).2]) h]
theorem inputs_of {l : Nat} {o : Option Cap} {xs : List InD} {opn : Bool} {fz : Nat} {wr : Bool} {h : AHeap} (ho : o = none → xs = []) (hrow : o.isSome = true → h.get l = some (.row (rowOf inC xs) opn fz wr)) (hn : xs.length ≤ 1048576) (hb : (inputsL xs).length ≤ 1152921504606846976) :
    pOf inputsR [slV l xs.length o] h = some (.str (inputsL xs)) := by
  refine pOf_of ⟨l, o, xs, opn, fz, wr, rfl, ho, hrow, hn, hb, rfl⟩ ?_
  rintro v' ⟨l', o', ys, opn', fz', wr', ha, ho', hrow', _, _, rfl⟩
  cases o with
  | none =>
    obtain rfl := ho rfl
    cases o' with
    | none => obtain rfl := ho' rfl; rfl
    | some _ => simp [slV] at ha
  | some c =>
    cases o' with
    | none => simp [slV] at ha
    | some c' =>
      simp only [slV, List.cons.injEq, AV.slice.injEq, and_true] at ha
      obtain ⟨rfl, _, _⟩ := ha
      have h1 := hrow rfl
      rw [hrow' rfl] at h1
      simp only [Option.some.injEq, AObj.row.injEq] at h1
      rw [inputsL_cells h1.1]
end Go.Proofs.YtmlipbpbbjkigaaGreatDoor
