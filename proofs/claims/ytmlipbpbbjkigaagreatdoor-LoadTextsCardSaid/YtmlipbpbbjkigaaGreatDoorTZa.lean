/- The reference's Text: what it answers. -/
import Derived.Test.YtmlipbpbbjkigaaGreatDoorTYa
set_option linter.unusedVariables false
set_option linter.unusedSimpArgs false
namespace Go.Proofs.YtmlipbpbbjkigaaGreatDoor
open Go Go.Ev Go.Proofs
set_option maxRecDepth 100000

theorem mem_join {w : List UInt8} {ws : List (List UInt8)} (h : w ∈ ws) : w.length ≤ (joinL ws).length := by
  rw [joinL_len]
  induction ws with
  | nil => cases h
  | cons v ws ih =>
    rcases List.mem_cons.1 h with rfl | h
    · simp [szL]; omega
    · have := ih h; simp [szL]; omega

def partC (p : PartD) (lf le ld : Nat) (of oe od : Option Cap) : List AV := [.str p.dir, .int .i64 p.kind, .str p.name, slV lf p.files.length of, slV le p.embeds.length oe, slV ld p.deps.length od, .int .i64 p.fault]

/- a slice's row is there -/
def rowAtV (h : AHeap) (l : Nat) (o : Option Cap) (cs : List AV) (opn : Bool) (fz : Nat) : Prop := ∃ o0 wr, h.get l = some o0 ∧ (o.isSome = true → o0 = .row cs opn fz wr)
structure PartAt (h : AHeap) (p : PartD) (lf le ld : Nat) (of oe od : Option Cap) (opf ope opd : Bool) (fzf fze fzd : Nat) : Prop where
  nf : of = none → p.files = []
  ne : oe = none → p.embeds = []
  nd : od = none → p.deps = []
  rf : rowAtV h lf of (rowOf inC p.files) opf fzf
  re : rowAtV h le oe (rowOf inC p.embeds) ope fze
  rd : rowAtV h ld od (rowOf depC p.deps) opd fzd
def HasPart (h : AHeap) (x : AV) (p : PartD) : Prop := ∃ lf le ld of oe od opf ope opd fzf fze fzd, x = .agg (partC p lf le ld of oe od) ∧ PartAt h p lf le ld of oe od opf ope opd fzf fze fzd
structure Small (p : PartD) (most : Nat) : Prop where
  files : p.files.length ≤ 1048576
  embeds : p.embeds.length ≤ 1048576
  deps : p.deps.length ≤ 1048576
  text : (textL p).length ≤ most

theorem like_rwV {h : AHeap} {l : Nat} {o : Option Cap} {cs : List AV} {opn : Bool} {fz : Nat} {r : Nat → Nat} {q : Nat → Bool} (k : rowAtV h l o cs opn fz) (hp : allNs noNames cs = true) : ∃ o0, h.get l = some o0 ∧ likeObj r q o0 (rwV o cs opn fz) := by
  obtain ⟨o0, wr, h1, h2⟩ := k
  refine ⟨o0, h1, ?_⟩
  cases o with
  | none => cases o0 <;> exact trivial
  | some c => rw [h2 rfl]; exact ⟨.inl ⟨rfl, hp⟩, Nat.le_refl _, fun h => by cases h⟩

theorem part_meets {h : AHeap} {p : PartD} {lf le ld : Nat} {of oe od : Option Cap} {opf ope opd : Bool} {fzf fze fzd : Nat} (k : PartAt h p lf le ld of oe od opf ope opd fzf fze fzd) {n : Nat} (hn : 1 ≤ n) :
    Meets 15 h [.agg (partC p lf le ld of oe od)] 5 n [rwV of (rowOf inC p.files) opf fzf, rwV oe (rowOf inC p.embeds) ope fze, rwV od (rowOf depC p.deps) opd fzd] [lf, le, ld] [.agg (partC p 15 16 17 of oe od)] := by
  refine ⟨⟨like_rwV k.rf (rowOf_plain inC_plain _), like_rwV k.re (rowOf_plain inC_plain _), like_rwV k.rd (rowOf_plain depC_plain _), trivial⟩, ?_, ?_, ?_, Nat.le_of_ble_eq_true rfl, Nat.le_of_ble_eq_true rfl, hn⟩
  · cases of <;> cases oe <;> cases od <;> exact trivial
  · cases of <;> cases oe <;> cases od <;> rfl
  · cases of <;> cases oe <;> cases od <;> rfl

theorem rtext_body (p : PartD) (of oe od : Option Cap) (opf ope opd : Bool) (fzf fze fzd : Nat) (hf : of = none → p.files = []) (he : oe = none → p.embeds = []) (hd : od = none → p.deps = []) (hs : Small p 1152921504606846976) {B : Nat} {W w : World} {a : Act}
    (i : InSt B W 15 6 5 48 ⟨[(0, .agg (partC p 15 16 17 of oe od))], [rwV of (rowOf inC p.files) opf fzf, rwV oe (rowOf inC p.embeds) ope fze, rwV od (rowOf depC p.deps) opd fzd]⟩ a w) :
    (bodyOf Tryz.f7).wp Tryz.prog (Gives tabX Tryz.f7 (.str (textL p)) B W 6 5 48) a w := by
  have ht := hs.text
  have m1 : (inputsL p.files).length ≤ 1152921504606846976 := Nat.le_trans (mem_join (ws := partW p) (by simp [partW])) ht
  have m2 : (inputsL p.embeds).length ≤ 1152921504606846976 := Nat.le_trans (mem_join (ws := partW p) (by simp [partW])) ht
  have m3 : (depsL p.deps).length ≤ 1152921504606846976 := Nat.le_trans (mem_join (ws := partW p) (by simp [partW])) ht
  have hld : od = none → p.deps.length = 0 := fun h => by rw [hd h]; rfl
  refine Leads.on tabX_ok (t_p0 p of oe od opf ope opd fzf fze fzd) i fun a w i => ?_
  refine as_seq (by kernel_rfl) ?_
  refine Leads.on tabX_ok (t_p1 p of oe od opf ope opd fzf fze fzd hld) i fun a w i => ?_
  refine loop_of (N := 60) (id := 0) tabX_ok (by kernel_rfl) (by kernel_rfl) (by kernel_rfl)
    (fun i => ⟨[(1, .ptr 15 0), (7, slV 18 p.deps.length od), (8, (.int .i64 (.ofNat p.deps.length))), (9, (.int .i64 (.ofNat i))), (3, acV 19 1 (wordsOf wDep (p.deps.take i)))],
      [(.row (partC p 16 17 18 of oe od) false 0 true), rwV of (rowOf inC p.files) opf fzf, rwV oe (rowOf inC p.embeds) ope fze, rwV od (rowOf depC p.deps) opd fzd, acR strC (wordsOf wDep (p.deps.take i))]⟩)
    (σ' := ⟨[(1, .ptr 15 0), (3, acV 19 1 (wordsOf wDep p.deps))], [(.row (partC p 16 17 18 of oe od) false 0 true), rwV of (rowOf inC p.files) opf fzf, rwV oe (rowOf inC p.embeds) ope fze, rwV od (rowOf depC p.deps) opd fzd, acR strC (wordsOf wDep p.deps)]⟩)
    p.deps.length ?_ ?_ i fun a w i => ?_
  · intro j hj
    obtain ⟨x, hx⟩ : ∃ x, p.deps[j]? = some x := ⟨_, List.getElem?_eq_getElem hj⟩
    have e := wordsOf_take wDep hx
    have hl := wordsOf_len (f := wDep) (k := 3) (fun _ => rfl) (p.deps.take j)
    have hl2 : (p.deps.take j).length ≤ p.deps.length := by simp; omega
    have hn := hs.deps
    rw [e]
    cases od with
    | none => rw [hld rfl] at hj; omega
    | some cp =>
    cases hw : wordsOf wDep (p.deps.take j) with
    | nil =>
      have l := t_l0 p of oe opf ope opd fzf fze fzd cp j x hj hn hx
      rw [← num_eq] at l; exact ⟨_, l⟩
    | cons v vs =>
      rw [hw] at hl
      have l := t_l1 p of oe opf ope opd fzf fze fzd cp j x v vs hj hn hx (by omega)
      rw [← num_eq] at l; exact ⟨_, l⟩
  · rw [List.take_length]
    cases hw : wordsOf wDep p.deps with
    | nil => exact ⟨_, t_e0 p of oe od opf ope opd fzf fze fzd _ rfl⟩
    | cons v vs => exact ⟨_, t_e1 p of oe od opf ope opd fzf fze fzd _ v vs rfl⟩
  unfold depsL at m3
  have e7 : textL p = joinL [p.dir, numR p.kind, p.name, numR p.fault, inputsL p.files, inputsL p.embeds, joinL (wordsOf wDep p.deps)] := by
    unfold textL partW depsL; rw [num_eq, num_eq]
  rw [e7] at ht ⊢
  cases hw : wordsOf wDep p.deps with
  | nil =>
    rw [hw] at i ht
    refine Leads.wp tabX_ok (t_q0 p of oe od opf ope opd fzf fze fzd hf he hs.files hs.embeds m1 m2 ht) i fun a w i => ?_
    exact ⟨.inr rfl, _, [_], i, by kernel_rfl, rfl⟩
  | cons v vs =>
    rw [hw] at i ht m3
    refine Leads.wp tabX_ok (t_q1 p of oe od opf ope opd fzf fze fzd v vs hf he hs.files hs.embeds m1 m2 m3 ht) i fun a w i => ?_
    exact ⟨.inr rfl, _, [_], i, by kernel_rfl, rfl⟩

def textR (most : Nat) : List AV → AHeap → AV → Prop := fun args h v => ∃ x p, args = [x] ∧ HasPart h x p ∧ Small p most ∧ v = .str (textL p)

theorem rtextP_ok {T : Tab} (hg : T.glob = tabX.glob) : PurOk Tryz.prog T 7 (pOf (textR 1152921504606846976)) := by
  refine PurOk.of tabX_ok hg (fn := Tryz.f7) (c := bodyOf Tryz.f7) (n := 48) (depE := 6) (depH := 5) (by kernel_rfl) (by kernel_rfl) (by kernel_rfl) (by decide) fun args h v e => ?_
  obtain ⟨x, p, rfl, ⟨lf, le, ld, of, oe, od, opf, ope, opd, fzf, fze, fzd, rfl, k⟩, hs, rfl⟩ := pOf_some e
  exact ⟨rfl, _, _, _, part_meets k (by decide), fun B W a w i => rtext_body p of oe od opf ope opd fzf fze fzd k.nf k.ne k.nd hs i⟩

/- what is the same of two parts of which memory tells the same -/
structure AlikeP (p q : PartD) : Prop where
  dir : p.dir = q.dir
  kind : p.kind = q.kind
  name : p.name = q.name
  files : p.files.map wIn = q.files.map wIn
  embeds : p.embeds.map wIn = q.embeds.map wIn
  deps : p.deps = q.deps
  fault : p.fault = q.fault
theorem AlikeP.text {p q : PartD} (h : AlikeP p q) : textL p = textL q := by
  unfold textL partW inputsL depsL
  rw [wordsOf_map, wordsOf_map, wordsOf_map wIn, wordsOf_map wIn, h.dir, h.kind, h.name, h.files, h.embeds, h.deps, h.fault]
theorem rowOf_depC : ∀ {xs ys : List DepD}, rowOf depC xs = rowOf depC ys → xs = ys
  | [], [], _ => rfl
  | [], y :: ys, h => by simp [rowOf, depC] at h
  | x :: xs, [], h => by simp [rowOf, depC] at h
  | x :: xs, y :: ys, h => by
    have := List.append_inj (show depC x ++ rowOf depC xs = depC y ++ rowOf depC ys from h) rfl
    rw [rowOf_depC this.2]
    have e := this.1
    cases x; cases y
    simp [depC] at e
    obtain ⟨rfl, rfl, rfl⟩ := e
    rfl
theorem slV_one {h : AHeap} {l l' n n' : Nat} {o o' : Option Cap} {α : Type} {f : α → List AV} {xs ys : List α} {opn opn' : Bool} {fz fz' : Nat} (e : slV l n o = slV l' n' o') (hx : o = none → xs = []) (hy : o' = none → ys = [])
    (k : rowAtV h l o (rowOf f xs) opn fz) (k' : rowAtV h l' o' (rowOf f ys) opn' fz') : rowOf f xs = rowOf f ys := by
  cases o with
  | none =>
    cases o' with
    | none => rw [hx rfl, hy rfl]
    | some _ => simp [slV] at e
  | some c =>
    cases o' with
    | none => simp [slV] at e
    | some c' =>
      simp only [slV, AV.slice.injEq] at e
      obtain ⟨rfl, _⟩ := e
      obtain ⟨o1, w1, h1, h2⟩ := k
      obtain ⟨o2, w2, h3, h4⟩ := k'
      rw [h1] at h3; cases h3
      have := (h2 rfl).symm.trans (h4 rfl)
      simp only [AObj.row.injEq] at this
      exact this.1
theorem HasPart.one {h : AHeap} {x : AV} {p q : PartD} (k : HasPart h x p) (k' : HasPart h x q) : AlikeP p q := by
  obtain ⟨lf, le, ld, of, oe, od, opf, ope, opd, fzf, fze, fzd, rfl, k⟩ := k
  obtain ⟨lf', le', ld', of', oe', od', opf', ope', opd', fzf', fze', fzd', e, k'⟩ := k'
  simp only [partC, AV.agg.injEq, List.cons.injEq, AV.str.injEq, AV.int.injEq, true_and, and_true] at e
  obtain ⟨e1, e2, e3, e4, e5, e6, e7⟩ := e
  have g : ∀ x y, inC x = inC y → wIn x = wIn y := fun x y h => by unfold wIn; rw [(inC_inj h).1, (inC_inj h).2]
  exact ⟨e1, e2, e3, rowOf_inC g (slV_one e4 k.nf k'.nf k.rf k'.rf), rowOf_inC g (slV_one e5 k.ne k'.ne k.re k'.re), rowOf_depC (slV_one e6 k.nd k'.nd k.rd k'.rd), e7⟩
theorem text_of {most : Nat} {h : AHeap} {x : AV} {p : PartD} (k : HasPart h x p) (hs : Small p most) : pOf (textR most) [x] h = some (.str (textL p)) := by
  refine pOf_of ⟨x, p, rfl, k, hs, rfl⟩ ?_
  rintro v' ⟨x', q, hx, k', _, rfl⟩
  cases hx
  rw [(k.one k').text]
end Go.Proofs.YtmlipbpbbjkigaaGreatDoor
