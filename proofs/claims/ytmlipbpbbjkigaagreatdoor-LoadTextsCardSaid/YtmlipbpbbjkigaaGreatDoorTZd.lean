/- Same: what it answers; the table with all of these. -/
import Derived.Test.YtmlipbpbbjkigaaGreatDoorTYd
set_option linter.unusedVariables false
set_option linter.unusedSimpArgs false
namespace Go.Proofs.YtmlipbpbbjkigaaGreatDoor
open Go Go.Ev Go.Proofs
set_option maxRecDepth 100000

open Classical in
noncomputable def alikeB (p q : PartD) : Bool := decide (AlikeP p q)
theorem alikeB_f {p q : PartD} (h : ¬ AlikeP p q) : alikeB p q = false := by unfold alikeB; simp [h]
theorem alikeB_t {p q : PartD} (h : AlikeP p q) : alikeB p q = true := by unfold alikeB; simp [h]

theorem same_body (p q : PartD) (of oe od : Option Cap) (opf ope opd : Bool) (fzf fze fzd : Nat) (ofq oeq odq : Option Cap) (opfq opeq opdq : Bool) (fzfq fzeq fzdq : Nat)
    (hf : of = none → p.files = []) (he : oe = none → p.embeds = []) (hd : od = none → p.deps = []) (hfq : ofq = none → q.files = []) (heq : oeq = none → q.embeds = []) (hdq : odq = none → q.deps = [])
    (hfn : p.files.length ≤ 1048576) (hen : p.embeds.length ≤ 1048576) (hdn : p.deps.length ≤ 1048576) {B : Nat} {W w : World} {a : Act}
    (i : InSt B W 15 7 5 68 ⟨[(0, .agg (partC p 15 16 17 of oe od)), (1, .agg (partC q 18 19 20 ofq oeq odq))],
      [rwV of (rowOf inC p.files) opf fzf, rwV oe (rowOf inC p.embeds) ope fze, rwV od (rowOf depC p.deps) opd fzd, rwV ofq (rowOf inC q.files) opfq fzfq, rwV oeq (rowOf inC q.embeds) opeq fzeq, rwV odq (rowOf depC q.deps) opdq fzdq]⟩ a w) :
    (bodyOf Tryz.f8).wp Tryz.prog (Gives tabY Tryz.f8 (.bool (alikeB p q)) B W 7 5 68) a w := by
  have hld : od = none → p.deps.length = 0 := fun h => by rw [hd h]; rfl
  have hldq : odq = none → q.deps.length = 0 := fun h => by rw [hdq h]; rfl
  by_cases hu : p.dir = q.dir ∧ p.kind = q.kind
  rotate_left
  · rw [alikeB_f fun k => hu ⟨k.dir, k.kind⟩]
    refine Leads.wp tabY_ok (m_x0 p of oe od opf ope opd fzf fze fzd q ofq oeq odq opfq opeq opdq fzfq fzeq fzdq hf he hfq heq hld hldq hfn hen (by simp only [hu]; rfl)) i fun a w i => ?_
    exact ⟨.inr rfl, _, [_], i, by kernel_rfl, rfl⟩
  have hu' : decide (¬ (p.dir = q.dir ∧ p.kind = q.kind)) = false := by simp [hu]
  by_cases hn : p.name = q.name
  rotate_left
  · rw [alikeB_f fun k => hn k.name]
    refine Leads.wp tabY_ok (m_x1 p of oe od opf ope opd fzf fze fzd q ofq oeq odq opfq opeq opdq fzfq fzeq fzdq hf he hfq heq hld hldq hfn hen hu' (by simp [hn])) i fun a w i => ?_
    exact ⟨.inr rfl, _, [_], i, by kernel_rfl, rfl⟩
  have hn' : decide (p.name ≠ q.name) = false := by simp [hn]
  by_cases ht : p.fault = q.fault
  rotate_left
  · rw [alikeB_f fun k => ht k.fault]
    refine Leads.wp tabY_ok (m_x2 p of oe od opf ope opd fzf fze fzd q ofq oeq odq opfq opeq opdq fzfq fzeq fzdq hf he hfq heq hld hldq hfn hen hu' hn' (by simp [ht])) i fun a w i => ?_
    exact ⟨.inr rfl, _, [_], i, by kernel_rfl, rfl⟩
  have ht' : decide (p.fault ≠ q.fault) = false := by simp [ht]
  by_cases hfs : p.files.map wIn = q.files.map wIn
  rotate_left
  · rw [alikeB_f fun k => hfs k.files]
    refine Leads.wp tabY_ok (m_x3 p of oe od opf ope opd fzf fze fzd q ofq oeq odq opfq opeq opdq fzfq fzeq fzdq hf he hfq heq hld hldq hfn hen hu' hn' ht' (decide_eq_false hfs)) i fun a w i => ?_
    exact ⟨.inr rfl, _, [_], i, by kernel_rfl, rfl⟩
  have hfs' : decide (p.files.map wIn = q.files.map wIn) = true := decide_eq_true hfs
  by_cases hes : p.embeds.map wIn = q.embeds.map wIn
  rotate_left
  · rw [alikeB_f fun k => hes k.embeds]
    refine Leads.wp tabY_ok (m_x4 p of oe od opf ope opd fzf fze fzd q ofq oeq odq opfq opeq opdq fzfq fzeq fzdq hf he hfq heq hld hldq hfn hen hu' hn' ht' hfs' (decide_eq_false hes)) i fun a w i => ?_
    exact ⟨.inr rfl, _, [_], i, by kernel_rfl, rfl⟩
  have hes' : decide (p.embeds.map wIn = q.embeds.map wIn) = true := decide_eq_true hes
  by_cases hl : p.deps.length = q.deps.length
  rotate_left
  · rw [alikeB_f fun k => hl (by rw [k.deps])]
    refine Leads.wp tabY_ok (m_x5 p of oe od opf ope opd fzf fze fzd q ofq oeq odq opfq opeq opdq fzfq fzeq fzdq hf he hfq heq hld hldq hfn hen hu' hn' ht' hfs' hes' hl) i fun a w i => ?_
    exact ⟨.inr rfl, _, [_], i, by kernel_rfl, rfl⟩
  refine Leads.on tabY_ok (m_p0 p of oe od opf ope opd fzf fze fzd q ofq oeq odq opfq opeq opdq fzfq fzeq fzdq hf he hfq heq hld hldq hfn hen hu' hn' ht' hfs' hes' hl) i fun a w i => ?_
  refine as_seq (by kernel_rfl) ?_
  refine Leads.on tabY_ok (m_p1 p of oe od opf ope opd fzf fze fzd q ofq oeq odq opfq opeq opdq fzfq fzeq fzdq hld) i fun a w i => ?_
  classical
  obtain ⟨r, hr, hall, hend⟩ := firstBad (p := fun j => ∀ x y, p.deps[j]? = some x → q.deps[j]? = some y → x = y) p.deps.length
  let σ : Nat → St := fun j => ⟨[(2, .ptr 15 0), (3, .ptr 19 0), (52, .int .i64 (.ofNat p.deps.length)), (53, .int .i64 (.ofNat j))],
    [.row (partC p 16 17 18 of oe od) false 0 true, rwV of (rowOf inC p.files) opf fzf, rwV oe (rowOf inC p.embeds) ope fze, rwV od (rowOf depC p.deps) opd fzd,
     .row (partC q 20 21 22 ofq oeq odq) false 0 true, rwV ofq (rowOf inC q.files) opfq fzfq, rwV oeq (rowOf inC q.embeds) opeq fzeq, rwV odq (rowOf depC q.deps) opdq fzdq]⟩
  have eq3 : ∀ x y : DepD, (x.path = y.path ∧ x.kind = y.kind ∧ x.dir = y.dir) ↔ x = y := by
    rintro ⟨x1, x2, x3⟩ ⟨y1, y2, y3⟩; simp
  have step : ∀ j, j < r → ∃ olds, Leads tabY 60 (lft (lft (dropSeq 1 (lft (rgt (rgt (bodyOf Tryz.f8))))))) 7 5 68 (σ j) .normal (σ (j + 1)) olds := by
    intro j hj
    have hjx : j < p.deps.length := by omega
    obtain ⟨x, ex⟩ : ∃ x, p.deps[j]? = some x := ⟨_, List.getElem?_eq_getElem hjx⟩
    obtain ⟨y, ey⟩ : ∃ y, q.deps[j]? = some y := ⟨_, List.getElem?_eq_getElem (by omega)⟩
    cases od with
    | none => rw [hld rfl] at hjx; omega
    | some cx =>
    cases odq with
    | none => have := hldq rfl; omega
    | some cy => exact ⟨_, m_l p of oe opf ope opd fzf fze fzd q ofq oeq opfq opeq opdq fzfq fzeq fzdq cx cy j x y hjx hdn hl ex ey (by simp [(eq3 x y).2 (hall j hj x y ex ey)])⟩
  rcases hend with rfl | ⟨hlt, hbad⟩
  · have e : p.deps = q.deps := by
      have := map_eq_get id hl fun j x y ex ey => hall j (List.getElem?_eq_some_iff.1 ex).1 x y ex ey
      simpa using this
    rw [alikeB_t ⟨hu.1, hu.2, hn, hfs, hes, e, ht⟩]
    refine loop_of (N := 60) (id := 0) tabY_ok (by kernel_rfl) (by kernel_rfl) (by kernel_rfl) σ p.deps.length step
      ⟨_, m_e p of oe od opf ope opd fzf fze fzd q ofq oeq odq opfq opeq opdq fzfq fzeq fzdq p.deps.length rfl⟩ i fun a w i => ?_
    refine Leads.wp tabY_ok m_q i fun a w i => ?_
    exact ⟨.inr rfl, _, [_], i, by kernel_rfl, rfl⟩
  · obtain ⟨x, ex⟩ : ∃ x, p.deps[r]? = some x := ⟨_, List.getElem?_eq_getElem hlt⟩
    obtain ⟨y, ey⟩ : ∃ y, q.deps[r]? = some y := ⟨_, List.getElem?_eq_getElem (by omega)⟩
    have hne : x ≠ y := fun h => hbad fun x' y' ex' ey' => by rw [ex] at ex'; rw [ey] at ey'; cases ex'; cases ey'; exact h
    rw [alikeB_f fun k => hne (by have := k.deps; rw [this, ey] at ex; cases ex; rfl)]
    refine loop_ret (N := 60) tabY_ok (by kernel_rfl) (by kernel_rfl) σ (σ' := ⟨[(4, .bool false)], []⟩) r step ?_ i fun a w i => ?_
    · cases od with
      | none => rw [hld rfl] at hlt; omega
      | some cx =>
      cases odq with
      | none => have := hldq rfl; omega
      | some cy => exact ⟨_, m_r p of oe opf ope opd fzf fze fzd q ofq oeq opfq opeq opdq fzfq fzeq fzdq cx cy r x y hlt hdn hl ex ey (decide_eq_true fun h => hne ((eq3 x y).1 h))⟩
    · exact ⟨.inr rfl, _, [_], i, by kernel_rfl, rfl⟩

def sameR : List AV → AHeap → AV → Prop := fun args h v => ∃ x y p q, args = [x, y] ∧ HasPart h x p ∧ HasPart h y q ∧ p.files.length ≤ 1048576 ∧ p.embeds.length ≤ 1048576 ∧ p.deps.length ≤ 1048576 ∧ v = .bool (alikeB p q)
theorem sameP_ok {T : Tab} (hg : T.glob = tabY.glob) : PurOk Tryz.prog T 8 (pOf sameR) := by
  refine PurOk.of tabY_ok hg (fn := Tryz.f8) (c := bodyOf Tryz.f8) (n := 68) (depE := 7) (depH := 5) (by kernel_rfl) (by kernel_rfl) (by kernel_rfl) (by decide) fun args h v e => ?_
  obtain ⟨x, y, p, q, rfl, ⟨lf, le, ld, of, oe, od, opf, ope, opd, fzf, fze, fzd, rfl, k⟩, ⟨lf', le', ld', of', oe', od', opf', ope', opd', fzf', fze', fzd', rfl, k'⟩, n1, n2, n3, rfl⟩ := pOf_some e
  refine ⟨rfl, [rwV of (rowOf inC p.files) opf fzf, rwV oe (rowOf inC p.embeds) ope fze, rwV od (rowOf depC p.deps) opd fzd, rwV of' (rowOf inC q.files) opf' fzf', rwV oe' (rowOf inC q.embeds) ope' fze', rwV od' (rowOf depC q.deps) opd' fzd'], [lf, le, ld, lf', le', ld'],
    [.agg (partC p 15 16 17 of oe od), .agg (partC q 18 19 20 of' oe' od')],
    ⟨⟨like_rwV k.rf (rowOf_plain inC_plain _), like_rwV k.re (rowOf_plain inC_plain _), like_rwV k.rd (rowOf_plain depC_plain _), like_rwV k'.rf (rowOf_plain inC_plain _), like_rwV k'.re (rowOf_plain inC_plain _), like_rwV k'.rd (rowOf_plain depC_plain _), trivial⟩, ?_, ?_, ?_, Nat.le_of_ble_eq_true rfl, Nat.le_of_ble_eq_true rfl, Nat.le_of_ble_eq_true rfl⟩, fun B W a w i => ?_⟩
  · cases of <;> cases oe <;> cases od <;> cases of' <;> cases oe' <;> cases od' <;> exact trivial
  · cases of <;> cases oe <;> cases od <;> cases of' <;> cases oe' <;> cases od' <;> rfl
  · cases of <;> cases oe <;> cases od <;> cases of' <;> cases oe' <;> cases od' <;> rfl
  · exact same_body p q of oe od opf ope opd fzf fze fzd of' oe' od' opf' ope' opd' fzf' fze' fzd' k.nf k.ne k.nd k'.nf k'.ne k'.nd n1 n2 n3 i
theorem AlikeP.symm {p q : PartD} (h : AlikeP p q) : AlikeP q p := ⟨h.dir.symm, h.kind.symm, h.name.symm, h.files.symm, h.embeds.symm, h.deps.symm, h.fault.symm⟩
theorem AlikeP.trans {p q r : PartD} (h : AlikeP p q) (k : AlikeP q r) : AlikeP p r := ⟨h.dir.trans k.dir, h.kind.trans k.kind, h.name.trans k.name, h.files.trans k.files, h.embeds.trans k.embeds, h.deps.trans k.deps, h.fault.trans k.fault⟩
theorem alikeB_of {p q p' q' : PartD} (h : AlikeP p p') (k : AlikeP q q') : alikeB p q = alikeB p' q' := by
  by_cases e : AlikeP p q
  · rw [alikeB_t e, alikeB_t ((h.symm.trans e).trans k)]
  · rw [alikeB_f e, alikeB_f fun e' => e ((h.trans e').trans k.symm)]
theorem same_of {h : AHeap} {x y : AV} {p q : PartD} (k : HasPart h x p) (k' : HasPart h y q) (n1 : p.files.length ≤ 1048576) (n2 : p.embeds.length ≤ 1048576) (n3 : p.deps.length ≤ 1048576) :
    pOf sameR [x, y] h = some (.bool (alikeB p q)) := by
  refine pOf_of ⟨x, y, p, q, rfl, k, k', n1, n2, n3, rfl⟩ ?_
  rintro v' ⟨x', y', p', q', hx, k1, k2, _, _, _, rfl⟩
  cases hx
  rw [alikeB_of (k.one k1) (k'.one k2)]
noncomputable def purL : PT Pf := PT.set purY 8 (some (pOf sameR))
noncomputable def tabL : Tab := { glob := tab.glob, ty := tab.ty, fn := tab.fn, nat := .nil, ext := tab.ext, pur := purL }
theorem tabL_ok : FullOk Tryz.prog tabL := {
  tab := ⟨tab_ok.tab.ty⟩
  ext := tab_ok.ext
  fn := tab_ok.fn
  nat := fun f n e => (by have e' : (PT.nil : PT Nf).get f = some n := e; rw [PT.get_nil] at e'; cases e')
  pur := fun f p e => (by
    have e' : purL.get f = some p := e
    unfold purL at e'
    rw [PT.get_set _ _ _ _ (by decide)] at e'
    by_cases h1 : f = 8
    · subst h1; rw [if_pos rfl] at e'; cases e'; exact sameP_ok rfl
    rw [if_neg h1] at e'
    exact (tabY_ok.pur f p e').again rfl)
  mixed := tab_ok.mixed }
end Go.Proofs.YtmlipbpbbjkigaaGreatDoor
