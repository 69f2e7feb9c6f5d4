/- The law LoadTexts, called: it answers true. -/
import Derived.Test.YtmlipbpbbjkigaaGreatDoorTZf
set_option linter.unusedVariables false
set_option linter.unusedSimpArgs false
namespace Go.Proofs.YtmlipbpbbjkigaaGreatDoor
open Go Go.Ev Go.Proofs
set_option maxRecDepth 100000

/- memory as the law meets it: the tables, and the arguments' rows -/
noncomputable def lawHeap (p : PartD) (of oe od : Option Cap) (opf ope opd : Bool) (fzf fze fzd : Nat) (q : PartD) (ofq oeq odq : Option Cap) (opfq opeq opdq : Bool) (fzfq fzeq fzdq : Nat) : AHeap :=
  (AHeap.push (AHeap.push (AHeap.push (AHeap.push (AHeap.push (AHeap.push heap0 (rwV of (rowOf inC p.files) opf fzf)) (rwV oe (rowOf inC p.embeds) ope fze)) (rwV od (rowOf depC p.deps) opd fzd)) (rwV ofq (rowOf inC q.files) opfq fzfq)) (rwV oeq (rowOf inC q.embeds) opeq fzeq)) (rwV odq (rowOf depC q.deps) opdq fzdq))

theorem law_body (p : PartD) (of oe od : Option Cap) (opf ope opd : Bool) (fzf fze fzd : Nat) (q : PartD) (ofq oeq odq : Option Cap) (opfq opeq opdq : Bool) (fzfq fzeq fzdq : Nat)
    (gp : Good p of oe od) (gq : Good q ofq oeq odq) (np : Nums p) (nq : Nums q) {B : Nat} {W w : World} {a : Act}
    (i : InH B W 15 (envL 15 7 113 (argLive 0 [.agg (partC p 17 18 19 of oe od), .agg (partC q 20 21 22 ofq oeq odq)])) (lawHeap p of oe od opf ope opd fzf fze fzd q ofq oeq odq opfq opeq opdq fzfq fzeq fzdq) a w) :
    (bodyOf Tryz.f3).wp Tryz.prog (Gives tabL Tryz.f3 (.bool true) B W 7 5 113) a w := by
  refine LeadsX.pre tabL_ok (w_p0 p of oe od opf ope opd fzf fze fzd q ofq oeq odq opfq opeq opdq fzfq fzeq fzdq) i fun a w i => ?_
  refine as_seq (by kernel_rfl) ?_
  refine Leads.on tabL_ok (w_p1 p of oe od opf ope opd fzf fze fzd q ofq oeq odq opfq opeq opdq fzfq fzeq fzdq) i fun a w i => ?_
  let σ : Nat → St := fun k => ⟨[(2, .ptr 15 0), (3, .ptr 19 0), (16, .agg (partC p 16 17 18 of oe od ++ partC q 20 21 22 ofq oeq odq)), (17, .int .i64 (.ofNat k))],
    [.row (partC p 16 17 18 of oe od) false 0 true, rwV of (rowOf inC p.files) opf fzf, rwV oe (rowOf inC p.embeds) ope fze, rwV od (rowOf depC p.deps) opd fzd, .row (partC q 20 21 22 ofq oeq odq) false 0 true, rwV ofq (rowOf inC q.files) opfq fzfq, rwV oeq (rowOf inC q.embeds) opeq fzeq, rwV odq (rowOf depC q.deps) opdq fzdq]⟩
  have i0 : InSt B W tabL.glob 7 5 113 (σ 0) a w := i
  have hret : ∀ a w, InSt B W tabL.glob 7 5 113 ⟨[(4, .bool true)], []⟩ a w → Gives tabL Tryz.f3 (.bool true) B W 7 5 113 .ret a w := fun a w i => ⟨.inr rfl, _, [.bool true], i, by kernel_rfl, rfl⟩
  refine loop_wp (by kernel_rfl) (by kernel_rfl) (fun k a w => InSt B W tabL.glob 7 5 113 (σ k) a w ∧ (1 ≤ k → Small p 1099511627776) ∧ (2 ≤ k → Small q 1099511627776)) 2 ?_ ?_ ⟨i0, fun h => absurd h (by decide), fun h => absurd h (by decide)⟩
  · intro j hj a w i K hK
    match j, hj with
    | 0, _ =>
      exact law_round0 p of oe od opf ope opd fzf fze fzd q ofq oeq odq opfq opeq opdq fzfq fzeq fzdq gp i.1 (fun a w i => hret a w i)
        fun hf he hd hs a w i => hK a w ⟨i, fun _ => small_of hf he hd hs (by decide), fun h => absurd h (by decide)⟩
    | 1, _ =>
      exact law_round1 p of oe od opf ope opd fzf fze fzd q ofq oeq odq opfq opeq opdq fzfq fzeq fzdq gq i.1 (fun a w i => hret a w i)
        fun hf he hd hs a w i' => hK a w ⟨i', fun _ => i.2.1 (by decide), fun _ => small_of hf he hd hs (by decide)⟩
  intro a w i K
  obtain ⟨i, sp, sq⟩ := i
  have sp := sp (by decide)
  have sq := sq (by decide)
  refine Leads.wp tabL_ok (w_x p of oe od opf ope opd fzf fze fzd q ofq oeq odq opfq opeq opdq fzfq fzeq fzdq) i fun a w i => ?_
  refine out_block (by kernel_rfl) ?_
  refine Leads.wp tabL_ok (w_z p of oe od opf ope opd fzf fze fzd q ofq oeq odq opfq opeq opdq fzfq fzeq fzdq (fun rf re rd => ⟨gp.nf, gp.ne, gp.nd, rf, re, rd⟩) (fun rf re rd => ⟨gq.nf, gq.ne, gq.nd, rf, re, rd⟩)
    sp ⟨sp.files, sp.embeds, sp.deps, Nat.le_trans sp.text (by decide)⟩ sq (law_plain sp sq np nq) sp.files sp.embeds sp.deps) i fun a w i => ?_
  exact hret a w i
end Go.Proofs.YtmlipbpbbjkigaaGreatDoor
