/- load.Text: what it answers. Written by gen_zb.py. -/
import Derived.Test.YtmlipbpbbjkigaaGreatDoorTZa
import Derived.Test.YtmlipbpbbjkigaaGreatDoorTYb
set_option linter.unusedVariables false
set_option linter.unusedSimpArgs false
namespace Go.Proofs.YtmlipbpbbjkigaaGreatDoor
open Go Go.Ev Go.Proofs
set_option maxRecDepth 100000

theorem text_round0 (p : PartD) (of oe od : Option Cap) (opf ope opd : Bool) (fzf fze fzd : Nat) (h0 : of = none → p.files = []) (hn : p.files.length ≤ 1048576) (hb : (inputsL p.files).length ≤ 1099511627776) {B : Nat} {W w : World} {a : Act}
    (i : InSt B W tabX.glob 7 5 82 ⟨[(1, .ptr 15 0), (3, .slice 19 0 4 (.ex 4)), (29, .slice 20 0 2 (.ex 2)), (30, .int .i64 (.ofNat 2)), (31, .int .i64 (.ofNat 0))], [.row (partC p 16 17 18 of oe od) false 0 true, rwV of (rowOf inC p.files) opf fzf, rwV oe (rowOf inC p.embeds) ope fze, rwV od (rowOf depC p.deps) opd fzd, .row [.str p.dir, .str (numL p.kind), .str p.name, .str (numL p.fault)] false 0 true, .row [slV 16 p.files.length of, slV 17 p.embeds.length oe] false 0 true]⟩ a w) {Q : Exit → Act → World → Prop}
    (hQ : ∀ a w, InSt B W tabX.glob 7 5 82 ⟨[(1, .ptr 15 0), (3, .slice 19 0 5 (.op 1)), (29, .slice 20 0 2 (.ex 2)), (30, .int .i64 (.ofNat 2)), (31, .int .i64 (.ofNat 1))], [.row (partC p 16 17 18 of oe od) false 0 true, rwV of (rowOf inC p.files) opf fzf, rwV oe (rowOf inC p.embeds) ope fze, rwV od (rowOf depC p.deps) opd fzd, .row [.str p.dir, .str (numL p.kind), .str p.name, .str (numL p.fault), .str (inputsL p.files)] true 0 true, .row [slV 16 p.files.length of, slV 17 p.embeds.length oe] false 0 true]⟩ a w → Q .normal a w) :
    (lft (lft (rgt (lft (rgt (rgt (bodyOf Tryz.f6))))))).wp Tryz.prog Q a w := by
  have hl0 : of = none → p.files.length = 0 := fun h => by rw [h0 h]; rfl
  refine Leads.on tabX_ok (b_h0 p of oe od opf ope opd fzf fze fzd) i fun a w i => ?_
  refine as_seq (by kernel_rfl) ?_
  refine as_block (by kernel_rfl) ?_
  refine Leads.on tabX_ok (b_a0 p of oe od opf ope opd fzf fze fzd) i fun a w i => ?_
  refine as_seq (by kernel_rfl) ?_
  refine Leads.on tabX_ok (b_b0 p of oe od opf ope opd fzf fze fzd hl0) i fun a w i => ?_
  refine loop_of (N := 60) (id := 2) tabX_ok (by kernel_rfl) (by kernel_rfl) (by kernel_rfl)
    (fun i => ⟨[(1, .ptr 15 0), (3, .slice 19 0 4 (.ex 4)), (29, .slice 20 0 2 (.ex 2)), (30, .int .i64 (.ofNat 2)), (31, .int .i64 (.ofNat 0)), (35, slV 16 p.files.length of), (36, .int .i64 (.ofNat p.files.length)), (37, .int .i64 (.ofNat i)), (6, acV 21 1 (wordsOf wIn (p.files.take i)))], [.row (partC p 16 17 18 of oe od) false 0 true, rwV of (rowOf inC p.files) opf fzf, rwV oe (rowOf inC p.embeds) ope fze, rwV od (rowOf depC p.deps) opd fzd, .row [.str p.dir, .str (numL p.kind), .str p.name, .str (numL p.fault)] false 0 true, .row [slV 16 p.files.length of, slV 17 p.embeds.length oe] false 0 true, acR strC (wordsOf wIn (p.files.take i))]⟩)
    (σ' := ⟨[(1, .ptr 15 0), (3, .slice 19 0 4 (.ex 4)), (29, .slice 20 0 2 (.ex 2)), (30, .int .i64 (.ofNat 2)), (31, .int .i64 (.ofNat 0)), (6, acV 21 1 (wordsOf wIn p.files))], [.row (partC p 16 17 18 of oe od) false 0 true, rwV of (rowOf inC p.files) opf fzf, rwV oe (rowOf inC p.embeds) ope fze, rwV od (rowOf depC p.deps) opd fzd, .row [.str p.dir, .str (numL p.kind), .str p.name, .str (numL p.fault)] false 0 true, .row [slV 16 p.files.length of, slV 17 p.embeds.length oe] false 0 true, acR strC (wordsOf wIn p.files)]⟩)
    p.files.length ?_ ?_ i fun a w i => ?_
  · intro j hj
    obtain ⟨x, hx⟩ : ∃ x, p.files[j]? = some x := ⟨_, List.getElem?_eq_getElem hj⟩
    have e := wordsOf_take wIn hx
    have hl := wordsOf_len (f := wIn) (k := 2) (fun _ => rfl) (p.files.take j)
    have hl2 : (p.files.take j).length ≤ p.files.length := by simp; omega
    rw [e]
    cases of with
    | none => rw [hl0 rfl] at hj; omega
    | some cp =>
    cases hw : wordsOf wIn (p.files.take j) with
    | nil => exact ⟨_, b_l00 p oe od opf ope opd fzf fze fzd cp j x hj hn hx⟩
    | cons v vs => rw [hw] at hl; exact ⟨_, b_l10 p oe od opf ope opd fzf fze fzd cp j x v vs hj hn hx (by omega)⟩
  · rw [List.take_length]
    cases hw : wordsOf wIn p.files with
    | nil => exact ⟨_, b_e00 p of oe od opf ope opd fzf fze fzd _ rfl⟩
    | cons v vs => exact ⟨_, b_e10 p of oe od opf ope opd fzf fze fzd _ v vs rfl⟩
  unfold inputsL at hb
  cases hw : wordsOf wIn p.files with
  | nil =>
    rw [hw] at i
    have l := b_c00 p of oe od opf ope opd fzf fze fzd
    have e : joinL [] = inputsL p.files := by unfold inputsL; rw [hw]
    rw [e] at l
    refine Leads.wp tabX_ok l i fun a w i => ?_
    exact Leads.wp tabX_ok (b_d0 p of oe od opf ope opd fzf fze fzd (inputsL p.files)) i hQ
  | cons v vs =>
    rw [hw] at i hb
    have l := b_c10 p of oe od opf ope opd fzf fze fzd v vs hb
    have e : joinL (v :: vs) = inputsL p.files := by unfold inputsL; rw [hw]
    rw [e] at l
    refine Leads.wp tabX_ok l i fun a w i => ?_
    exact Leads.wp tabX_ok (b_d0 p of oe od opf ope opd fzf fze fzd (inputsL p.files)) i hQ

theorem text_round1 (p : PartD) (of oe od : Option Cap) (opf ope opd : Bool) (fzf fze fzd : Nat) (jf : List UInt8) (h0 : oe = none → p.embeds = []) (hn : p.embeds.length ≤ 1048576) (hb : (inputsL p.embeds).length ≤ 1099511627776) {B : Nat} {W w : World} {a : Act}
    (i : InSt B W tabX.glob 7 5 82 ⟨[(1, .ptr 15 0), (3, .slice 19 0 5 (.op 1)), (29, .slice 20 0 2 (.ex 2)), (30, .int .i64 (.ofNat 2)), (31, .int .i64 (.ofNat 1))], [.row (partC p 16 17 18 of oe od) false 0 true, rwV of (rowOf inC p.files) opf fzf, rwV oe (rowOf inC p.embeds) ope fze, rwV od (rowOf depC p.deps) opd fzd, .row [.str p.dir, .str (numL p.kind), .str p.name, .str (numL p.fault), .str jf] true 0 true, .row [slV 16 p.files.length of, slV 17 p.embeds.length oe] false 0 true]⟩ a w) {Q : Exit → Act → World → Prop}
    (hQ : ∀ a w, InSt B W tabX.glob 7 5 82 ⟨[(1, .ptr 15 0), (3, .slice 19 0 6 (.op 1)), (29, .slice 20 0 2 (.ex 2)), (30, .int .i64 (.ofNat 2)), (31, .int .i64 (.ofNat 2))], [.row (partC p 16 17 18 of oe od) false 0 true, rwV of (rowOf inC p.files) opf fzf, rwV oe (rowOf inC p.embeds) ope fze, rwV od (rowOf depC p.deps) opd fzd, .row [.str p.dir, .str (numL p.kind), .str p.name, .str (numL p.fault), .str jf, .str (inputsL p.embeds)] true 0 true, .row [slV 16 p.files.length of, slV 17 p.embeds.length oe] false 0 true]⟩ a w → Q .normal a w) :
    (lft (lft (rgt (lft (rgt (rgt (bodyOf Tryz.f6))))))).wp Tryz.prog Q a w := by
  have hl0 : oe = none → p.embeds.length = 0 := fun h => by rw [h0 h]; rfl
  refine Leads.on tabX_ok (b_h1 p of oe od opf ope opd fzf fze fzd jf) i fun a w i => ?_
  refine as_seq (by kernel_rfl) ?_
  refine as_block (by kernel_rfl) ?_
  refine Leads.on tabX_ok (b_a1 p of oe od opf ope opd fzf fze fzd jf) i fun a w i => ?_
  refine as_seq (by kernel_rfl) ?_
  refine Leads.on tabX_ok (b_b1 p of oe od opf ope opd fzf fze fzd jf hl0) i fun a w i => ?_
  refine loop_of (N := 60) (id := 2) tabX_ok (by kernel_rfl) (by kernel_rfl) (by kernel_rfl)
    (fun i => ⟨[(1, .ptr 15 0), (3, .slice 19 0 5 (.op 1)), (29, .slice 20 0 2 (.ex 2)), (30, .int .i64 (.ofNat 2)), (31, .int .i64 (.ofNat 1)), (35, slV 17 p.embeds.length oe), (36, .int .i64 (.ofNat p.embeds.length)), (37, .int .i64 (.ofNat i)), (6, acV 21 1 (wordsOf wIn (p.embeds.take i)))], [.row (partC p 16 17 18 of oe od) false 0 true, rwV of (rowOf inC p.files) opf fzf, rwV oe (rowOf inC p.embeds) ope fze, rwV od (rowOf depC p.deps) opd fzd, .row [.str p.dir, .str (numL p.kind), .str p.name, .str (numL p.fault), .str jf] true 0 true, .row [slV 16 p.files.length of, slV 17 p.embeds.length oe] false 0 true, acR strC (wordsOf wIn (p.embeds.take i))]⟩)
    (σ' := ⟨[(1, .ptr 15 0), (3, .slice 19 0 5 (.op 1)), (29, .slice 20 0 2 (.ex 2)), (30, .int .i64 (.ofNat 2)), (31, .int .i64 (.ofNat 1)), (6, acV 21 1 (wordsOf wIn p.embeds))], [.row (partC p 16 17 18 of oe od) false 0 true, rwV of (rowOf inC p.files) opf fzf, rwV oe (rowOf inC p.embeds) ope fze, rwV od (rowOf depC p.deps) opd fzd, .row [.str p.dir, .str (numL p.kind), .str p.name, .str (numL p.fault), .str jf] true 0 true, .row [slV 16 p.files.length of, slV 17 p.embeds.length oe] false 0 true, acR strC (wordsOf wIn p.embeds)]⟩)
    p.embeds.length ?_ ?_ i fun a w i => ?_
  · intro j hj
    obtain ⟨x, hx⟩ : ∃ x, p.embeds[j]? = some x := ⟨_, List.getElem?_eq_getElem hj⟩
    have e := wordsOf_take wIn hx
    have hl := wordsOf_len (f := wIn) (k := 2) (fun _ => rfl) (p.embeds.take j)
    have hl2 : (p.embeds.take j).length ≤ p.embeds.length := by simp; omega
    rw [e]
    cases oe with
    | none => rw [hl0 rfl] at hj; omega
    | some cp =>
    cases hw : wordsOf wIn (p.embeds.take j) with
    | nil => exact ⟨_, b_l01 p of od opf ope opd fzf fze fzd cp j jf x hj hn hx⟩
    | cons v vs => rw [hw] at hl; exact ⟨_, b_l11 p of od opf ope opd fzf fze fzd cp j jf x v vs hj hn hx (by omega)⟩
  · rw [List.take_length]
    cases hw : wordsOf wIn p.embeds with
    | nil => exact ⟨_, b_e01 p of oe od opf ope opd fzf fze fzd _ jf rfl⟩
    | cons v vs => exact ⟨_, b_e11 p of oe od opf ope opd fzf fze fzd _ jf v vs rfl⟩
  unfold inputsL at hb
  cases hw : wordsOf wIn p.embeds with
  | nil =>
    rw [hw] at i
    have l := b_c01 p of oe od opf ope opd fzf fze fzd jf
    have e : joinL [] = inputsL p.embeds := by unfold inputsL; rw [hw]
    rw [e] at l
    refine Leads.wp tabX_ok l i fun a w i => ?_
    exact Leads.wp tabX_ok (b_d1 p of oe od opf ope opd fzf fze fzd jf (inputsL p.embeds)) i hQ
  | cons v vs =>
    rw [hw] at i hb
    have l := b_c11 p of oe od opf ope opd fzf fze fzd jf v vs hb
    have e : joinL (v :: vs) = inputsL p.embeds := by unfold inputsL; rw [hw]
    rw [e] at l
    refine Leads.wp tabX_ok l i fun a w i => ?_
    exact Leads.wp tabX_ok (b_d1 p of oe od opf ope opd fzf fze fzd jf (inputsL p.embeds)) i hQ

noncomputable def textSt (p : PartD) (of oe od : Option Cap) (opf ope opd : Bool) (fzf fze fzd : Nat) : Nat → St
  | 0 => ⟨[(1, .ptr 15 0), (3, .slice 19 0 4 (.ex 4)), (29, .slice 20 0 2 (.ex 2)), (30, .int .i64 (.ofNat 2)), (31, .int .i64 (.ofNat 0))], [.row (partC p 16 17 18 of oe od) false 0 true, rwV of (rowOf inC p.files) opf fzf, rwV oe (rowOf inC p.embeds) ope fze, rwV od (rowOf depC p.deps) opd fzd, .row [.str p.dir, .str (numL p.kind), .str p.name, .str (numL p.fault)] false 0 true, .row [slV 16 p.files.length of, slV 17 p.embeds.length oe] false 0 true]⟩
  | 1 => ⟨[(1, .ptr 15 0), (3, .slice 19 0 5 (.op 1)), (29, .slice 20 0 2 (.ex 2)), (30, .int .i64 (.ofNat 2)), (31, .int .i64 (.ofNat 1))], [.row (partC p 16 17 18 of oe od) false 0 true, rwV of (rowOf inC p.files) opf fzf, rwV oe (rowOf inC p.embeds) ope fze, rwV od (rowOf depC p.deps) opd fzd, .row [.str p.dir, .str (numL p.kind), .str p.name, .str (numL p.fault), .str (inputsL p.files)] true 0 true, .row [slV 16 p.files.length of, slV 17 p.embeds.length oe] false 0 true]⟩
  | _ => ⟨[(1, .ptr 15 0), (3, .slice 19 0 6 (.op 1)), (29, .slice 20 0 2 (.ex 2)), (30, .int .i64 (.ofNat 2)), (31, .int .i64 (.ofNat 2))], [.row (partC p 16 17 18 of oe od) false 0 true, rwV of (rowOf inC p.files) opf fzf, rwV oe (rowOf inC p.embeds) ope fze, rwV od (rowOf depC p.deps) opd fzd, .row [.str p.dir, .str (numL p.kind), .str p.name, .str (numL p.fault), .str (inputsL p.files), .str (inputsL p.embeds)] true 0 true, .row [slV 16 p.files.length of, slV 17 p.embeds.length oe] false 0 true]⟩

theorem text_body (p : PartD) (of oe od : Option Cap) (opf ope opd : Bool) (fzf fze fzd : Nat) (hf : of = none → p.files = []) (he : oe = none → p.embeds = []) (hd : od = none → p.deps = []) (hs : Small p 1099511627776) {B : Nat} {W w : World} {a : Act}
    (i : InSt B W 15 7 5 82 ⟨[(0, .agg (partC p 15 16 17 of oe od))], [rwV of (rowOf inC p.files) opf fzf, rwV oe (rowOf inC p.embeds) ope fze, rwV od (rowOf depC p.deps) opd fzd]⟩ a w) :
    (bodyOf Tryz.f6).wp Tryz.prog (Gives tabX Tryz.f6 (.str (textL p)) B W 7 5 82) a w := by
  have ht := hs.text
  have m1 : (inputsL p.files).length ≤ 1099511627776 := Nat.le_trans (mem_join (ws := partW p) (by simp [partW])) ht
  have m2 : (inputsL p.embeds).length ≤ 1099511627776 := Nat.le_trans (mem_join (ws := partW p) (by simp [partW])) ht
  have m3 : (depsL p.deps).length ≤ 1099511627776 := Nat.le_trans (mem_join (ws := partW p) (by simp [partW])) ht
  have hld : od = none → p.deps.length = 0 := fun h => by rw [hd h]; rfl
  refine Leads.on tabX_ok (a_p0 p of oe od opf ope opd fzf fze fzd) i fun a w i => ?_
  refine as_seq (by kernel_rfl) ?_
  refine Leads.on tabX_ok (a_p1 p of oe od opf ope opd fzf fze fzd) i fun a w i => ?_
  refine loop_wp (by kernel_rfl) (by kernel_rfl) (fun j a w => InSt B W tabX.glob 7 5 82 (textSt p of oe od opf ope opd fzf fze fzd j) a w) 2 ?_ ?_ i
  · intro j hj a w i K hK
    match j, hj with
    | 0, _ => exact text_round0 p of oe od opf ope opd fzf fze fzd hf hs.files m1 i hK
    | 1, _ => exact text_round1 p of oe od opf ope opd fzf fze fzd (inputsL p.files) he hs.embeds m2 i hK
  intro a w i K
  refine Leads.wp tabX_ok (b_x p of oe od opf ope opd fzf fze fzd (inputsL p.files) (inputsL p.embeds)) i fun a w i => ?_
  refine out_block (by kernel_rfl) ?_
  refine Leads.on tabX_ok (c_p0 p of oe od opf ope opd fzf fze fzd (inputsL p.files) (inputsL p.embeds)) i fun a w i => ?_
  refine as_seq (by kernel_rfl) ?_
  refine Leads.on tabX_ok (c_p1 p of oe od opf ope opd fzf fze fzd (inputsL p.files) (inputsL p.embeds) hld) i fun a w i => ?_
  refine loop_of (N := 60) (id := 4) tabX_ok (by kernel_rfl) (by kernel_rfl) (by kernel_rfl)
    (fun i => ⟨[(1, .ptr 15 0), (3, .slice 19 0 6 (.op 1)), (57, slV 18 p.deps.length od), (58, (.int .i64 (.ofNat p.deps.length))), (59, (.int .i64 (.ofNat i))), (9, acV 20 1 (wordsOf wDep (p.deps.take i)))],
      [.row (partC p 16 17 18 of oe od) false 0 true, rwV of (rowOf inC p.files) opf fzf, rwV oe (rowOf inC p.embeds) ope fze, rwV od (rowOf depC p.deps) opd fzd, .row [.str p.dir, .str (numL p.kind), .str p.name, .str (numL p.fault), .str (inputsL p.files), .str (inputsL p.embeds)] true 0 true, acR strC (wordsOf wDep (p.deps.take i))]⟩)
    (σ' := ⟨[(1, .ptr 15 0), (3, .slice 19 0 6 (.op 1)), (9, acV 20 1 (wordsOf wDep p.deps))], [.row (partC p 16 17 18 of oe od) false 0 true, rwV of (rowOf inC p.files) opf fzf, rwV oe (rowOf inC p.embeds) ope fze, rwV od (rowOf depC p.deps) opd fzd, .row [.str p.dir, .str (numL p.kind), .str p.name, .str (numL p.fault), .str (inputsL p.files), .str (inputsL p.embeds)] true 0 true, acR strC (wordsOf wDep p.deps)]⟩)
    p.deps.length ?_ ?_ i fun a w i => ?_
  · intro j hj
    obtain ⟨x, hx⟩ : ∃ x, p.deps[j]? = some x := ⟨_, List.getElem?_eq_getElem hj⟩
    have e := wordsOf_take wDep hx
    have hl := wordsOf_len (f := wDep) (k := 3) (fun _ => rfl) (p.deps.take j)
    have hl2 : (p.deps.take j).length ≤ p.deps.length := by simp; omega
    have hn := hs.deps
    rw [e]
    cases od with
    | none => rw [hld rfl] at hj; omega
    | some cp =>
    cases hw : wordsOf wDep (p.deps.take j) with
    | nil => exact ⟨_, c_l0 p of oe opf ope opd fzf fze fzd cp j (inputsL p.files) (inputsL p.embeds) x hj hn hx⟩
    | cons v vs =>
      rw [hw] at hl
      exact ⟨_, c_l1 p of oe opf ope opd fzf fze fzd cp j (inputsL p.files) (inputsL p.embeds) x v vs hj hn hx (by omega)⟩
  · rw [List.take_length]
    cases hw : wordsOf wDep p.deps with
    | nil => exact ⟨_, c_e0 p of oe od opf ope opd fzf fze fzd _ (inputsL p.files) (inputsL p.embeds) rfl⟩
    | cons v vs => exact ⟨_, c_e1 p of oe od opf ope opd fzf fze fzd _ (inputsL p.files) (inputsL p.embeds) v vs rfl⟩
  unfold depsL at m3
  have e7 : textL p = joinL [p.dir, numL p.kind, p.name, numL p.fault, inputsL p.files, inputsL p.embeds, joinL (wordsOf wDep p.deps)] := rfl
  rw [e7] at ht ⊢
  cases hw : wordsOf wDep p.deps with
  | nil =>
    rw [hw] at i ht
    refine Leads.wp tabX_ok (c_q0 p of oe od opf ope opd fzf fze fzd (inputsL p.files) (inputsL p.embeds) ht) i fun a w i => ?_
    exact ⟨.inr rfl, _, [_], i, by kernel_rfl, rfl⟩
  | cons v vs =>
    rw [hw] at i ht m3
    refine Leads.wp tabX_ok (c_q1 p of oe od opf ope opd fzf fze fzd (inputsL p.files) (inputsL p.embeds) v vs m3 ht) i fun a w i => ?_
    exact ⟨.inr rfl, _, [_], i, by kernel_rfl, rfl⟩

theorem textP_ok {T : Tab} (hg : T.glob = tabX.glob) : PurOk Tryz.prog T 6 (pOf (textR 1099511627776)) := by
  refine PurOk.of tabX_ok hg (fn := Tryz.f6) (c := bodyOf Tryz.f6) (n := 82) (depE := 7) (depH := 5) (by kernel_rfl) (by kernel_rfl) (by kernel_rfl) (by decide) fun args h v e => ?_
  obtain ⟨x, p, rfl, ⟨lf, le, ld, of, oe, od, opf, ope, opd, fzf, fze, fzd, rfl, k⟩, hs, rfl⟩ := pOf_some e
  exact ⟨rfl, _, _, _, part_meets k (by decide), fun B W a w i => text_body p of oe od opf ope opd fzf fze fzd k.nf k.ne k.nd hs i⟩

end Go.Proofs.YtmlipbpbbjkigaaGreatDoor
