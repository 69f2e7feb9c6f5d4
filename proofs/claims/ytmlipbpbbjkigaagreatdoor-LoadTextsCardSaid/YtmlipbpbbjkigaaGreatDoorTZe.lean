/- The law's two rounds. Written by gen_ze.py. -/
import Derived.Test.YtmlipbpbbjkigaaGreatDoorTYe
import Derived.Test.YtmlipbpbbjkigaaGreatDoorTYf
import Derived.Test.YtmlipbpbbjkigaaGreatDoorTYg
import Derived.Test.YtmlipbpbbjkigaaGreatDoorTYh
set_option linter.unusedVariables false
set_option linter.unusedSimpArgs false
namespace Go.Proofs.YtmlipbpbbjkigaaGreatDoor
open Go Go.Ev Go.Proofs
set_option maxRecDepth 100000

def sumI : List InD → Nat
  | [] => 0
  | x :: l => x.path.length + sumI l
def sumD : List DepD → Nat
  | [] => 0
  | x :: l => x.path.length + x.dir.length + sumD l
theorem sumI_app : ∀ (a b : List InD), sumI (a ++ b) = sumI a + sumI b
  | [], b => by simp [sumI]
  | x :: a, b => by simp [sumI, sumI_app a b]; omega
theorem sumI_take {xs : List InD} : ∀ {i : Nat} {x : InD}, xs[i]? = some x → sumI (xs.take (i + 1)) = sumI (xs.take i) + x.path.length := by
  induction xs with
  | nil => intro i x e; simp at e
  | cons a xs ih =>
    intro i x e
    cases i with
    | zero => simp at e; subst e; simp [sumI]
    | succ i => have := ih (i := i) (by simpa using e); simp [sumI, this]; omega
theorem sumD_take {xs : List DepD} : ∀ {i : Nat} {x : DepD}, xs[i]? = some x → sumD (xs.take (i + 1)) = sumD (xs.take i) + (x.path.length + x.dir.length) := by
  induction xs with
  | nil => intro i x e; simp at e
  | cons a xs ih =>
    intro i x e
    cases i with
    | zero => simp at e; subst e; simp [sumD]
    | succ i => have := ih (i := i) (by simpa using e); simp [sumD, this]; omega
theorem sumI_le {l : List InD} {m : Nat} (h : ∀ x ∈ l, x.path.length ≤ m) : sumI l ≤ l.length * m := by
  induction l with
  | nil => simp [sumI]
  | cons a l ih =>
    have h1 := h a (by simp)
    have h2 := ih fun x hx => h x (by simp [hx])
    simp only [sumI, List.length_cons, Nat.succ_mul]; omega
def sizeP (p : PartD) : Nat := p.name.length + p.dir.length + sumI p.files + sumI p.embeds + sumD p.deps

/- what may be read -/
structure Good (p : PartD) (of oe od : Option Cap) : Prop where
  nf : of = none → p.files = []
  ne : oe = none → p.embeds = []
  nd : od = none → p.deps = []
  cf : ∀ c, of = some c → ∃ k, c = .ex k ∧ p.files.length ≤ k
  ce : ∀ c, oe = some c → ∃ k, c = .ex k ∧ p.embeds.length ≤ k
  name : p.name.length ≤ 281474976710656
  dir : p.dir.length ≤ 281474976710656
  files : ∀ x ∈ p.files, x.path.length ≤ 281474976710656
  embeds : ∀ x ∈ p.embeds, x.path.length ≤ 281474976710656
  deps : ∀ x ∈ p.deps, x.path.length + x.dir.length ≤ 562949953421312
  dlen : p.deps.length ≤ 281474976710656

theorem law_rest0 (p : PartD) (of oe od : Option Cap) (opf ope opd : Bool) (fzf fze fzd : Nat) (q : PartD) (ofq oeq odq : Option Cap) (opfq opeq opdq : Bool) (fzfq fzeq fzdq : Nat) (g : Good p of oe od) (fl : List InD) (hfl : fl = p.files.take 20 ++ p.embeds.take 20) (cp : Cap) (opr : Bool) {B : Nat} {W w : World} {a : Act}
    (i : InSt B W tabL.glob 7 5 113 ⟨[(2, .ptr 15 0), (3, .ptr 19 0), (16, .agg (partC p 16 17 18 of oe od ++ partC q 20 21 22 ofq oeq odq)), (17, .int .i64 (.ofNat 0)), (6, .ptr 23 0), (7, .int .i64 (.ofNat (p.name.length + p.dir.length))), (44, .slice 24 0 fl.length cp), (45, .int .i64 (.ofNat fl.length)), (46, .int .i64 (.ofNat 0))], [.row (partC p 16 17 18 of oe od) false 0 true, rwV of (rowOf inC p.files) opf fzf, rwV oe (rowOf inC p.embeds) ope fze, rwV od (rowOf depC p.deps) opd fzd, .row (partC q 20 21 22 ofq oeq odq) false 0 true, rwV ofq (rowOf inC q.files) opfq fzfq, rwV oeq (rowOf inC q.embeds) opeq fzeq, rwV odq (rowOf depC q.deps) opdq fzdq, .row (partC p 16 17 18 of oe od) false 0 true, .row (rowOf inC fl) opr 0 true]⟩ a w) {Q : Exit → Act → World → Prop}
    (hret : ∀ a w, InSt B W tabL.glob 7 5 113 ⟨[(4, .bool true)], []⟩ a w → Q .ret a w)
    (hnext : p.files.length ≤ 20 → p.embeds.length ≤ 20 → p.deps.length ≤ 20 → sizeP p ≤ 4096 → ∀ a w, InSt B W tabL.glob 7 5 113 ⟨[(2, .ptr 15 0), (3, .ptr 19 0), (16, .agg (partC p 16 17 18 of oe od ++ partC q 20 21 22 ofq oeq odq)), (17, .int .i64 (.ofNat 1))], [.row (partC p 16 17 18 of oe od) false 0 true, rwV of (rowOf inC p.files) opf fzf, rwV oe (rowOf inC p.embeds) ope fze, rwV od (rowOf depC p.deps) opd fzd, .row (partC q 20 21 22 ofq oeq odq) false 0 true, rwV ofq (rowOf inC q.files) opfq fzfq, rwV oeq (rowOf inC q.embeds) opeq fzeq, rwV odq (rowOf depC q.deps) opdq fzdq]⟩ a w → Q .normal a w) :
    (dropSeq 1 (lft (dropSeq 2 (lft (lft (rgt (rgt (lft (lft (rgt (lft (rgt (rgt (bodyOf Tryz.f3)))))))))))))).wp Tryz.prog (Exit.then ((rgt (dropSeq 2 (lft (lft (rgt (rgt (lft (lft (rgt (lft (rgt (rgt (bodyOf Tryz.f3))))))))))))).wp Tryz.prog (Exit.inBlock (idOf (lft (dropSeq 2 (lft (lft (rgt (lft (rgt (rgt (bodyOf Tryz.f3)))))))))) (Exit.then ((rgt (dropSeq 2 (lft (lft (rgt (lft (rgt (rgt (bodyOf Tryz.f3))))))))).wp Tryz.prog Q) Q)))
      (Exit.inBlock (idOf (lft (dropSeq 2 (lft (lft (rgt (lft (rgt (rgt (bodyOf Tryz.f3)))))))))) (Exit.then ((rgt (dropSeq 2 (lft (lft (rgt (lft (rgt (rgt (bodyOf Tryz.f3))))))))).wp Tryz.prog Q) Q))) a w := by
  have hlf : of = none → p.files.length = 0 := fun h => by rw [g.nf h]; rfl
  have hle : oe = none → p.embeds.length = 0 := fun h => by rw [g.ne h]; rfl
  have hld : od = none → p.deps.length = 0 := fun h => by rw [g.nd h]; rfl
  have hn := g.name
  have hd := g.dir
  have hl40 : fl.length ≤ 40 := by rw [hfl, List.length_append, List.length_take, List.length_take]; omega
  have hpath : ∀ x ∈ fl, x.path.length ≤ 281474976710656 := fun x hx => by
    rw [hfl, List.mem_append] at hx
    rcases hx with hx | hx
    · exact g.files x (List.mem_of_mem_take hx)
    · exact g.embeds x (List.mem_of_mem_take hx)
  have hsum : ∀ j, sumI (fl.take j) ≤ 40 * 281474976710656 := fun j => by
    have := sumI_le (l := fl.take j) (m := 281474976710656) fun x hx => hpath x (List.mem_of_mem_take hx)
    have h2 : (fl.take j).length ≤ 40 := by rw [List.length_take]; omega
    exact Nat.le_trans this (Nat.mul_le_mul_right 281474976710656 h2)
  refine loop_of (N := 60) (id := 2) tabL_ok (by kernel_rfl) (by kernel_rfl) (by kernel_rfl)
    (fun j => ⟨[(2, .ptr 15 0), (3, .ptr 19 0), (16, .agg (partC p 16 17 18 of oe od ++ partC q 20 21 22 ofq oeq odq)), (17, .int .i64 (.ofNat 0)), (6, .ptr 23 0), (7, .int .i64 (.ofNat (p.name.length + p.dir.length + sumI (fl.take j)))), (44, .slice 24 0 fl.length cp), (45, .int .i64 (.ofNat fl.length)), (46, .int .i64 (.ofNat j))], [.row (partC p 16 17 18 of oe od) false 0 true, rwV of (rowOf inC p.files) opf fzf, rwV oe (rowOf inC p.embeds) ope fze, rwV od (rowOf depC p.deps) opd fzd, .row (partC q 20 21 22 ofq oeq odq) false 0 true, rwV ofq (rowOf inC q.files) opfq fzfq, rwV oeq (rowOf inC q.embeds) opeq fzeq, rwV odq (rowOf depC q.deps) opdq fzdq, .row (partC p 16 17 18 of oe od) false 0 true, .row (rowOf inC fl) opr 0 true]⟩)
    fl.length ?_ ⟨_, w_e0 p of oe od opf ope opd fzf fze fzd q ofq oeq odq opfq opeq opdq fzfq fzeq fzdq _ fl cp opr _ rfl⟩ i fun a w i => ?_
  · intro j hj
    obtain ⟨x, hx⟩ : ∃ x, fl[j]? = some x := ⟨_, List.getElem?_eq_getElem hj⟩
    have h1 := sumI_take hx
    have h2 := hsum (j + 1)
    have l := w_d0 p of oe od opf ope opd fzf fze fzd q ofq oeq odq opfq opeq opdq fzfq fzeq fzdq (p.name.length + p.dir.length + sumI (fl.take j)) fl cp opr j x hj hl40 hx (by omega)
    have e : p.name.length + p.dir.length + sumI (fl.take j) + x.path.length = p.name.length + p.dir.length + sumI (fl.take (j + 1)) := by omega
    rw [e] at l; exact ⟨_, l⟩
  have hs0 := hsum fl.length
  rw [List.take_length] at i hs0
  refine as_seq (by kernel_rfl) ?_
  refine Leads.on tabL_ok (w_f0 p of oe od opf ope opd fzf fze fzd q ofq oeq odq opfq opeq opdq fzfq fzeq fzdq _ hld) i fun a w i => ?_
  -- the imports
  let σ : Nat → St := fun j => ⟨[(2, .ptr 15 0), (3, .ptr 19 0), (16, .agg (partC p 16 17 18 of oe od ++ partC q 20 21 22 ofq oeq odq)), (17, .int .i64 (.ofNat 0)), (6, .ptr 23 0), (7, .int .i64 (.ofNat (p.name.length + p.dir.length + sumI fl + sumD (p.deps.take j)))), (57, slV 18 p.deps.length od), (58, .int .i64 (.ofNat p.deps.length)), (59, .int .i64 (.ofNat j))], [.row (partC p 16 17 18 of oe od) false 0 true, rwV of (rowOf inC p.files) opf fzf, rwV oe (rowOf inC p.embeds) ope fze, rwV od (rowOf depC p.deps) opd fzd, .row (partC q 20 21 22 ofq oeq odq) false 0 true, rwV ofq (rowOf inC q.files) opfq fzfq, rwV oeq (rowOf inC q.embeds) opeq fzeq, rwV odq (rowOf depC q.deps) opdq fzdq, .row (partC p 16 17 18 of oe od) false 0 true]⟩
  have i0 : InSt B W tabL.glob 7 5 113 (σ 0) a w := i
  classical
  obtain ⟨r, hr, hall, hend⟩ := firstBad (p := fun j => p.name.length + p.dir.length + sumI fl + sumD (p.deps.take (j + 1)) ≤ 4096 ∧ p.deps.length ≤ 20) p.deps.length
  have bound : ∀ j, j ≤ r → p.name.length + p.dir.length + sumI fl + sumD (p.deps.take j) ≤ 42 * 281474976710656 := fun j hj => by
    cases j with
    | zero => simp only [List.take_zero, sumD]; omega
    | succ j => have := (hall j (by omega)).1; omega
  have step : ∀ j, j < r → ∃ olds, Leads tabL 60 (lft (lft (dropSeq 1 (lft (rgt (dropSeq 2 (lft (lft (rgt (rgt (lft (lft (rgt (lft (rgt (rgt (bodyOf Tryz.f3))))))))))))))))) 7 5 113 (σ j) .normal (σ (j + 1)) olds := by
    intro j hj
    have hjx : j < p.deps.length := by omega
    obtain ⟨x, ex⟩ : ∃ x, p.deps[j]? = some x := ⟨_, List.getElem?_eq_getElem hjx⟩
    have h1 := sumD_take ex
    obtain ⟨h2, h3⟩ := hall j hj
    cases od with
    | none => rw [hld rfl] at hjx; omega
    | some cx =>
    have l := w_g0 p of oe opf ope opd fzf fze fzd q ofq oeq odq opfq opeq opdq fzfq fzeq fzdq (p.name.length + p.dir.length + sumI fl + sumD (p.deps.take j)) cx j x hjx g.dlen ex (by omega) (by omega) h3
    have e : p.name.length + p.dir.length + sumI fl + sumD (p.deps.take j) + (x.path.length + x.dir.length) = p.name.length + p.dir.length + sumI fl + sumD (p.deps.take (j + 1)) := by omega
    rw [e] at l; exact ⟨_, l⟩
  rcases hend with rfl | ⟨hlt, hbad⟩
  rotate_left
  · obtain ⟨x, ex⟩ : ∃ x, p.deps[r]? = some x := ⟨_, List.getElem?_eq_getElem hlt⟩
    have h1 := sumD_take ex
    have hb := bound r (Nat.le_refl _)
    have hx := g.deps x (List.mem_of_getElem? ex)
    refine loop_ret (N := 60) tabL_ok (by kernel_rfl) (by kernel_rfl) σ (σ' := ⟨[(4, .bool true)], []⟩) r step ?_ i0 fun a w i => hret a w i
    cases od with
    | none => rw [hld rfl] at hlt; omega
    | some cx =>
    by_cases hc : p.name.length + p.dir.length + sumI fl + sumD (p.deps.take (r + 1)) ≤ 4096
    · have hd20 : 20 < p.deps.length := Nat.lt_of_not_le fun h => hbad ⟨hc, h⟩
      exact ⟨_, w_i0 p of oe opf ope opd fzf fze fzd q ofq oeq odq opfq opeq opdq fzfq fzeq fzdq (p.name.length + p.dir.length + sumI fl + sumD (p.deps.take r)) cx r x hlt g.dlen ex (by omega) (by omega) hd20⟩
    · exact ⟨_, w_h0 p of oe opf ope opd fzf fze fzd q ofq oeq odq opfq opeq opdq fzfq fzeq fzdq (p.name.length + p.dir.length + sumI fl + sumD (p.deps.take r)) cx r x hlt g.dlen ex (by omega) (by omega)⟩
  have hbN := bound p.deps.length (Nat.le_refl _)
  refine loop_of (N := 60) (id := 4) tabL_ok (by kernel_rfl) (by kernel_rfl) (by kernel_rfl) σ p.deps.length step ⟨_, w_j0 p of oe od opf ope opd fzf fze fzd q ofq oeq odq opfq opeq opdq fzfq fzeq fzdq _ _ rfl⟩ i0 fun a w i => ?_
  rw [List.take_length] at i hbN
  have hdeps : p.deps.length ≤ 20 := by
    rcases Nat.eq_zero_or_pos p.deps.length with h | h
    · omega
    · exact (hall 0 h).2
  by_cases hf : p.files.length ≤ 20
  rotate_left
  · refine Leads.wp tabL_ok (w_l0 p of oe od opf ope opd fzf fze fzd q ofq oeq odq opfq opeq opdq fzfq fzeq fzdq _ hlf hle (by omega)) i fun a w i => hret a w i
  by_cases he : p.embeds.length ≤ 20
  rotate_left
  · refine Leads.wp tabL_ok (w_m0 p of oe od opf ope opd fzf fze fzd q ofq oeq odq opfq opeq opdq fzfq fzeq fzdq _ hlf hle hf (by omega)) i fun a w i => hret a w i
  by_cases hm : p.name.length + p.dir.length + sumI fl + sumD p.deps ≤ 4096
  rotate_left
  · refine Leads.wp tabL_ok (w_n0 p of oe od opf ope opd fzf fze fzd q ofq oeq odq opfq opeq opdq fzfq fzeq fzdq _ hlf hle hf he (by omega)) i fun a w i => hret a w i
  refine Leads.wp tabL_ok (w_k0 p of oe od opf ope opd fzf fze fzd q ofq oeq odq opfq opeq opdq fzfq fzeq fzdq _ hlf hle hf he hm) i fun a w i => ?_
  refine Leads.wp tabL_ok (w_o0 p of oe od opf ope opd fzf fze fzd q ofq oeq odq opfq opeq opdq fzfq fzeq fzdq) i fun a w i => ?_
  refine hnext hf he hdeps ?_ a w i
  unfold sizeP
  rw [hfl, sumI_app, List.take_of_length_le hf, List.take_of_length_le he] at hm
  omega

theorem law_round0 (p : PartD) (of oe od : Option Cap) (opf ope opd : Bool) (fzf fze fzd : Nat) (q : PartD) (ofq oeq odq : Option Cap) (opfq opeq opdq : Bool) (fzfq fzeq fzdq : Nat) (g : Good p of oe od) {B : Nat} {W w : World} {a : Act}
    (i : InSt B W tabL.glob 7 5 113 ⟨[(2, .ptr 15 0), (3, .ptr 19 0), (16, .agg (partC p 16 17 18 of oe od ++ partC q 20 21 22 ofq oeq odq)), (17, .int .i64 (.ofNat 0))], [.row (partC p 16 17 18 of oe od) false 0 true, rwV of (rowOf inC p.files) opf fzf, rwV oe (rowOf inC p.embeds) ope fze, rwV od (rowOf depC p.deps) opd fzd, .row (partC q 20 21 22 ofq oeq odq) false 0 true, rwV ofq (rowOf inC q.files) opfq fzfq, rwV oeq (rowOf inC q.embeds) opeq fzeq, rwV odq (rowOf depC q.deps) opdq fzdq]⟩ a w) {Q : Exit → Act → World → Prop}
    (hret : ∀ a w, InSt B W tabL.glob 7 5 113 ⟨[(4, .bool true)], []⟩ a w → Q .ret a w)
    (hnext : p.files.length ≤ 20 → p.embeds.length ≤ 20 → p.deps.length ≤ 20 → sizeP p ≤ 4096 → ∀ a w, InSt B W tabL.glob 7 5 113 ⟨[(2, .ptr 15 0), (3, .ptr 19 0), (16, .agg (partC p 16 17 18 of oe od ++ partC q 20 21 22 ofq oeq odq)), (17, .int .i64 (.ofNat 1))], [.row (partC p 16 17 18 of oe od) false 0 true, rwV of (rowOf inC p.files) opf fzf, rwV oe (rowOf inC p.embeds) ope fze, rwV od (rowOf depC p.deps) opd fzd, .row (partC q 20 21 22 ofq oeq odq) false 0 true, rwV ofq (rowOf inC q.files) opfq fzfq, rwV oeq (rowOf inC q.embeds) opeq fzeq, rwV odq (rowOf depC q.deps) opdq fzdq]⟩ a w → Q .normal a w) :
    (lft (lft (rgt (lft (rgt (rgt (bodyOf Tryz.f3))))))).wp Tryz.prog Q a w := by
  have hlf : of = none → p.files.length = 0 := fun h => by rw [g.nf h]; rfl
  have hle : oe = none → p.embeds.length = 0 := fun h => by rw [g.ne h]; rfl
  have hld : od = none → p.deps.length = 0 := fun h => by rw [g.nd h]; rfl
  refine Leads.on tabL_ok (w_a0 p of oe od opf ope opd fzf fze fzd q ofq oeq odq opfq opeq opdq fzfq fzeq fzdq) i fun a w i => ?_
  refine as_seq (by kernel_rfl) ?_
  refine as_block (by kernel_rfl) ?_
  refine Leads.on tabL_ok (w_b0 p of oe od opf ope opd fzf fze fzd q ofq oeq odq opfq opeq opdq fzfq fzeq fzdq g.name g.dir) i fun a w i => ?_
  refine as_seq (by kernel_rfl) ?_
  rcases Nat.eq_zero_or_pos p.files.length with hf0 | hf0 <;> rcases Nat.eq_zero_or_pos p.embeds.length with he0 | he0
  · have e : ([] : List InD) = p.files.take 20 ++ p.embeds.take 20 := by rw [List.length_eq_zero_iff.1 hf0, List.length_eq_zero_iff.1 he0]; rfl
    refine Leads.on tabL_ok (w_c000 p of oe od opf ope opd fzf fze fzd q ofq oeq odq opfq opeq opdq fzfq fzeq fzdq _ hf0 g.cf hlf he0 g.ce hle) i fun a w i => ?_
    exact law_rest0 p of oe od opf ope opd fzf fze fzd q ofq oeq odq opfq opeq opdq fzfq fzeq fzdq g _ e _ _ i hret hnext
  · have e : p.embeds.take 20 = p.files.take 20 ++ p.embeds.take 20 := by rw [List.length_eq_zero_iff.1 hf0]; rfl
    cases oe with
    | none => rw [hle rfl] at he0; omega
    | some c =>
    obtain ⟨ke, rfl, hke⟩ := g.ce c rfl
    refine Leads.on tabL_ok (w_c001 p of od opf ope opd fzf fze fzd q ofq oeq odq opfq opeq opdq fzfq fzeq fzdq _ ke hf0 g.cf hlf he0 hke) i fun a w i => ?_
    exact law_rest0 p of (some (.ex ke)) od opf ope opd fzf fze fzd q ofq oeq odq opfq opeq opdq fzfq fzeq fzdq g _ e _ _ i hret hnext
  · have e : p.files.take 20 = p.files.take 20 ++ p.embeds.take 20 := by rw [List.length_eq_zero_iff.1 he0]; simp
    cases of with
    | none => rw [hlf rfl] at hf0; omega
    | some c =>
    obtain ⟨kf, rfl, hkf⟩ := g.cf c rfl
    refine Leads.on tabL_ok (w_c010 p oe od opf ope opd fzf fze fzd q ofq oeq odq opfq opeq opdq fzfq fzeq fzdq _ kf hf0 hkf he0 g.ce hle) i fun a w i => ?_
    exact law_rest0 p (some (.ex kf)) oe od opf ope opd fzf fze fzd q ofq oeq odq opfq opeq opdq fzfq fzeq fzdq g _ e _ _ i hret hnext
  · cases of with
    | none => rw [hlf rfl] at hf0; omega
    | some c =>
    obtain ⟨kf, rfl, hkf⟩ := g.cf c rfl
    cases oe with
    | none => rw [hle rfl] at he0; omega
    | some c =>
    obtain ⟨ke, rfl, hke⟩ := g.ce c rfl
    refine Leads.on tabL_ok (w_c011 p od opf ope opd fzf fze fzd q ofq oeq odq opfq opeq opdq fzfq fzeq fzdq _ kf ke hf0 hkf he0 hke) i fun a w i => ?_
    exact law_rest0 p (some (.ex kf)) (some (.ex ke)) od opf ope opd fzf fze fzd q ofq oeq odq opfq opeq opdq fzfq fzeq fzdq g _ rfl _ _ i hret hnext

theorem law_rest1 (p : PartD) (of oe od : Option Cap) (opf ope opd : Bool) (fzf fze fzd : Nat) (q : PartD) (ofq oeq odq : Option Cap) (opfq opeq opdq : Bool) (fzfq fzeq fzdq : Nat) (g : Good q ofq oeq odq) (fl : List InD) (hfl : fl = q.files.take 20 ++ q.embeds.take 20) (cp : Cap) (opr : Bool) {B : Nat} {W w : World} {a : Act}
    (i : InSt B W tabL.glob 7 5 113 ⟨[(2, .ptr 15 0), (3, .ptr 19 0), (16, .agg (partC p 16 17 18 of oe od ++ partC q 20 21 22 ofq oeq odq)), (17, .int .i64 (.ofNat 1)), (6, .ptr 23 0), (7, .int .i64 (.ofNat (q.name.length + q.dir.length))), (44, .slice 24 0 fl.length cp), (45, .int .i64 (.ofNat fl.length)), (46, .int .i64 (.ofNat 0))], [.row (partC p 16 17 18 of oe od) false 0 true, rwV of (rowOf inC p.files) opf fzf, rwV oe (rowOf inC p.embeds) ope fze, rwV od (rowOf depC p.deps) opd fzd, .row (partC q 20 21 22 ofq oeq odq) false 0 true, rwV ofq (rowOf inC q.files) opfq fzfq, rwV oeq (rowOf inC q.embeds) opeq fzeq, rwV odq (rowOf depC q.deps) opdq fzdq, .row (partC q 20 21 22 ofq oeq odq) false 0 true, .row (rowOf inC fl) opr 0 true]⟩ a w) {Q : Exit → Act → World → Prop}
    (hret : ∀ a w, InSt B W tabL.glob 7 5 113 ⟨[(4, .bool true)], []⟩ a w → Q .ret a w)
    (hnext : q.files.length ≤ 20 → q.embeds.length ≤ 20 → q.deps.length ≤ 20 → sizeP q ≤ 4096 → ∀ a w, InSt B W tabL.glob 7 5 113 ⟨[(2, .ptr 15 0), (3, .ptr 19 0), (16, .agg (partC p 16 17 18 of oe od ++ partC q 20 21 22 ofq oeq odq)), (17, .int .i64 (.ofNat 2))], [.row (partC p 16 17 18 of oe od) false 0 true, rwV of (rowOf inC p.files) opf fzf, rwV oe (rowOf inC p.embeds) ope fze, rwV od (rowOf depC p.deps) opd fzd, .row (partC q 20 21 22 ofq oeq odq) false 0 true, rwV ofq (rowOf inC q.files) opfq fzfq, rwV oeq (rowOf inC q.embeds) opeq fzeq, rwV odq (rowOf depC q.deps) opdq fzdq]⟩ a w → Q .normal a w) :
    (dropSeq 1 (lft (dropSeq 2 (lft (lft (rgt (rgt (lft (lft (rgt (lft (rgt (rgt (bodyOf Tryz.f3)))))))))))))).wp Tryz.prog (Exit.then ((rgt (dropSeq 2 (lft (lft (rgt (rgt (lft (lft (rgt (lft (rgt (rgt (bodyOf Tryz.f3))))))))))))).wp Tryz.prog (Exit.inBlock (idOf (lft (dropSeq 2 (lft (lft (rgt (lft (rgt (rgt (bodyOf Tryz.f3)))))))))) (Exit.then ((rgt (dropSeq 2 (lft (lft (rgt (lft (rgt (rgt (bodyOf Tryz.f3))))))))).wp Tryz.prog Q) Q)))
      (Exit.inBlock (idOf (lft (dropSeq 2 (lft (lft (rgt (lft (rgt (rgt (bodyOf Tryz.f3)))))))))) (Exit.then ((rgt (dropSeq 2 (lft (lft (rgt (lft (rgt (rgt (bodyOf Tryz.f3))))))))).wp Tryz.prog Q) Q))) a w := by
  have hlf : ofq = none → q.files.length = 0 := fun h => by rw [g.nf h]; rfl
  have hle : oeq = none → q.embeds.length = 0 := fun h => by rw [g.ne h]; rfl
  have hld : odq = none → q.deps.length = 0 := fun h => by rw [g.nd h]; rfl
  have hn := g.name
  have hd := g.dir
  have hl40 : fl.length ≤ 40 := by rw [hfl, List.length_append, List.length_take, List.length_take]; omega
  have hpath : ∀ x ∈ fl, x.path.length ≤ 281474976710656 := fun x hx => by
    rw [hfl, List.mem_append] at hx
    rcases hx with hx | hx
    · exact g.files x (List.mem_of_mem_take hx)
    · exact g.embeds x (List.mem_of_mem_take hx)
  have hsum : ∀ j, sumI (fl.take j) ≤ 40 * 281474976710656 := fun j => by
    have := sumI_le (l := fl.take j) (m := 281474976710656) fun x hx => hpath x (List.mem_of_mem_take hx)
    have h2 : (fl.take j).length ≤ 40 := by rw [List.length_take]; omega
    exact Nat.le_trans this (Nat.mul_le_mul_right 281474976710656 h2)
  refine loop_of (N := 60) (id := 2) tabL_ok (by kernel_rfl) (by kernel_rfl) (by kernel_rfl)
    (fun j => ⟨[(2, .ptr 15 0), (3, .ptr 19 0), (16, .agg (partC p 16 17 18 of oe od ++ partC q 20 21 22 ofq oeq odq)), (17, .int .i64 (.ofNat 1)), (6, .ptr 23 0), (7, .int .i64 (.ofNat (q.name.length + q.dir.length + sumI (fl.take j)))), (44, .slice 24 0 fl.length cp), (45, .int .i64 (.ofNat fl.length)), (46, .int .i64 (.ofNat j))], [.row (partC p 16 17 18 of oe od) false 0 true, rwV of (rowOf inC p.files) opf fzf, rwV oe (rowOf inC p.embeds) ope fze, rwV od (rowOf depC p.deps) opd fzd, .row (partC q 20 21 22 ofq oeq odq) false 0 true, rwV ofq (rowOf inC q.files) opfq fzfq, rwV oeq (rowOf inC q.embeds) opeq fzeq, rwV odq (rowOf depC q.deps) opdq fzdq, .row (partC q 20 21 22 ofq oeq odq) false 0 true, .row (rowOf inC fl) opr 0 true]⟩)
    fl.length ?_ ⟨_, w_e1 p of oe od opf ope opd fzf fze fzd q ofq oeq odq opfq opeq opdq fzfq fzeq fzdq _ fl cp opr _ rfl⟩ i fun a w i => ?_
  · intro j hj
    obtain ⟨x, hx⟩ : ∃ x, fl[j]? = some x := ⟨_, List.getElem?_eq_getElem hj⟩
    have h1 := sumI_take hx
    have h2 := hsum (j + 1)
    have l := w_d1 p of oe od opf ope opd fzf fze fzd q ofq oeq odq opfq opeq opdq fzfq fzeq fzdq (q.name.length + q.dir.length + sumI (fl.take j)) fl cp opr j x hj hl40 hx (by omega)
    have e : q.name.length + q.dir.length + sumI (fl.take j) + x.path.length = q.name.length + q.dir.length + sumI (fl.take (j + 1)) := by omega
    rw [e] at l; exact ⟨_, l⟩
  have hs0 := hsum fl.length
  rw [List.take_length] at i hs0
  refine as_seq (by kernel_rfl) ?_
  refine Leads.on tabL_ok (w_f1 p of oe od opf ope opd fzf fze fzd q ofq oeq odq opfq opeq opdq fzfq fzeq fzdq _ hld) i fun a w i => ?_
  -- the imports
  let σ : Nat → St := fun j => ⟨[(2, .ptr 15 0), (3, .ptr 19 0), (16, .agg (partC p 16 17 18 of oe od ++ partC q 20 21 22 ofq oeq odq)), (17, .int .i64 (.ofNat 1)), (6, .ptr 23 0), (7, .int .i64 (.ofNat (q.name.length + q.dir.length + sumI fl + sumD (q.deps.take j)))), (57, slV 22 q.deps.length odq), (58, .int .i64 (.ofNat q.deps.length)), (59, .int .i64 (.ofNat j))], [.row (partC p 16 17 18 of oe od) false 0 true, rwV of (rowOf inC p.files) opf fzf, rwV oe (rowOf inC p.embeds) ope fze, rwV od (rowOf depC p.deps) opd fzd, .row (partC q 20 21 22 ofq oeq odq) false 0 true, rwV ofq (rowOf inC q.files) opfq fzfq, rwV oeq (rowOf inC q.embeds) opeq fzeq, rwV odq (rowOf depC q.deps) opdq fzdq, .row (partC q 20 21 22 ofq oeq odq) false 0 true]⟩
  have i0 : InSt B W tabL.glob 7 5 113 (σ 0) a w := i
  classical
  obtain ⟨r, hr, hall, hend⟩ := firstBad (p := fun j => q.name.length + q.dir.length + sumI fl + sumD (q.deps.take (j + 1)) ≤ 4096 ∧ q.deps.length ≤ 20) q.deps.length
  have bound : ∀ j, j ≤ r → q.name.length + q.dir.length + sumI fl + sumD (q.deps.take j) ≤ 42 * 281474976710656 := fun j hj => by
    cases j with
    | zero => simp only [List.take_zero, sumD]; omega
    | succ j => have := (hall j (by omega)).1; omega
  have step : ∀ j, j < r → ∃ olds, Leads tabL 60 (lft (lft (dropSeq 1 (lft (rgt (dropSeq 2 (lft (lft (rgt (rgt (lft (lft (rgt (lft (rgt (rgt (bodyOf Tryz.f3))))))))))))))))) 7 5 113 (σ j) .normal (σ (j + 1)) olds := by
    intro j hj
    have hjx : j < q.deps.length := by omega
    obtain ⟨x, ex⟩ : ∃ x, q.deps[j]? = some x := ⟨_, List.getElem?_eq_getElem hjx⟩
    have h1 := sumD_take ex
    obtain ⟨h2, h3⟩ := hall j hj
    cases odq with
    | none => rw [hld rfl] at hjx; omega
    | some cx =>
    have l := w_g1 p of oe od opf ope opd fzf fze fzd q ofq oeq opfq opeq opdq fzfq fzeq fzdq (q.name.length + q.dir.length + sumI fl + sumD (q.deps.take j)) cx j x hjx g.dlen ex (by omega) (by omega) h3
    have e : q.name.length + q.dir.length + sumI fl + sumD (q.deps.take j) + (x.path.length + x.dir.length) = q.name.length + q.dir.length + sumI fl + sumD (q.deps.take (j + 1)) := by omega
    rw [e] at l; exact ⟨_, l⟩
  rcases hend with rfl | ⟨hlt, hbad⟩
  rotate_left
  · obtain ⟨x, ex⟩ : ∃ x, q.deps[r]? = some x := ⟨_, List.getElem?_eq_getElem hlt⟩
    have h1 := sumD_take ex
    have hb := bound r (Nat.le_refl _)
    have hx := g.deps x (List.mem_of_getElem? ex)
    refine loop_ret (N := 60) tabL_ok (by kernel_rfl) (by kernel_rfl) σ (σ' := ⟨[(4, .bool true)], []⟩) r step ?_ i0 fun a w i => hret a w i
    cases odq with
    | none => rw [hld rfl] at hlt; omega
    | some cx =>
    by_cases hc : q.name.length + q.dir.length + sumI fl + sumD (q.deps.take (r + 1)) ≤ 4096
    · have hd20 : 20 < q.deps.length := Nat.lt_of_not_le fun h => hbad ⟨hc, h⟩
      exact ⟨_, w_i1 p of oe od opf ope opd fzf fze fzd q ofq oeq opfq opeq opdq fzfq fzeq fzdq (q.name.length + q.dir.length + sumI fl + sumD (q.deps.take r)) cx r x hlt g.dlen ex (by omega) (by omega) hd20⟩
    · exact ⟨_, w_h1 p of oe od opf ope opd fzf fze fzd q ofq oeq opfq opeq opdq fzfq fzeq fzdq (q.name.length + q.dir.length + sumI fl + sumD (q.deps.take r)) cx r x hlt g.dlen ex (by omega) (by omega)⟩
  have hbN := bound q.deps.length (Nat.le_refl _)
  refine loop_of (N := 60) (id := 4) tabL_ok (by kernel_rfl) (by kernel_rfl) (by kernel_rfl) σ q.deps.length step ⟨_, w_j1 p of oe od opf ope opd fzf fze fzd q ofq oeq odq opfq opeq opdq fzfq fzeq fzdq _ _ rfl⟩ i0 fun a w i => ?_
  rw [List.take_length] at i hbN
  have hdeps : q.deps.length ≤ 20 := by
    rcases Nat.eq_zero_or_pos q.deps.length with h | h
    · omega
    · exact (hall 0 h).2
  by_cases hf : q.files.length ≤ 20
  rotate_left
  · refine Leads.wp tabL_ok (w_l1 p of oe od opf ope opd fzf fze fzd q ofq oeq odq opfq opeq opdq fzfq fzeq fzdq _ hlf hle (by omega)) i fun a w i => hret a w i
  by_cases he : q.embeds.length ≤ 20
  rotate_left
  · refine Leads.wp tabL_ok (w_m1 p of oe od opf ope opd fzf fze fzd q ofq oeq odq opfq opeq opdq fzfq fzeq fzdq _ hlf hle hf (by omega)) i fun a w i => hret a w i
  by_cases hm : q.name.length + q.dir.length + sumI fl + sumD q.deps ≤ 4096
  rotate_left
  · refine Leads.wp tabL_ok (w_n1 p of oe od opf ope opd fzf fze fzd q ofq oeq odq opfq opeq opdq fzfq fzeq fzdq _ hlf hle hf he (by omega)) i fun a w i => hret a w i
  refine Leads.wp tabL_ok (w_k1 p of oe od opf ope opd fzf fze fzd q ofq oeq odq opfq opeq opdq fzfq fzeq fzdq _ hlf hle hf he hm) i fun a w i => ?_
  refine Leads.wp tabL_ok (w_o1 p of oe od opf ope opd fzf fze fzd q ofq oeq odq opfq opeq opdq fzfq fzeq fzdq) i fun a w i => ?_
  refine hnext hf he hdeps ?_ a w i
  unfold sizeP
  rw [hfl, sumI_app, List.take_of_length_le hf, List.take_of_length_le he] at hm
  omega

theorem law_round1 (p : PartD) (of oe od : Option Cap) (opf ope opd : Bool) (fzf fze fzd : Nat) (q : PartD) (ofq oeq odq : Option Cap) (opfq opeq opdq : Bool) (fzfq fzeq fzdq : Nat) (g : Good q ofq oeq odq) {B : Nat} {W w : World} {a : Act}
    (i : InSt B W tabL.glob 7 5 113 ⟨[(2, .ptr 15 0), (3, .ptr 19 0), (16, .agg (partC p 16 17 18 of oe od ++ partC q 20 21 22 ofq oeq odq)), (17, .int .i64 (.ofNat 1))], [.row (partC p 16 17 18 of oe od) false 0 true, rwV of (rowOf inC p.files) opf fzf, rwV oe (rowOf inC p.embeds) ope fze, rwV od (rowOf depC p.deps) opd fzd, .row (partC q 20 21 22 ofq oeq odq) false 0 true, rwV ofq (rowOf inC q.files) opfq fzfq, rwV oeq (rowOf inC q.embeds) opeq fzeq, rwV odq (rowOf depC q.deps) opdq fzdq]⟩ a w) {Q : Exit → Act → World → Prop}
    (hret : ∀ a w, InSt B W tabL.glob 7 5 113 ⟨[(4, .bool true)], []⟩ a w → Q .ret a w)
    (hnext : q.files.length ≤ 20 → q.embeds.length ≤ 20 → q.deps.length ≤ 20 → sizeP q ≤ 4096 → ∀ a w, InSt B W tabL.glob 7 5 113 ⟨[(2, .ptr 15 0), (3, .ptr 19 0), (16, .agg (partC p 16 17 18 of oe od ++ partC q 20 21 22 ofq oeq odq)), (17, .int .i64 (.ofNat 2))], [.row (partC p 16 17 18 of oe od) false 0 true, rwV of (rowOf inC p.files) opf fzf, rwV oe (rowOf inC p.embeds) ope fze, rwV od (rowOf depC p.deps) opd fzd, .row (partC q 20 21 22 ofq oeq odq) false 0 true, rwV ofq (rowOf inC q.files) opfq fzfq, rwV oeq (rowOf inC q.embeds) opeq fzeq, rwV odq (rowOf depC q.deps) opdq fzdq]⟩ a w → Q .normal a w) :
    (lft (lft (rgt (lft (rgt (rgt (bodyOf Tryz.f3))))))).wp Tryz.prog Q a w := by
  have hlf : ofq = none → q.files.length = 0 := fun h => by rw [g.nf h]; rfl
  have hle : oeq = none → q.embeds.length = 0 := fun h => by rw [g.ne h]; rfl
  have hld : odq = none → q.deps.length = 0 := fun h => by rw [g.nd h]; rfl
  refine Leads.on tabL_ok (w_a1 p of oe od opf ope opd fzf fze fzd q ofq oeq odq opfq opeq opdq fzfq fzeq fzdq) i fun a w i => ?_
  refine as_seq (by kernel_rfl) ?_
  refine as_block (by kernel_rfl) ?_
  refine Leads.on tabL_ok (w_b1 p of oe od opf ope opd fzf fze fzd q ofq oeq odq opfq opeq opdq fzfq fzeq fzdq g.name g.dir) i fun a w i => ?_
  refine as_seq (by kernel_rfl) ?_
  rcases Nat.eq_zero_or_pos q.files.length with hf0 | hf0 <;> rcases Nat.eq_zero_or_pos q.embeds.length with he0 | he0
  · have e : ([] : List InD) = q.files.take 20 ++ q.embeds.take 20 := by rw [List.length_eq_zero_iff.1 hf0, List.length_eq_zero_iff.1 he0]; rfl
    refine Leads.on tabL_ok (w_c100 p of oe od opf ope opd fzf fze fzd q ofq oeq odq opfq opeq opdq fzfq fzeq fzdq _ hf0 g.cf hlf he0 g.ce hle) i fun a w i => ?_
    exact law_rest1 p of oe od opf ope opd fzf fze fzd q ofq oeq odq opfq opeq opdq fzfq fzeq fzdq g _ e _ _ i hret hnext
  · have e : q.embeds.take 20 = q.files.take 20 ++ q.embeds.take 20 := by rw [List.length_eq_zero_iff.1 hf0]; rfl
    cases oeq with
    | none => rw [hle rfl] at he0; omega
    | some c =>
    obtain ⟨ke, rfl, hke⟩ := g.ce c rfl
    refine Leads.on tabL_ok (w_c101 p of oe od opf ope opd fzf fze fzd q ofq odq opfq opeq opdq fzfq fzeq fzdq _ ke hf0 g.cf hlf he0 hke) i fun a w i => ?_
    exact law_rest1 p of oe od opf ope opd fzf fze fzd q ofq (some (.ex ke)) odq opfq opeq opdq fzfq fzeq fzdq g _ e _ _ i hret hnext
  · have e : q.files.take 20 = q.files.take 20 ++ q.embeds.take 20 := by rw [List.length_eq_zero_iff.1 he0]; simp
    cases ofq with
    | none => rw [hlf rfl] at hf0; omega
    | some c =>
    obtain ⟨kf, rfl, hkf⟩ := g.cf c rfl
    refine Leads.on tabL_ok (w_c110 p of oe od opf ope opd fzf fze fzd q oeq odq opfq opeq opdq fzfq fzeq fzdq _ kf hf0 hkf he0 g.ce hle) i fun a w i => ?_
    exact law_rest1 p of oe od opf ope opd fzf fze fzd q (some (.ex kf)) oeq odq opfq opeq opdq fzfq fzeq fzdq g _ e _ _ i hret hnext
  · cases ofq with
    | none => rw [hlf rfl] at hf0; omega
    | some c =>
    obtain ⟨kf, rfl, hkf⟩ := g.cf c rfl
    cases oeq with
    | none => rw [hle rfl] at he0; omega
    | some c =>
    obtain ⟨ke, rfl, hke⟩ := g.ce c rfl
    refine Leads.on tabL_ok (w_c111 p of oe od opf ope opd fzf fze fzd q odq opfq opeq opdq fzfq fzeq fzdq _ kf ke hf0 hkf he0 hke) i fun a w i => ?_
    exact law_rest1 p of oe od opf ope opd fzf fze fzd q (some (.ex kf)) (some (.ex ke)) odq opfq opeq opdq fzfq fzeq fzdq g _ rfl _ _ i hret hnext

end Go.Proofs.YtmlipbpbbjkigaaGreatDoor
