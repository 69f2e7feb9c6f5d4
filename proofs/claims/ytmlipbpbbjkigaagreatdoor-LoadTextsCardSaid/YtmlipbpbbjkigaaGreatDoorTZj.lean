/- The call of LoadTexts in a world that meets the row's condition. -/
import Derived.Test.YtmlipbpbbjkigaaGreatDoorTZi
set_option linter.unusedVariables false
set_option linter.unusedSimpArgs false
namespace Go.Proofs.YtmlipbpbbjkigaaGreatDoor
open Go Go.Ev Go.Proofs Go.RowKit Go.ChangeShapes Go.WideShapes Go.ChangeAt
set_option maxRecDepth 100000

theorem lawHeap_get (p : PartD) (of oe od : Option Cap) (opf ope opd : Bool) (fzf fze fzd : Nat) (q : PartD) (ofq oeq odq : Option Cap) (opfq opeq opdq : Bool) (fzfq fzeq fzdq : Nat) :
    (∀ l, (lawHeap p of oe od opf ope opd fzf fze fzd q ofq oeq odq opfq opeq opdq fzfq fzeq fzdq).get l = (heap0L ++ [rwV of (rowOf inC p.files) opf fzf] ++ [rwV oe (rowOf inC p.embeds) ope fze] ++ [rwV od (rowOf depC p.deps) opd fzd] ++ [rwV ofq (rowOf inC q.files) opfq fzfq] ++ [rwV oeq (rowOf inC q.embeds) opeq fzeq] ++ [rwV odq (rowOf depC q.deps) opdq fzdq])[l]?) ∧
    (lawHeap p of oe od opf ope opd fzf fze fzd q ofq oeq odq opfq opeq opdq fzfq fzeq fzdq).next = 23 := by
  obtain ⟨g1, n1⟩ := heap_push heap0_get (by kernel_rfl) (blt_lt (by kernel_rfl)) (rwV of (rowOf inC p.files) opf fzf)
  obtain ⟨g2, n2⟩ := heap_push g1 n1 (blt_lt (by kernel_rfl)) (rwV oe (rowOf inC p.embeds) ope fze)
  obtain ⟨g3, n3⟩ := heap_push g2 n2 (blt_lt (by kernel_rfl)) (rwV od (rowOf depC p.deps) opd fzd)
  obtain ⟨g4, n4⟩ := heap_push g3 n3 (blt_lt (by kernel_rfl)) (rwV ofq (rowOf inC q.files) opfq fzfq)
  obtain ⟨g5, n5⟩ := heap_push g4 n4 (blt_lt (by kernel_rfl)) (rwV oeq (rowOf inC q.embeds) opeq fzeq)
  obtain ⟨g6, n6⟩ := heap_push g5 n5 (blt_lt (by kernel_rfl)) (rwV odq (rowOf depC q.deps) opdq fzdq)
  exact ⟨g6, by kernel_rfl⟩

theorem rwV_ro (o : Option Cap) (cs : List AV) (opn : Bool) (fz : Nat) : (rwV o cs opn fz).wr = false := by cases o <;> rfl

/- the call -/
theorem law_calls {W : World} {v0 v1 : Value} {p q : PartD} {of oe od ofq oeq odq : Option Cap} {pf pe pd pfq peq pdq p4 p5 p11 p15 p16 : Pl} (t : TablesIn W p4 p5 p11 p15 p16) (r : ReadPart W v0 p of oe od pf pe pd) (r' : ReadPart W v1 q ofq oeq odq pfq peq pdq) :
    Calls Tryz.prog 3 #[v0, v1] W fun e W' => e = .returned (.bool true) ∧ Below W.heap.size W W' := by
  let pl : List Pl := [⟨0, 0, 0⟩, ⟨1, 0, 0⟩, ⟨2, 0, 0⟩, ⟨3, 0, 0⟩, p4, p5, ⟨6, 0, 0⟩, ⟨7, 0, 0⟩, ⟨8, 0, 0⟩, ⟨9, 0, 0⟩, ⟨10, 0, 0⟩, p11, ⟨12, 0, 0⟩, ⟨13, 0, 0⟩, ⟨14, 0, 0⟩, p15, p16, pf, pe, pd, pfq, peq, pdq]
  obtain ⟨hget, hnext⟩ := lawHeap_get p of oe od false false false pf.n pe.n pd.n q ofq oeq odq false false false pfq.n peq.n pdq.n
  have hz := t.size
  have hobjs : objsR (phiOf pl) W (heap0L ++ [rwV of (rowOf inC p.files) false pf.n] ++ [rwV oe (rowOf inC p.embeds) false pe.n] ++ [rwV od (rowOf depC p.deps) false pd.n] ++ [rwV ofq (rowOf inC q.files) false pfq.n] ++ [rwV oeq (rowOf inC q.embeds) false peq.n] ++ [rwV odq (rowOf depC q.deps) false pdq.n]) pl := by
    have b4 := t.b4.1
    have b5 := t.b5.1
    have b11 := t.b11.1
    refine ⟨trivial, ?_, trivial, ?_, trivial, ?_, trivial, ?_, t.o4 _ rfl, ?_, t.o5 _ rfl, ?_, trivial, ?_, trivial, ?_, trivial, ?_, trivial, ?_, trivial, ?_, t.o11 _, ?_, trivial, ?_, trivial, ?_, trivial, ?_, (t.o15 (phiOf pl)).1, (t.o15 (phiOf pl)).2, (t.o16 (phiOf pl)).1, (t.o16 (phiOf pl)).2,
      (r.rf.obj _ _ _).1, (r.rf.obj (phiOf pl) none false).2, (r.re.obj _ _ _).1, (r.re.obj (phiOf pl) none false).2, (r.rd.obj _ _ _).1, (r.rd.obj (phiOf pl) none false).2, (r'.rf.obj _ _ _).1, (r'.rf.obj (phiOf pl) none false).2, (r'.re.obj _ _ _).1, (r'.re.obj (phiOf pl) none false).2, (r'.rd.obj _ _ _).1, (r'.rd.obj (phiOf pl) none false).2, trivial⟩ <;> (try dsimp only) <;> omega
  have hro : ∀ (i : Nat) (o : AObj), (heap0L ++ [rwV of (rowOf inC p.files) false pf.n] ++ [rwV oe (rowOf inC p.embeds) false pe.n] ++ [rwV od (rowOf depC p.deps) false pd.n] ++ [rwV ofq (rowOf inC q.files) false pfq.n] ++ [rwV oeq (rowOf inC q.embeds) false peq.n] ++ [rwV odq (rowOf depC q.deps) false pdq.n])[i]? = some o → o.wr = false := by
    intro i o ho
    have hm := List.mem_of_getElem? ho
    simp only [heap0L, List.mem_append, List.mem_cons, List.not_mem_nil, or_false] at hm
    rcases hm with (((((hm | hm) | hm) | hm) | hm) | hm) | hm
    · rcases hm with rfl | rfl | rfl | rfl | rfl | rfl | rfl | rfl | rfl | rfl | rfl | rfl | rfl | rfl | rfl | rfl | rfl <;> rfl
    all_goals (subst hm; exact rwV_ro _ _ _ _)
  have s : Sim W.heap.size W (phiOf pl) (lawHeap p of oe od false false false pf.n pe.n pd.n q ofq oeq odq false false false pfq.n peq.n pdq.n) W :=
    Sim.ofList hget hnext (by rw [hnext]; decide) hobjs hro
  have kg : GlobOk (phiOf pl) 15 := fun g hg => by
    match g, hg with
    | 0, _ | 1, _ | 2, _ | 3, _ | 6, _ | 7, _ | 8, _ | 9, _ | 10, _ | 12, _ | 13, _ | 14, _ => exact ⟨_, rfl, rfl, rfl⟩
    | 4, _ => exact ⟨_, rfl, t.b4⟩
    | 5, _ => exact ⟨_, rfl, t.b5⟩
    | 11, _ => exact ⟨_, rfl, t.b11⟩
    | n + 15, hn => exact absurd hn (by omega)
  have hargs : VRs (phiOf pl) [.agg (partC p 17 18 19 of oe od), .agg (partC q 20 21 22 ofq oeq odq)] [v0, v1] := VRs.cons (r.vr rfl rfl rfl) (VRs.cons (r'.vr rfl rfl rfl) VRs.nil)
  have hfn : Tryz.prog.funcs[3]? = some Tryz.f3 := (tabL_ok.fn 3 Tryz.f3 (by kernel_rfl)).1
  refine calls_of_wp hfn (show Tryz.f3.body = some (bodyOf Tryz.f3) by kernel_rfl) ?_
  have hn : Tryz.f3.ntmps = 113 := by kernel_rfl
  rw [hn]
  have i : InH W.heap.size W 15 (envL 15 7 113 (argLive 0 [.agg (partC p 17 18 19 of oe od), .agg (partC q 20 21 22 ofq oeq odq)])) (lawHeap p of oe od false false false pf.n pe.n pd.n q ofq oeq odq false false false pfq.n peq.n pdq.n)
      { tmps := #[v0, v1] ++ Array.replicate (113 - (#[v0, v1] : Array Value).size) Go.undef, defers := [] } W := ⟨⟨_, EnvR.args hargs (Nat.le_of_ble_eq_true rfl) (by decide) kg, s, kg⟩, rfl⟩
  refine wp_mono (law_body p of oe od false false false pf.n pe.n pd.n q ofq oeq odq false false false pfq.n peq.n pdq.n r.good r'.good r.nums r'.nums i) ?_
  rintro ex a' w' ⟨hex, σ, vs, i', hres, hvs⟩
  obtain ⟨φ', ke, s', kg2⟩ := i'.st
  obtain ⟨v', hv', hvr⟩ := results_run (P := Tryz.prog) tabL_ok.tab s' ke hres
  rw [hvs] at hvr
  have : v' = .bool true := by simpa [VR] using hvr
  subst this
  rcases hex with rfl | rfl <;> exact ⟨i'.defers, _, hv', rfl, s'.below⟩

end Go.Proofs.YtmlipbpbbjkigaaGreatDoor
