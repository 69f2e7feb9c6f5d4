/- The lists' Same: what it answers. -/
import Derived.Test.YtmlipbpbbjkigaaGreatDoorTYc
set_option linter.unusedVariables false
set_option linter.unusedSimpArgs false
namespace Go.Proofs.YtmlipbpbbjkigaaGreatDoor
open Go Go.Ev Go.Proofs
set_option maxRecDepth 100000

theorem map_eq_get {α β : Type} (f : α → β) : ∀ {xs ys : List α}, xs.length = ys.length → (∀ (j : Nat) (x y : α), xs[j]? = some x → ys[j]? = some y → f x = f y) → xs.map f = ys.map f
  | [], [], _, _ => rfl
  | [], _ :: _, h, _ => by simp at h
  | _ :: _, [], h, _ => by simp at h
  | x :: xs, y :: ys, h, k => by
    rw [List.map_cons, List.map_cons, k 0 x y rfl rfl, map_eq_get f (by simpa using h) fun j a b ha hb => k (j + 1) a b (by simpa using ha) (by simpa using hb)]

theorem sames_body (xs ys : List InD) (ox oy : Option Cap) (opx opy : Bool) (fzx fzy : Nat) (hx : ox = none → xs = []) (hy : oy = none → ys = []) (hn : xs.length ≤ 1048576) {B : Nat} {W w : World} {a : Act}
    (i : InSt B W 15 5 5 26 ⟨[(0, slV 15 xs.length ox), (1, slV 16 ys.length oy)], [rwV ox (rowOf inC xs) opx fzx, rwV oy (rowOf inC ys) opy fzy]⟩ a w) :
    (bodyOf Tryz.f18).wp Tryz.prog (Gives tabX Tryz.f18 (.bool (decide (xs.map wIn = ys.map wIn))) B W 5 5 26) a w := by
  have hlx : ox = none → xs.length = 0 := fun h => by rw [hx h]; rfl
  have hly : oy = none → ys.length = 0 := fun h => by rw [hy h]; rfl
  by_cases hl : xs.length = ys.length
  · refine Leads.on tabX_ok (s_p0 xs ys ox oy opx opy fzx fzy hlx hly hl) i fun a w i => ?_
    refine as_seq (by kernel_rfl) ?_
    refine Leads.on tabX_ok (s_p1 xs ys ox oy opx opy fzx fzy hlx hly) i fun a w i => ?_
    classical
    obtain ⟨r, hr, hall, hend⟩ := firstBad (p := fun j => ∀ x y, xs[j]? = some x → ys[j]? = some y → wIn x = wIn y) xs.length
    have step : ∀ j, j < r → ∃ olds, Leads tabX 60 (lft (lft (dropSeq 1 (lft (rgt (rgt (bodyOf Tryz.f18))))))) 5 5 26
        ⟨[(0, slV 15 xs.length ox), (1, slV 16 ys.length oy), (12, .int .i64 (.ofNat xs.length)), (13, .int .i64 (.ofNat j))], [rwV ox (rowOf inC xs) opx fzx, rwV oy (rowOf inC ys) opy fzy]⟩ .normal
        ⟨[(0, slV 15 xs.length ox), (1, slV 16 ys.length oy), (12, .int .i64 (.ofNat xs.length)), (13, .int .i64 (.ofNat (j + 1)))], [rwV ox (rowOf inC xs) opx fzx, rwV oy (rowOf inC ys) opy fzy]⟩ olds := by
      intro j hj
      have hjx : j < xs.length := by omega
      obtain ⟨x, ex⟩ : ∃ x, xs[j]? = some x := ⟨_, List.getElem?_eq_getElem hjx⟩
      obtain ⟨y, ey⟩ : ∃ y, ys[j]? = some y := ⟨_, List.getElem?_eq_getElem (by omega)⟩
      cases ox with
      | none => rw [hlx rfl] at hjx; omega
      | some cx =>
      cases oy with
      | none => have := hly rfl; omega
      | some cy => exact ⟨_, s_l xs ys opx opy fzx fzy cx cy j x y hjx hn hl ex ey (by simp [hall j hj x y ex ey])⟩
    rcases hend with rfl | ⟨hlt, hbad⟩
    · have e : decide (xs.map wIn = ys.map wIn) = true := decide_eq_true (map_eq_get wIn hl fun j x y ex ey => hall j (List.getElem?_eq_some_iff.1 ex).1 x y ex ey)
      rw [e]
      refine loop_of (N := 60) (id := 0) tabX_ok (by kernel_rfl) (by kernel_rfl) (by kernel_rfl)
        (fun j => ⟨[(0, slV 15 xs.length ox), (1, slV 16 ys.length oy), (12, .int .i64 (.ofNat xs.length)), (13, .int .i64 (.ofNat j))], [rwV ox (rowOf inC xs) opx fzx, rwV oy (rowOf inC ys) opy fzy]⟩)
        xs.length step ⟨_, s_e xs ys ox oy opx opy fzx fzy xs.length rfl⟩ i fun a w i => ?_
      refine Leads.wp tabX_ok s_q i fun a w i => ?_
      exact ⟨.inr rfl, _, [_], i, by kernel_rfl, rfl⟩
    · obtain ⟨x, ex⟩ : ∃ x, xs[r]? = some x := ⟨_, List.getElem?_eq_getElem hlt⟩
      obtain ⟨y, ey⟩ : ∃ y, ys[r]? = some y := ⟨_, List.getElem?_eq_getElem (by omega)⟩
      have hne : wIn x ≠ wIn y := fun h => hbad fun x' y' ex' ey' => by rw [ex] at ex'; rw [ey] at ey'; cases ex'; cases ey'; exact h
      have e : decide (xs.map wIn = ys.map wIn) = false := decide_eq_false fun h => by
        have h1 : (xs.map wIn)[r]? = (ys.map wIn)[r]? := by rw [h]
        rw [List.getElem?_map, List.getElem?_map, ex, ey] at h1
        exact hne (by simpa using h1)
      rw [e]
      refine loop_ret (N := 60) tabX_ok (by kernel_rfl) (by kernel_rfl)
        (fun j => ⟨[(0, slV 15 xs.length ox), (1, slV 16 ys.length oy), (12, .int .i64 (.ofNat xs.length)), (13, .int .i64 (.ofNat j))], [rwV ox (rowOf inC xs) opx fzx, rwV oy (rowOf inC ys) opy fzy]⟩)
        (σ' := ⟨[(4, .bool false)], []⟩) r step ?_ i fun a w i => ?_
      · cases ox with
        | none => rw [hlx rfl] at hlt; omega
        | some cx =>
        cases oy with
        | none => have := hly rfl; omega
        | some cy => exact ⟨_, s_r xs ys opx opy fzx fzy cx cy r x y hlt hn hl ex ey (by simp [hne])⟩
      · exact ⟨.inr rfl, _, [_], i, by kernel_rfl, rfl⟩
  · have e : decide (xs.map wIn = ys.map wIn) = false := decide_eq_false fun h => hl (by simpa using congrArg List.length h)
    rw [e]
    refine Leads.wp tabX_ok (s_ne xs ys ox oy opx opy fzx fzy hlx hly hl) i fun a w i => ?_
    exact ⟨.inr rfl, _, [_], i, by kernel_rfl, rfl⟩

structure ListAt (h : AHeap) (x : AV) (xs : List InD) (l : Nat) (o : Option Cap) (opn : Bool) (fz : Nat) : Prop where
  val : x = slV l xs.length o
  nil : o = none → xs = []
  row : rowAtV h l o (rowOf inC xs) opn fz
def HasList (h : AHeap) (x : AV) (xs : List InD) : Prop := ∃ l o opn fz, ListAt h x xs l o opn fz
def samesR : List AV → AHeap → AV → Prop := fun args h v => ∃ x y xs ys, args = [x, y] ∧ HasList h x xs ∧ HasList h y ys ∧ xs.length ≤ 1048576 ∧ v = .bool (decide (xs.map wIn = ys.map wIn))

theorem samesP_ok {T : Tab} (hg : T.glob = tabX.glob) : PurOk Tryz.prog T 18 (pOf samesR) := by
  refine PurOk.of tabX_ok hg (fn := Tryz.f18) (c := bodyOf Tryz.f18) (n := 26) (depE := 5) (depH := 5) (by kernel_rfl) (by kernel_rfl) (by kernel_rfl) (by decide) fun args h v e => ?_
  obtain ⟨x, y, xs, ys, rfl, ⟨l, o, opn, fz, kx⟩, ⟨l', o', opn', fz', ky⟩, hn, rfl⟩ := pOf_some e
  obtain ⟨rfl, nx, rx⟩ := kx
  obtain ⟨rfl, ny, ry⟩ := ky
  refine ⟨rfl, [rwV o (rowOf inC xs) opn fz, rwV o' (rowOf inC ys) opn' fz'], [l, l'], [slV 15 xs.length o, slV 16 ys.length o'], ⟨⟨like_rwV rx (rowOf_plain inC_plain _), like_rwV ry (rowOf_plain inC_plain _), trivial⟩, ?_, ?_, ?_, Nat.le_of_ble_eq_true rfl, Nat.le_of_ble_eq_true rfl, Nat.le_of_ble_eq_true rfl⟩, fun B W a w i => ?_⟩
  · cases o <;> cases o' <;> exact trivial
  · cases o <;> cases o' <;> rfl
  · cases o <;> cases o' <;> rfl
  · exact sames_body xs ys o o' opn opn' fz fz' nx ny hn i
theorem HasList.one {h : AHeap} {x : AV} {xs ys : List InD} (k : HasList h x xs) (k' : HasList h x ys) : xs.map wIn = ys.map wIn := by
  obtain ⟨l, o, opn, fz, k⟩ := k
  obtain ⟨l', o', opn', fz', k'⟩ := k'
  exact rowOf_inC (fun x y h => by unfold wIn; rw [(inC_inj h).1, (inC_inj h).2]) (slV_one (k.val.symm.trans k'.val) k.nil k'.nil k.row k'.row)
theorem sames_of {h : AHeap} {x y : AV} {xs ys : List InD} (k : HasList h x xs) (k' : HasList h y ys) (hn : xs.length ≤ 1048576) : pOf samesR [x, y] h = some (.bool (decide (xs.map wIn = ys.map wIn))) := by
  refine pOf_of ⟨x, y, xs, ys, rfl, k, k', hn, rfl⟩ ?_
  rintro v' ⟨x', y', xs', ys', hx, k1, k2, _, rfl⟩
  cases hx
  rw [k.one k1, k'.one k2]

noncomputable def purY : PT Pf := PT.set (PT.set (PT.set purX 18 (some (pOf samesR))) 6 (some (pOf (textR 1099511627776)))) 7 (some (pOf (textR 1152921504606846976)))
noncomputable def tabY : Tab := { glob := tab.glob, ty := tab.ty, fn := tab.fn, nat := .nil, ext := tab.ext, pur := purY }
theorem tabY_ok : FullOk Tryz.prog tabY := {
  tab := ⟨tab_ok.tab.ty⟩
  ext := tab_ok.ext
  fn := tab_ok.fn
  nat := fun f n e => (by have e' : (PT.nil : PT Nf).get f = some n := e; rw [PT.get_nil] at e'; cases e')
  pur := fun f p e => (by
    have e' : purY.get f = some p := e
    unfold purY at e'
    rw [PT.get_set _ _ _ _ (by decide)] at e'
    by_cases h1 : f = 7
    · subst h1; rw [if_pos rfl] at e'; cases e'; exact rtextP_ok rfl
    rw [if_neg h1, PT.get_set _ _ _ _ (by decide)] at e'
    by_cases h2 : f = 6
    · subst h2; rw [if_pos rfl] at e'; cases e'; exact textP_ok rfl
    rw [if_neg h2, PT.get_set _ _ _ _ (by decide)] at e'
    by_cases h3 : f = 18
    · subst h3; rw [if_pos rfl] at e'; cases e'; exact samesP_ok rfl
    rw [if_neg h3] at e'
    exact (tabX_ok.pur f p e').again rfl)
  mixed := tab_ok.mixed }
end Go.Proofs.YtmlipbpbbjkigaaGreatDoor
