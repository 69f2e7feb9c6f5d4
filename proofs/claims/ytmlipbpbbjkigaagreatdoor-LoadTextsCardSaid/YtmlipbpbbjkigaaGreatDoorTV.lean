/- Joined texts: what the two Joins answer. -/
import Derived.Test.YtmlipbpbbjkigaaGreatDoorTU
set_option linter.unusedVariables false
set_option linter.unusedSimpArgs false
namespace Go.Proofs.YtmlipbpbbjkigaaGreatDoor
open Go Go.Ev Go.Proofs
set_option maxRecDepth 100000

def szL : List (List UInt8) → Nat
  | [] => 0
  | s :: r => 8 + s.length + szL r
theorem szL_take {ss : List (List UInt8)} : ∀ {i : Nat} {x : List UInt8}, ss[i]? = some x → szL (ss.take (i + 1)) = szL (ss.take i) + (8 + x.length) := by
  induction ss with
  | nil => intro i x e; simp at e
  | cons s ss ih =>
    intro i x e
    cases i with
    | zero => simp at e; subst e; simp [szL]
    | succ i => have := ih (i := i) (by simpa using e); simp [szL, this]; omega
theorem szL_le (ss : List (List UInt8)) (i : Nat) : szL (ss.take i) ≤ szL ss := by
  induction ss generalizing i with
  | nil => simp [szL]
  | cons s ss ih =>
    cases i with
    | zero => simp [szL]
    | succ i => have := ih i; simp [szL]; omega
theorem szL_len (ss : List (List UInt8)) : ss.length ≤ szL ss := by
  induction ss with
  | nil => simp
  | cons s ss ih => simp [szL]; omega
theorem joinParts_len (ss : List (List UInt8)) : (joinParts ss).length = szL ss := by
  induction ss with
  | nil => rfl
  | cons s ss ih => simp [joinParts, szL, numL_len, ih]; omega
theorem joinL_len (ss : List (List UInt8)) : (joinL ss).length = 8 + szL ss := by simp [joinL, numL_len, joinParts_len]
theorem joinParts_take {ss : List (List UInt8)} : ∀ {i : Nat} {x : List UInt8}, ss[i]? = some x → joinParts (ss.take (i + 1)) = joinParts (ss.take i) ++ numL (.ofNat x.length) ++ x := by
  induction ss with
  | nil => intro i x e; simp at e
  | cons s ss ih =>
    intro i x e
    cases i with
    | zero => simp at e; subst e; simp [joinParts]
    | succ i => have := ih (i := i) (by simpa using e); simp [joinParts, this]
def joinTo (ss : List (List UInt8)) (i : Nat) : List UInt8 := numL (.ofNat ss.length) ++ joinParts (ss.take i)
theorem joinTo_len (ss : List (List UInt8)) (i : Nat) : (joinTo ss i).length = 8 + szL (ss.take i) := by simp [joinTo, numL_len, joinParts_len]

theorem join_body (ss : List (List UInt8)) (opn : Bool) (fz : Nat) (cp : Cap) (hb : (joinL ss).length ≤ 1099511627776) {B : Nat} {W w : World} {a : Act}
    (i : InSt B W 15 6 5 45 ⟨[(0, .slice 15 0 ss.length cp)], [.row (rowOf strC ss) opn fz false]⟩ a w) : (bodyOf Tryz.f14).wp Tryz.prog (Gives tabK Tryz.f14 (.str (joinL ss)) B W 6 5 45) a w := by
  rw [joinL_len] at hb
  have hlen := szL_len ss
  refine Leads.on tabK_ok (j_p0 ss opn fz cp) i fun a w i => ?_
  refine as_seq (by kernel_rfl) ?_
  refine Leads.on tabK_ok (j_p1 ss opn fz cp) i fun a w i => ?_
  refine loop_of (N := 60) tabK_ok (by kernel_rfl) (by kernel_rfl) (by kernel_rfl)
    (fun i => ⟨[(0, (.slice 15 0 ss.length cp)), (3, (.int .i64 (.ofNat (8 + szL (ss.take i))))), (9, (.slice 15 0 ss.length cp)), (10, (.int .i64 (.ofNat ss.length))), (11, (.int .i64 (.ofNat i)))], [(.row (rowOf strC ss) opn fz false)]⟩)
    ss.length ?_ ⟨_, j_e1 ss opn fz cp _ _ rfl⟩ i fun a w i => ?_
  · intro j hj
    obtain ⟨x, hx⟩ : ∃ x, ss[j]? = some x := ⟨_, List.getElem?_eq_getElem hj⟩
    have h1 := szL_take hx
    have h2 := szL_le ss (j + 1)
    have l := j_l1 ss opn fz cp j (8 + szL (ss.take j)) x hj hx (by omega) (by omega)
    have e : 8 + szL (ss.take j) + (8 + x.length) = 8 + szL (ss.take (j + 1)) := by omega
    rw [e] at l; exact ⟨_, l⟩
  rw [List.take_length] at i
  refine Leads.on tabK_ok (j_p2 ss opn fz cp (8 + szL ss) ⟨by omega, by omega⟩) i fun a w i => ?_
  refine as_seq (by kernel_rfl) ?_
  refine Leads.on tabK_ok (j_p3 ss opn fz cp (8 + szL ss) _) i fun a w i => ?_
  have e : ([] : List UInt8) ++ numL (.ofNat ss.length) = joinTo ss 0 := by simp [joinTo, joinParts]
  rw [e] at i; clear e
  refine loop_of (N := 60) tabK_ok (by kernel_rfl) (by kernel_rfl) (by kernel_rfl)
    (fun i => ⟨[(6, (.slice 15 0 (joinTo ss i).length (.ex (8 + szL ss)))), (28, (.slice 16 0 ss.length cp)), (29, (.int .i64 (.ofNat ss.length))), (30, (.int .i64 (.ofNat i)))], [(.row (padB (8 + szL ss) (joinTo ss i)) false 0 true), (.row (rowOf strC ss) opn fz false)]⟩)
    ss.length ?_ ⟨_, j_e2 ss opn fz cp _ _ _ rfl⟩ i fun a w i => ?_
  · intro j hj
    obtain ⟨x, hx⟩ : ∃ x, ss[j]? = some x := ⟨_, List.getElem?_eq_getElem hj⟩
    have h1 := szL_take hx
    have h2 := szL_le ss (j + 1)
    have h3 := joinTo_len ss j
    have e : (joinTo ss j ++ numL (.ofNat x.length)) ++ x = joinTo ss (j + 1) := by unfold joinTo; rw [joinParts_take hx]; simp
    cases x with
    | nil =>
      have l := j_l20 ss opn fz cp (8 + szL ss) (joinTo ss j) j hj (by omega) hx (by simp at h1; omega)
      rw [List.append_nil] at e
      have e' : joinTo ss j ++ numL (.ofNat 0) = joinTo ss (j + 1) := e
      rw [e'] at l; exact ⟨_, l⟩
    | cons c s =>
      have l := j_l2 ss opn fz cp (8 + szL ss) (joinTo ss j) j c s hj (by omega) hx (by omega)
      rw [e] at l; exact ⟨_, l⟩
  have e : joinTo ss ss.length = joinL ss := by simp [joinTo, joinL]
  rw [e] at i
  refine Leads.wp tabK_ok (j_p4 ss opn fz cp (8 + szL ss) (joinL ss) (by rw [joinL_len]; exact Nat.le_refl _)) i fun a w i => ?_
  exact ⟨.inr rfl, _, [.str (joinL ss)], i, by kernel_rfl, rfl⟩

theorem strsOf_row {cs : List AV} {ss : List (List UInt8)} : strsOf cs = some ss → cs = rowOf strC ss := by
  induction cs generalizing ss with
  | nil => intro e; cases e; rfl
  | cons c cs ih =>
    intro e
    cases c <;> first | (cases e; done) | skip
    rename_i s
    have e' : (ob (strsOf cs) fun ss => some (s :: ss)) = some ss := e
    obtain ⟨rs, h1, h2⟩ := ob_some e'
    cases h2
    rw [ih h1]; rfl
theorem strsOf_rowOf (ss : List (List UInt8)) : strsOf (rowOf strC ss) = some ss := by
  induction ss with
  | nil => rfl
  | cons s ss ih => show (ob (strsOf (rowOf strC ss)) fun ss => some (s :: ss)) = _; rw [ih]; rfl

/- what both Joins ask for, and answer -/
theorem joinP_cases {most : Nat} {args : List AV} {h : AHeap} {v : AV} (e : joinP most args h = some v) : (args = [.nilslice] ∧ v = .str (joinL [])) ∨
    ∃ l c ss opn fz wr, args = [.slice l 0 ss.length c] ∧ h.get l = some (.row (rowOf strC ss) opn fz wr) ∧ (joinL ss).length ≤ most ∧ v = .str (joinL ss) := by
  unfold joinP at e
  split at e
  · cases e; exact .inl ⟨rfl, rfl⟩
  · rename_i l n c
    unfold Ev.rowAt at e
    cases hg : h.get l with
    | none => rw [hg] at e; cases e
    | some o =>
      rw [hg] at e
      cases o with
      | row cs opn fz wr =>
        obtain ⟨ss, h1, e⟩ := ob_some e
        obtain ⟨h2, e⟩ := ck_some e
        obtain ⟨h3, e⟩ := ck_some e
        cases e
        have := Nat.eq_of_beq_eq_true h2
        subst this
        rw [strsOf_row h1] at hg
        exact .inr ⟨l, c, ss, opn, fz, wr, rfl, hg, Nat.le_of_ble_eq_true h3, rfl⟩
      | amap _ _ => cases e
      | siter _ _ => cases e
      | dead => cases e
  · cases e

theorem joinP_ok {T : Tab} (hg : T.glob = tabK.glob) : PurOk Tryz.prog T 14 (joinP 1099511627776) := by
  refine PurOk.of tabK_ok hg (fn := Tryz.f14) (c := bodyOf Tryz.f14) (n := 45) (depE := 6) (depH := 5) (by kernel_rfl) (by kernel_rfl) (by kernel_rfl) (by decide) fun args h v e => ?_
  rcases joinP_cases e with ⟨rfl, rfl⟩ | ⟨l, c, ss, opn, fz, wr, rfl, hrow, hb, rfl⟩
  · refine ⟨rfl, [], [], [.nilslice], ⟨trivial, trivial, rfl, rfl, Nat.le_of_ble_eq_true rfl, Nat.le_of_ble_eq_true rfl, Nat.le_of_ble_eq_true rfl⟩, fun B W a w i => ?_⟩
    refine Leads.wp tabK_ok j_nil i fun a w i => ?_
    exact ⟨.inr rfl, _, [.str (joinL [])], i, by kernel_rfl, rfl⟩
  · refine ⟨rfl, [.row (rowOf strC ss) opn fz false], [l], [.slice 15 0 ss.length c], ⟨⟨⟨_, hrow, .inl ⟨rfl, rowOf_plain (fun _ => rfl) _⟩, Nat.le_refl _, fun h => by cases h⟩, trivial⟩, trivial, rfl, rfl, Nat.le_of_ble_eq_true rfl, Nat.le_of_ble_eq_true rfl, Nat.le_of_ble_eq_true rfl⟩, fun B W a w i => ?_⟩
    exact join_body ss opn fz c hb i

theorem rjoin_body (ss : List (List UInt8)) (opn : Bool) (fz : Nat) (cp : Cap) (hb : (joinL ss).length ≤ 1152921504606846976) {B : Nat} {W w : World} {a : Act}
    (i : InSt B W 15 5 5 24 ⟨[(0, .slice 15 0 ss.length cp)], [.row (rowOf strC ss) opn fz false]⟩ a w) : (bodyOf Tryz.f16).wp Tryz.prog (Gives tabK Tryz.f16 (.str (joinL ss)) B W 5 5 24) a w := by
  rw [joinL_len] at hb
  have hlen := szL_len ss
  refine Leads.on tabK_ok (r_p0 ss opn fz cp) i fun a w i => ?_
  refine as_seq (by kernel_rfl) ?_
  refine Leads.on tabK_ok (r_p1 ss opn fz cp _) i fun a w i => ?_
  have e : numR (.ofNat ss.length) = joinTo ss 0 := by simp [joinTo, joinParts, num_eq]
  rw [e] at i; clear e
  refine loop_of (N := 60) tabK_ok (by kernel_rfl) (by kernel_rfl) (by kernel_rfl)
    (fun i => ⟨[(3, (.str (joinTo ss i))), (9, (.slice 15 0 ss.length cp)), (10, (.int .i64 (.ofNat ss.length))), (11, (.int .i64 (.ofNat i)))], [(.row (rowOf strC ss) opn fz false)]⟩)
    ss.length ?_ ⟨_, r_e1 ss opn fz cp _ _ rfl⟩ i fun a w i => ?_
  · intro j hj
    obtain ⟨x, hx⟩ : ∃ x, ss[j]? = some x := ⟨_, List.getElem?_eq_getElem hj⟩
    have h1 := szL_take hx
    have h2 := szL_le ss (j + 1)
    have h3 := joinTo_len ss j
    have e : (joinTo ss j ++ numR (.ofNat x.length)) ++ x = joinTo ss (j + 1) := by unfold joinTo; rw [joinParts_take hx, ← num_eq]; simp
    have l := r_l1 ss opn fz cp (joinTo ss j) j x hj (by omega) hx (by omega)
    rw [e] at l; exact ⟨_, l⟩
  have e : joinTo ss ss.length = joinL ss := by simp [joinTo, joinL]
  rw [e] at i
  refine Leads.wp tabK_ok (r_p2 (joinL ss)) i fun a w i => ?_
  exact ⟨.inr rfl, _, [.str (joinL ss)], i, by kernel_rfl, rfl⟩

theorem rjoinP_ok {T : Tab} (hg : T.glob = tabK.glob) : PurOk Tryz.prog T 16 (joinP 1152921504606846976) := by
  refine PurOk.of tabK_ok hg (fn := Tryz.f16) (c := bodyOf Tryz.f16) (n := 24) (depE := 5) (depH := 5) (by kernel_rfl) (by kernel_rfl) (by kernel_rfl) (by decide) fun args h v e => ?_
  rcases joinP_cases e with ⟨rfl, rfl⟩ | ⟨l, c, ss, opn, fz, wr, rfl, hrow, hb, rfl⟩
  · refine ⟨rfl, [], [], [.nilslice], ⟨trivial, trivial, rfl, rfl, Nat.le_of_ble_eq_true rfl, Nat.le_of_ble_eq_true rfl, Nat.le_of_ble_eq_true rfl⟩, fun B W a w i => ?_⟩
    refine Leads.wp tabK_ok r_nil i fun a w i => ?_
    exact ⟨.inr rfl, _, [.str (joinL [])], i, by kernel_rfl, rfl⟩
  · refine ⟨rfl, [.row (rowOf strC ss) opn fz false], [l], [.slice 15 0 ss.length c], ⟨⟨⟨_, hrow, .inl ⟨rfl, rowOf_plain (fun _ => rfl) _⟩, Nat.le_refl _, fun h => by cases h⟩, trivial⟩, trivial, rfl, rfl, Nat.le_of_ble_eq_true rfl, Nat.le_of_ble_eq_true rfl, Nat.le_of_ble_eq_true rfl⟩, fun B W a w i => ?_⟩
    exact rjoin_body ss opn fz c hb i

/- the table with the two Joins -/
noncomputable def purV : PT Pf := PT.set (PT.set purK 14 (some (joinP 1099511627776))) 16 (some (joinP 1152921504606846976))
noncomputable def tabV : Tab := { glob := tab.glob, ty := tab.ty, fn := tab.fn, nat := .nil, ext := tab.ext, pur := purV }
theorem tabV_ok : FullOk Tryz.prog tabV := {
  tab := ⟨tab_ok.tab.ty⟩
  ext := tab_ok.ext
  fn := tab_ok.fn
  nat := fun f n e => (by have e' : (PT.nil : PT Nf).get f = some n := e; rw [PT.get_nil] at e'; cases e')
  pur := fun f p e => (by
    have e' : purV.get f = some p := e
    unfold purV at e'
    rw [PT.get_set _ _ _ _ (by decide)] at e'
    by_cases h1 : f = 16
    · subst h1; rw [if_pos rfl] at e'; cases e'; exact rjoinP_ok rfl
    rw [if_neg h1, PT.get_set _ _ _ _ (by decide)] at e'
    by_cases h2 : f = 14
    · subst h2; rw [if_pos rfl] at e'; cases e'; exact joinP_ok rfl
    rw [if_neg h2] at e'
    exact (tabK_ok.pur f p e').again rfl)
  mixed := tab_ok.mixed }

theorem joinP_of {most : Nat} {l n : Nat} {c : Cap} {ws : List (List UInt8)} {opn : Bool} {fz : Nat} {wr : Bool} {h : AHeap} (hrow : h.get l = some (.row (rowOf strC ws) opn fz wr)) (hn : ws.length = n) (hb : (joinL ws).length ≤ most) :
    joinP most [.slice l 0 n c] h = some (.str (joinL ws)) := by
  subst hn
  show Ev.rowAt h l _ = _
  rw [get_row hrow, strsOf_rowOf]
  simp only [ob_of, Nat.beq_refl, ble_of hb, ck]
theorem vc_join {T : Tab} {most f l n : Nat} {c : Cap} {ws : List (List UInt8)} {opn : Bool} {fz : Nat} {wr : Bool} {h : AHeap} (hx : T.ext.get f = none) (hp : T.pur.get f = some (joinP most)) (hrow : h.get l = some (.row (rowOf strC ws) opn fz wr)) (hn : ws.length = n) (hb : (joinL ws).length ≤ most) :
    ∀ cf, doX T cf (.call f [.slice l 0 n c]) h = some (.str (joinL ws), none) := fun cf => by
  show (match T.ext.get f with
    | some e => ob (e _ h) fun (v, h') => some (v, some h')
    | none => match T.pur.get f with
      | some p => ob (p _ h) fun v => some (v, none)
      | none => ob (cf f _ h) fun (v, h') => some (v, some h')) = _
  rw [hx]; simp only [hp, joinP_of hrow hn hb, ob_of]
end Go.Proofs.YtmlipbpbbjkigaaGreatDoor
