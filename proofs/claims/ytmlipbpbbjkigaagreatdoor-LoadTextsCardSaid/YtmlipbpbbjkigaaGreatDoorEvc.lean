/-
  A small evaluator of the model's programs, part 3 of 4: definitions and their soundness.
-/
import Derived.Test.YtmlipbpbbjkigaaGreatDoorEvb
import Derived.LoopN
import Derived.KernelRfl
import Derived.Lib.Bytealg
set_option linter.unusedVariables false
set_option linter.unusedSimpArgs false
set_option maxHeartbeats 2000000
/-
  A small evaluator of the model's programs: regions whose order is open: they end as in the text's order.
-/
namespace Go.Ev
open Go Go.RowKit

variable {P : Program} {T : Tab} {B : Nat} {W w : World} {φ : Phi} {h : AHeap}

def lis {α : Type} (l : Array Bool) (f : Nat → Option α) (k : Nat) : Option α := if l.getD k false = true then f k else none

theorem lis_upto {α : Type} {f : Nat → Option α} {l : Array Bool} {j N : Nat} {x : α} (hLj : l.getD j false = false) (hj : j ≤ N)
    (H : ∀ k y, k < N → f k = some y → k ≠ j → (k < j → l.getD k false = true) ∧ (j < k → l.getD k false = false)) : last (lis l f) N x = last f j x := by
  rw [last_cut (j := j) N hj ?_]
  · refine last_congr j fun k hk => ?_
    unfold lis
    cases hf : f k with
    | none => simp
    | some y => rw [if_pos ((H k y (by omega) hf (by omega)).1 hk)]
  · intro k h1 h2
    unfold lis
    by_cases hkj : k = j
    · subst hkj; rw [if_neg (by rw [hLj]; simp)]
    · cases hf : f k with
      | none => simp
      | some y => rw [if_neg (by rw [(H k y h2 hf hkj).2 (by omega)]; simp)]

theorem lis_set_none {α : Type} {f : Nat → Option α} {l : Array Bool} {j N : Nat} {x : α} (hf : f j = none) : last (lis (l.setIfInBounds j true) f) N x = last (lis l f) N x := by
  refine last_congr N fun k _ => ?_
  unfold lis
  by_cases hkj : k = j
  · subst hkj; rw [hf]; simp
  · rw [getD_set_ne false (Ne.symm hkj)]

theorem lis_set_some {α : Type} {f : Nat → Option α} {l : Array Bool} {j N : Nat} {x y : α} (hf : f j = some y) (hj : j < N) (hl : j < l.size) (H : ∀ k z, k < N → f k = some z → j < k → l.getD k false = false) :
    last (lis (l.setIfInBounds j true) f) N x = y := by
  refine last_at (j := j) hj ?_ ?_
  · unfold lis; rw [if_pos (by simp [Array.getD, hl])]; exact hf
  · intro k h1 h2
    unfold lis
    rw [getD_set_ne false (by omega)]
    cases hk : f k with
    | none => simp
    | some z => rw [if_neg (by rw [H k z h2 hk h1]; simp)]

/- a state between two operations -/
structure DSt (T : Tab) (B : Nat) (W : World) (φ0 : Phi) (ops : Array Oper) (rs : List Rec) (env : Env) (h : AHeap) (l : Array Bool) (a : Act) (w : World) : Prop where
  size : l.size = ops.size
  closed : Closed ops.toList fun i => l.getD i false = true
  st : ∃ φ, φ0.le φ ∧ Sim B W φ (last (lis l (hv rs)) ops.size h) w ∧ ∀ t x, last (lis l (wv ops.toList rs env.size t)) ops.size (env.get t) = some x → VR φ x (a.tmps.getD t Go.undef)
  tmps : a.tmps.size = env.size
  defers : a.defers = []

theorem wv_some {ops : List Oper} {rs : List Rec} {size t k : Nat} {x : Option AV} (h : wv ops rs size t k = some x) : ∃ o r, ops[k]? = some o ∧ rs[k]? = some r ∧ o.dst = some t ∧ t < size ∧ x = some r.v := by
  unfold wv at h
  cases ho : ops[k]? with
  | none => rw [ho] at h; cases h
  | some o =>
    cases hr : rs[k]? with
    | none => rw [ho, hr] at h; cases h
    | some r =>
      rw [ho, hr] at h
      dsimp only at h
      by_cases hc : o.dst = some t ∧ t < size
      · rw [if_pos hc] at h; cases h; exact ⟨o, r, rfl, rfl, hc.1, hc.2, rfl⟩
      · rw [if_neg hc] at h; cases h

theorem wv_none {ops : List Oper} {rs : List Rec} {size t k : Nat} (h : ∀ o, ops[k]? = some o → o.dst = some t → t < size → False) : wv ops rs size t k = none := by
  cases hx : wv ops rs size t k with
  | none => rfl
  | some x => obtain ⟨o, r, h1, _, h3, h4, _⟩ := wv_some hx; exact (h o h1 h3 h4).elim

theorem drawE_any (k : AllOk P T) {cf : CallF} (kc : CallOk P T cf) {ops : Array Oper} {Q : Exit → Act → World → Prop} {env : Env} {env' : Env} {h' : AHeap} (e : drawE T cf ops.toList env h = some (env', h'))
    {a0 : Act} (ke : EnvR φ env a0) (s : Sim B W φ h w) (kg : GlobOk φ T.glob) (hd : a0.defers = [])
    (hQ : ∀ φ' a' w', φ.le φ' → EnvR φ' env' a' → a'.defers = [] → Sim B W φ' h' w' → Q .normal a' w') : wpAny P .any ops Q ops.size (Array.replicate ops.size false) a0 w := by
  unfold drawE at e
  replace e := ob_some e; obtain ⟨⟨rs, env1, h1⟩, ht, e⟩ := e
  rw [traceR_eq] at ht
  dsimp only at e
  obtain ⟨hedge, e⟩ := ck_some e
  obtain ⟨htmp, e⟩ := ck_some e
  obtain ⟨hchain, e⟩ := ck_some e
  obtain ⟨hstab, e⟩ := ck_some e
  cases e
  have tr := traced ke.room ht
  have hN : ops.toList.length = ops.size := by simp
  have hops : ∀ i : Nat, ops.toList[i]? = ops[i]? := fun i => by simp
  /- who names what another writes -/
  have order : ∀ (i j : Nat) (o p : Oper) (t : Nat), ops[j]? = some o → ops[i]? = some p → t ∈ namesE ops.toList o → p.dst = some t → i ≠ j →
      (i < j → bitE (beforeE [] ops.toList) j i = true) ∧ (j < i → bitE (beforeE [] ops.toList) i j = true) := by
    intro i j o p t ho hp hn hpd hne
    have h1 := withIdx_all htmp (i := j) (a := o) (by rw [hops]; exact ho)
    have h2 := withIdx_all h1 (i := i) (a := p) (by rw [hops]; exact hp)
    dsimp only at h2
    rw [hpd] at h2
    dsimp only at h2
    simp only [Bool.or_eq_true, Bool.not_eq_true'] at h2
    rcases h2 with (h2 | h2) | h2
    · have : (namesE ops.toList o).any (Nat.beq t) = true := List.any_eq_true.2 ⟨t, hn, Nat.beq_refl t⟩
      rw [this] at h2; cases h2
    · exact absurd (Nat.eq_of_beq_eq_true h2) hne
    · constructor
      · intro hlt
        have : Nat.blt i j = true := Nat.ble_eq_true_of_le hlt
        rw [this] at h2; exact h2
      · intro hlt
        cases hb : Nat.blt i j with
        | true => have := blt_lt hb; omega
        | false => rw [hb] at h2; exact h2
  have effchain : ∀ (i j : Nat) hp hq, hv rs i = some hp → hv rs j = some hq → i < j → bitE (beforeE [] ops.toList) j i = true := fun i j hp hq h1 h2 hlt =>
    chain_spec _ (effs_sorted rs 0) hchain i hp j hq (mem_effs0.2 h1) (mem_effs0.2 h2) hlt
  refine wpAny_inv (DSt T B W φ ops rs env h) ?_ (fun l a w x => x.size) ?_ ops.size _ a0 w ?_ ?_
  · /- at the end -/
    intro l a w I hr
    have all : ∀ j, j < ops.size → l.getD j false = true := by
      intro j
      induction j using Nat.strongRecOn with
      | _ j ih =>
        intro hj
        cases hl : l.getD j false with
        | true => rfl
        | false =>
          exfalso
          have ho : ops[j]? = some ops[j] := by simp [hj]
          have : j ∈ Region.ready .any ops l := by
            rw [mem_ready]
            refine ⟨?_, ops[j], ho, fun e he hb => ?_⟩
            · have hjl : j < l.size := by rw [I.size]; exact hj
              simp only [Array.getD, hjl, dif_pos] at hl ⊢; exact hl
            · have h1 := withIdx_all hedge (i := j) (a := ops[j]) (by rw [hops]; exact ho)
              dsimp only at h1
              rw [List.all_eq_true] at h1
              have h2 := h1 e (by simpa using he)
              rw [hb] at h2
              have h3 := blt_lt (by simpa using h2)
              exact ih e.on h3 (by omega)
          rw [hr] at this; cases this
    obtain ⟨ψ, hle, hs, hv'⟩ := I.st
    obtain ⟨f1, f2, f3, f4⟩ := tr.fin
    have none_out : ∀ t, env.size ≤ t → last (wv ops.toList rs env.size t) ops.size (env.get t) = none := fun t ht => by
      rw [last_cut (j := 0) ops.size (by omega) fun k _ _ => wv_none fun _ _ _ h => by omega]
      exact ke.out t ht
    refine hQ ψ a w hle ⟨by rw [I.tmps, f1], by rw [f1]; exact ke.room, fun t x hx => ?_, fun t ht => by rw [f3 t, hN]; rw [f1] at ht; exact none_out t ht, fun g hg => ?_⟩ I.defers ?_
    · rw [f3 t, hN] at hx
      have := hv' t x
      rw [last_congr (g := wv ops.toList rs env.size t) ops.size fun k hk => by unfold lis; rw [if_pos (all k hk)]] at this
      exact this hx
    · obtain ⟨p, h1, h2⟩ := ke.glob g (by rw [← f2]; exact hg)
      exact ⟨p, hle _ _ h1, h2⟩
    · rw [f4, hN]
      rw [last_congr (g := hv rs) ops.size fun k hk => by unfold lis; rw [if_pos (all k hk)]] at hs
      exact hs
  · /- a step -/
    intro l a w I j hj
    obtain ⟨hj1, o, ho, hafter⟩ := mem_ready.1 hj
    have hjN : j < ops.size := (Array.getElem?_eq_some_iff.1 ho).1
    have hjl : j < l.size := by rw [I.size]; exact hjN
    have hLj : l.getD j false = false := by simp only [Array.getD, hjl, dif_pos] at hj1 ⊢; exact hj1
    have hset : ∀ k, (l.setIfInBounds j true).getD k false = true ↔ (l.getD k false = true ∨ k = j) := by
      intro k
      by_cases hk : k = j
      · subst hk; simp [Array.getD, hjl]
      · rw [getD_set_ne false (Ne.symm hk)]; simp [hk]
    have closed' : Closed ops.toList fun i => l.getD i false = true ∨ i = j := by
      intro j' o' ho' hL e he hb
      rcases hL with hL | hL
      · exact .inl (I.closed j' o' ho' hL e he hb)
      · subst hL
        have : o' = o := by rw [hops, ho] at ho'; exact (Option.some.inj ho').symm
        subst this
        exact .inl (hafter e (by simpa using he) hb)
    have anc : ∀ i, i ≠ j → bitE (beforeE [] ops.toList) j i = true → l.getD i false = true := fun i hne hb =>
      (bit_closed closed' hb (.inr rfl)).resolve_right hne
    have des : ∀ i, bitE (beforeE [] ops.toList) i j = true → l.getD i false = false := fun i hb => by
      cases hl : l.getD i false with
      | false => rfl
      | true => have := bit_closed I.closed hb hl; rw [hLj] at this; cases this
    obtain ⟨r, hr, ⟨hknown, hwant⟩, hdo, hno, hrs, hrg, hre, hrp⟩ := tr.at_ j o (by rw [hops]; exact ho)
    obtain ⟨ψ, hle, hs, hvr⟩ := I.st
    have hwn : ∀ t ∈ namesE ops.toList o, ∀ k y, k < ops.size → wv ops.toList rs env.size t k = some y → k ≠ j → (k < j → l.getD k false = true) ∧ (j < k → l.getD k false = false) := by
      intro t hn k y _ hk hkj
      obtain ⟨p, _, hp, _, hpd, _, _⟩ := wv_some hk
      obtain ⟨h1, h2⟩ := order k j o p t ho (by rw [← hops]; exact hp) hn hpd hkj
      exact ⟨fun hlt => anc k hkj (h1 hlt), fun hlt => des k (h2 hlt)⟩
    /- what the operation reads -/
    have reads : ∀ t ∈ namesE ops.toList o, last (lis l (wv ops.toList rs env.size t)) ops.size (env.get t) = r.env.get t := fun t hn => by
      rw [hre t]; exact lis_upto hLj (by omega) (hwn t hn)
    obtain ⟨pt, hpt⟩ := PT.exists_of (fun t => last (lis l (wv ops.toList rs env.size t)) ops.size (env.get t)) env.size ke.room
    let env2 : Env := { vals := pt, size := env.size, glob := env.glob }
    have hget2 : ∀ t, env2.get t = last (lis l (wv ops.toList rs env.size t)) ops.size (env.get t) := by
      intro t
      show pt.get t = _
      rw [hpt t]
      by_cases hlt : t < env.size
      · rw [if_pos hlt]
      · rw [if_neg hlt, last_cut (j := 0) ops.size (by omega) fun k _ _ => by unfold lis; rw [wv_none fun _ _ _ h => hlt h]; simp]
        exact (ke.out t (by omega)).symm
    have ke2 : EnvR ψ env2 a := ⟨I.tmps, ke.room, fun t x hx => hvr t x (by rw [← hget2 t]; exact hx), fun t ht => by show pt.get t = none; rw [hpt t, if_neg (by have ht' : env.size ≤ t := ht; omega)], fun g hg => let ⟨p, h1, h2⟩ := ke.glob g hg; ⟨p, hle _ _ h1, h2⟩⟩
    have hnames : ∀ t ∈ namesE ops.toList o, env2.get t = r.env.get t := fun t hn => (hget2 t).trans (reads t hn)
    have hwant2 : Region.wanted o (yielded ops a.tmps) = r.wanted := by
      rw [← wantE_R ke2 o (by rw [knownE_congr (e := env2) (e' := r.env) hrs.symm hnames]; exact hknown), wantE_congr (e := env2) (e' := r.env) hrs.symm hnames, hwant]
    have hdo2 : ∀ m, doE T cf env2 o.op m = doE T cf r.env o.op m := fun m => doE_congr T cf (ops := ops.toList) (e := env2) (e' := r.env) hrg.symm hnames m
    /- what comes next -/
    have next : ∀ (ψ' : Phi) (v' : Value) (w' : World) (m : AHeap), ψ.le ψ' → VR ψ' r.v v' → m = last (lis (l.setIfInBounds j true) (hv rs)) ops.size h → Sim B W ψ' m w' →
        DSt T B W φ ops rs env h (l.setIfInBounds j true) (a.put o.dst v') w' := by
      intro ψ' v' w' m hle' hv' hm hs'
      refine ⟨by simp [I.size], ?_, ⟨ψ', Phi.le_trans hle hle', hm ▸ hs', fun t x hx => ?_⟩, ?_, ?_⟩
      · intro j' o' ho' hL e he hb
        exact (hset e.on).2 (closed' j' o' ho' ((hset j').1 hL) e he hb)
      · by_cases hc : o.dst = some t ∧ t < env.size
        · have hwj : wv ops.toList rs env.size t j = some (some r.v) := by
            unfold wv; rw [hops, ho, hr]; dsimp only; rw [if_pos hc]
          have hn : t ∈ namesE ops.toList o := by unfold namesE; simp [hc.1]
          rw [lis_set_some hwj hjN hjl fun k z hk hkz hlt => (hwn t hn k z hk hkz (by omega)).2 hlt] at hx
          cases hx
          have : (a.put o.dst v').tmps.getD t Go.undef = v' := by
            have hts : t < a.tmps.size := by rw [I.tmps]; exact hc.2
            rw [hc.1]; simp [Act.put, Array.getD, hts]
          rw [this]; exact hv'
        · have hwj : wv ops.toList rs env.size t j = none := wv_none fun o' ho' hd' hlt => by
            rw [hops, ho] at ho'; cases ho'; exact hc ⟨hd', hlt⟩
          rw [lis_set_none hwj] at hx
          have : (a.put o.dst v').tmps.getD t Go.undef = a.tmps.getD t Go.undef := by
            cases hd' : o.dst with
            | none => rfl
            | some d =>
              by_cases hdt : d = t
              · subst hdt
                have hge : ¬ d < a.tmps.size := by rw [I.tmps]; exact fun h => hc ⟨hd', h⟩
                simp [Act.put, Array.getD, hge]
              · simp only [Act.put, Array.getD_eq_getD_getElem?, Array.getElem?_setIfInBounds_ne hdt]
          rw [this]; exact VR.mono hle' _ _ (hvr t x hx)
      · cases o.dst <;> simpa [Act.put] using I.tmps
      · cases o.dst <;> simpa [Act.put] using I.defers
    have hvj : hv rs j = r.post := by unfold hv; rw [hr]
    unfold wpOp
    rw [ho]
    dsimp only
    rw [hwant2]
    cases hw : r.wanted with
    | false =>
      rw [if_neg (by simp)]
      obtain ⟨hv0, hp0⟩ := hno hw
      exact next ψ Go.undef w _ (Phi.le_refl ψ) (by rw [hv0]; exact VR.undef) (by rw [lis_set_none (hvj.trans hp0)]) hs
    | true =>
      rw [if_pos rfl]
      left
      have hdo' := hdo hw
      cases hpost : r.post with
      | some h1 =>
        have heff : hv rs j = some h1 := hvj.trans hpost
        have hord : ∀ k y, k < ops.size → hv rs k = some y → k ≠ j → (k < j → l.getD k false = true) ∧ (j < k → l.getD k false = false) := fun k y _ hk hkj =>
          ⟨fun hlt => anc k hkj (effchain k j y h1 hk heff hlt), fun hlt => des k (effchain j k h1 y heff hk hlt)⟩
        have hm : last (lis l (hv rs)) ops.size h = r.pre := by rw [hrp]; exact lis_upto hLj (by omega) hord
        rw [hm] at hs
        rw [hpost] at hdo'
        refine opStep k kc hs ke2 (kg.mono hle) (v := r.v) (ho := some h1) (by rw [hdo2]; exact hdo') fun ψ' v' w' hle' hv' hs' => ?_
        exact next ψ' v' w' h1 hle' hv' (lis_set_some heff hjN hjl fun k z hk hkz hlt => (hord k z hk hkz (by omega)).2 hlt).symm hs'
      | none =>
        have hstb := stable_spec _ _ 0 hstab j o r (by rw [hops]; exact ho) hr
        rw [Nat.zero_add] at hstb
        unfold stableE at hstb
        rw [hw, hpost] at hstb
        simp only [Bool.and_eq_true, Bool.or_eq_true] at hstb
        have notj : ∀ e hp, hv rs e = some hp → e ≠ j := fun e hp he hej => by subst hej; rw [hvj, hpost] at he; cases he
        have hok : last (lis l (hv rs)) ops.size h = r.pre ∨ okAt T cf o r (last (lis l (hv rs)) ops.size h) = true := by
          rcases last_cases (lis l (hv rs)) h ops.size with ⟨h1, h2⟩ | ⟨i, y, h1, h2, h3, h4⟩
          · rw [h1]
            rcases hstb.1 with hx | hx
            · obtain ⟨⟨e, hp⟩, hm, hb⟩ := List.any_eq_true.1 hx
              have he := mem_effs0.1 hm
              have hlis := anc e (notj e hp he) hb
              have hes : e < ops.size := by
                have : e < rs.length := by
                  unfold hv at he
                  cases hre : rs[e]? with
                  | none => rw [hre] at he; cases he
                  | some _ => exact (List.getElem?_eq_some_iff.1 hre).1
                rw [tr.len] at this; simpa using this
              have := h2 e hes
              unfold lis at this
              rw [if_pos hlis, he] at this; cases this
            · rcases hx with hx | hx
              · left
                rw [hrp, last_cut (j := 0) j (Nat.zero_le _) fun k _ hkj => ?_]
                · rfl
                · cases hk : hv rs k with
                  | none => rfl
                  | some hp =>
                    have := blt_lt (List.all_eq_true.1 hx (k, hp) (mem_effs0.2 hk))
                    dsimp only at this
                    omega
              · exact .inr hx
          · rw [h3]
            have hi : l.getD i false = true ∧ hv rs i = some y := by
              unfold lis at h2
              by_cases hc : l.getD i false = true
              · rw [if_pos hc] at h2; exact ⟨hc, h2⟩
              · rw [if_neg hc] at h2; cases h2
            have hx := List.all_eq_true.1 hstb.2 (i, y) (mem_effs0.2 hi.2)
            simp only [Bool.or_eq_true] at hx
            rcases hx with hx | hx
            · exfalso
              obtain ⟨⟨e, hp⟩, hm, hb⟩ := List.any_eq_true.1 hx
              have he := mem_effs0.1 hm
              dsimp only at hb
              cases hle' : Nat.ble e i with
              | true =>
                rw [hle'] at hb
                have hei := Nat.le_of_ble_eq_true hle'
                have hnl := des e hb
                rcases Nat.lt_or_ge e i with hlt | hge
                · have := bit_closed I.closed (effchain e i hp y he hi.2 hlt) hi.1
                  rw [hnl] at this; cases this
                · have : e = i := by omega
                  subst this; rw [hnl] at hi; cases hi.1
              | false =>
                rw [hle'] at hb
                have hei : i < e := by
                  rcases Nat.lt_or_ge i e with hlt | hge
                  · exact hlt
                  · have := Nat.ble_eq_true_of_le hge; rw [hle'] at this; cases this
                have hlis := anc e (notj e hp he) hb
                have hes : e < ops.size := by
                  have : e < rs.length := by
                    unfold hv at he
                    cases hre : rs[e]? with
                    | none => rw [hre] at he; cases he
                    | some _ => exact (List.getElem?_eq_some_iff.1 hre).1
                  rw [tr.len] at this; simpa using this
                have := h4 e hei hes
                unfold lis at this
                rw [if_pos hlis, he] at this; cases this
            · simp only [Bool.or_eq_true, Bool.and_eq_true] at hx
              rcases hx with ⟨hx1, hx⟩ | hx
              · left
                rw [hrp]
                refine (last_at (j := i) (blt_lt hx1) hi.2 fun k hk1 hk2 => ?_).symm
                cases hk : hv rs k with
                | none => rfl
                | some hp =>
                  have := List.all_eq_true.1 hx (k, hp) (mem_effs0.2 hk)
                  simp only [Bool.or_eq_true] at this
                  rcases this with h | h
                  · have := Nat.le_of_ble_eq_true h; omega
                  · have := blt_lt h; omega
              · exact .inr hx
        have hok' : ∃ v, doE T cf r.env o.op (last (lis l (hv rs)) ops.size h) = some (v, none) ∧ v = r.v := by
          rcases hok with hok | hok
          · rw [hok]; rw [hpost] at hdo'; exact ⟨r.v, hdo', rfl⟩
          · unfold okAt at hok
            cases hd2 : doE T cf r.env o.op (last (lis l (hv rs)) ops.size h) with
            | none => rw [hd2] at hok; cases hok
            | some x =>
              obtain ⟨v, ho2⟩ := x
              rw [hd2] at hok
              cases ho2 with
              | some _ => cases hok
              | none => exact ⟨v, rfl, AV.eqb_eq _ _ hok⟩
        obtain ⟨v, hd2, hvv⟩ := hok'
        subst hvv
        refine opStep k kc hs ke2 (kg.mono hle) (v := r.v) (ho := none) (by rw [hdo2]; exact hd2) fun ψ' v' w' hle' hv' hs' => ?_
        exact next ψ' v' w' _ hle' hv' (lis_set_none (hvj.trans hpost)).symm hs'
  · /- so many -/
    refine Nat.le_trans (List.length_filter_le _ _) ?_
    simp
  · /- at the start -/
    have hf : ∀ k, (Array.replicate ops.size false).getD k false = false := by
      intro k
      by_cases hk : k < ops.size <;> simp [Array.getD, hk]
    have hl0 : ∀ {α : Type} (f : Nat → Option α) (x : α), last (lis (Array.replicate ops.size false) f) ops.size x = x := by
      intro α f x
      rw [last_cut (j := 0) ops.size (by omega) fun k _ _ => by unfold lis; rw [if_neg (by rw [hf k]; simp)]]
      rfl
    refine ⟨by simp, fun j o _ hL => (by have hL' : (Array.replicate ops.size false).getD j false = true := hL; rw [hf j] at hL'; cases hL'), ⟨φ, Phi.le_refl φ, ?_, fun t x hx => ?_⟩, ke.size, hd⟩
    · rw [hl0]; exact s
    · rw [hl0] at hx; exact ke.val t x hx

end Go.Ev

/-
  A small evaluator of the model's programs: code, calls: what is run.
-/
namespace Go.Ev
open Go
noncomputable section

/- ---------------------------------------------------------------- code -/
inductive Ex where
  | normal
  | exit (id : Nat)
  | ret

abbrev CodeF := Code → Env → AHeap → Option (Ex × Env × AHeap)

def stepE (T : Tab) (rc : CodeF) (cf : CallF) (c : Code) (env : Env) (h : AHeap) : Option (Ex × Env × AHeap) :=
  match c with
  | .skip => some (.normal, env, h)
  | .label _ => some (.normal, env, h)
  | .ret => some (.ret, env, h)
  | .exit id => some (.exit id, env, h)
  | .seq a b => ob (rc a env h) fun (x, env1, h1) => match x with
    | .normal => rc b env1 h1
    | x => some (x, env1, h1)
  | .cond c a b => ob (env.eval c) fun v => match v with
    | .bool true => rc a env h
    | .bool false => rc b env h
    | _ => none
  | .block id a => ob (rc a env h) fun (x, env1, h1) => match x with
    | .exit i => match Nat.beq i id with
      | true => some (.normal, env1, h1)
      | false => some (.exit i, env1, h1)
    | x => some (x, env1, h1)
  | .loop a => ob (rc a env h) fun (x, env1, h1) => match x with
    | .normal => rc (.loop a) env1 h1
    | x => some (x, env1, h1)
  | .scope a => rc a env h
  | .region _ ops false => ob (opsR T cf ops.toList ops.toList env h) fun (env1, h1) => some (.normal, env1, h1)
  | .region _ ops true => ob (drawE T cf ops.toList env h) fun (env1, h1) => some (.normal, env1, h1)
  | _ => none

def st_seq (rc : CodeF) (env : Env) (h : AHeap) (a b : Code) : Option (Ex × Env × AHeap) :=
  ob (rc a env h) fun (x, env1, h1) => match x with
    | .normal => rc b env1 h1
    | x => some (x, env1, h1)
def st_cond (rc : CodeF) (env : Env) (h : AHeap) (c : Operand) (a b : Code) : Option (Ex × Env × AHeap) :=
  ob (env.eval c) fun v => match v with
    | .bool true => rc a env h
    | .bool false => rc b env h
    | _ => none
def st_block (rc : CodeF) (env : Env) (h : AHeap) (id : Nat) (a : Code) : Option (Ex × Env × AHeap) :=
  ob (rc a env h) fun (x, env1, h1) => match x with
    | .exit i => match Nat.beq i id with
      | true => some (.normal, env1, h1)
      | false => some (.exit i, env1, h1)
    | x => some (x, env1, h1)
def st_loop (rc : CodeF) (env : Env) (h : AHeap) (a : Code) : Option (Ex × Env × AHeap) :=
  ob (rc a env h) fun (x, env1, h1) => match x with
    | .normal => rc (.loop a) env1 h1
    | x => some (x, env1, h1)
def st_region (T : Tab) (cf : CallF) (env : Env) (h : AHeap) (_ : Nat) (ops : Array Oper) (draw : Bool) : Option (Ex × Env × AHeap) :=
  match draw with
  | false => ob (opsR T cf ops.toList ops.toList env h) fun (env1, h1) => some (.normal, env1, h1)
  | true => ob (drawE T cf ops.toList env h) fun (env1, h1) => some (.normal, env1, h1)
def st_scope (rc : CodeF) (env : Env) (h : AHeap) (a : Code) : Option (Ex × Env × AHeap) := rc a env h

def stepF (T : Tab) (rc : CodeF) (cf : CallF) (c : Code) (env : Env) (h : AHeap) : Option (Ex × Env × AHeap) :=
  Code.casesOn (motive := fun _ => Option (Ex × Env × AHeap)) c (some (.normal, env, h)) (st_region T cf env h) (st_seq rc env h) (st_cond rc env h) (st_block rc env h) (st_loop rc env h)
    (fun _ _ _ _ => none) (fun id => some (.exit id, env, h)) (st_scope rc env h) (fun _ => some (.normal, env, h)) (fun _ => none) (some (.ret, env, h)) (fun _ => none)

theorem stepF_eq (T : Tab) (rc : CodeF) (cf : CallF) : stepF T rc cf = stepE T rc cf := by
  funext c env h
  cases c <;> first | rfl | (rename_i draw; cases draw <;> rfl)

/- the results of a body that has ended -/
def resultE (T : Tab) (env : Env) (h : AHeap) : List ResultVar → Option (List AV)
  | [] => some []
  | .tmp t :: rest => ob (env.get t) fun v => ob (resultE T env h rest) fun vs => some (v :: vs)
  | .cell a t :: rest => match env.get a with
    | some (.ptr l o) => ob (loadE T t l o h) fun v => ob (resultE T env h rest) fun vs => some (v :: vs)
    | _ => none

def tupleE : List AV → AV
  | [v] => v
  | vs => .tuple vs

def argsE (i : Nat) : List AV → PT AV → PT AV
  | [], t => t
  | a :: as, t => argsE (i + 1) as (t.set i (some a))

def enterE (rc : CodeF) (T : Tab) (fn : Func) (args : List AV) (h : AHeap) : Option (AV × AHeap) :=
  match fn.body with
  | none => none
  | some c =>
    ck (Nat.ble args.length fn.ntmps) <| ck (Nat.ble fn.ntmps PT.room) <|
    ob (rc c { vals := argsE 0 args .nil, size := fn.ntmps, glob := T.glob } h) fun (x, env, h1) => match x with
      | .exit _ => none
      | _ => ob (resultE T env h1 fn.results.toList) fun vs => some (tupleE vs, h1)

def callE (rc : CodeF) (T : Tab) (f : FuncId) (args : List AV) (h : AHeap) : Option (AV × AHeap) :=
  match T.nat.get f with
  | some n => n args h
  | none => ob (T.fn.get f) fun fn => enterE rc T fn args h

/- so many levels deep -/
def run (T : Tab) (n : Nat) : CodeF :=
  Nat.rec (motive := fun _ => CodeF) (fun _ _ _ => none) (fun _ rc => stepF T rc (callE rc T)) n

def call (T : Tab) (n : Nat) (f : FuncId) (args : List AV) (h : AHeap) : Option (AV × AHeap) := callE (run T n) T f args h


end
end Go.Ev

/-
  A small evaluator of the model's programs: code, calls: proof.
-/
namespace Go.Ev
open Go Go.RowKit

variable {P : Program} {T : Tab} {B : Nat} {W w : World} {φ : Phi} {h : AHeap}

structure NatOk (P : Program) (T : Tab) (f : FuncId) (n : Nf) : Prop where
  enter : ∀ (as : Array Value) (w : World), (callFunc f as).run P w = .ok (.enter f as) w
  run : ∀ args h v h', n args h = some (v, h') → ∀ (B : Nat) (W : World) (φ : Phi) (w : World) (args' : List Value), Sim B W φ h w → VRs φ args args' → GlobOk φ T.glob → Calls P f args'.toArray w (Ends B W φ v h')

structure FullOk (P : Program) (T : Tab) : Prop extends AllOk P T where
  fn : ∀ f fn, T.fn.get f = some fn → P.funcs[f]? = some fn ∧ ∀ (as : Array Value) (w : World), (callFunc f as).run P w = .ok (.enter f as) w
  nat : ∀ f n, T.nat.get f = some n → NatOk P T f n
  mixed : P.follows .mixedOrders = true

def Ex.to : Ex → Exit
  | .normal => .normal
  | .exit id => .exit id
  | .ret => .ret

theorem argsE_get : ∀ (as : List AV) (i : Nat) (t : PT AV), i + as.length ≤ PT.room → ∀ j, (argsE i as t).get j = if i ≤ j ∧ j < i + as.length then as[j - i]? else t.get j
  | [], i, t, _, j => by simp [argsE]; intro h1 h2; omega
  | a :: as, i, t, h, j => by
    simp only [List.length_cons] at h
    unfold argsE
    rw [argsE_get as (i + 1) _ (by omega) j, PT.get_set _ _ _ _ (by omega)]
    by_cases hj : j = i
    · subst hj
      rw [if_neg (by omega), if_pos rfl, if_pos (by simp)]
      simp
    · rw [if_neg hj]
      by_cases hc : i + 1 ≤ j ∧ j < i + 1 + as.length
      · rw [if_pos hc, if_pos (by simp; omega)]
        have : j - i = (j - (i + 1)) + 1 := by omega
        rw [this, List.getElem?_cons_succ]
      · rw [if_neg hc, if_neg (by simp; omega)]

theorem enter_env {args : List AV} {args' : List Value} (hr : VRs φ args args') {n : Nat} (hn : args.length ≤ n) (hroom : n ≤ PT.room) (kg : GlobOk φ T.glob) :
    EnvR φ { vals := argsE 0 args .nil, size := n, glob := T.glob } { tmps := args'.toArray ++ Array.replicate (n - args'.toArray.size) Go.undef, defers := [] } := by
  have hl := hr.length
  have out : ∀ t, args.length ≤ t → (argsE 0 args .nil).get t = none := fun t ht => by
    rw [argsE_get args 0 .nil (by omega) t, if_neg (by omega), PT.get_nil]
  refine ⟨by simp; omega, hroom, fun t x hx => ?_, fun t ht => out t (Nat.le_trans hn ht), kg⟩
  have hx' : (argsE 0 args .nil).get t = some x := hx
  by_cases ht : t < args.length
  · rw [argsE_get args 0 .nil (by omega) t, if_pos (by omega), Nat.sub_zero] at hx'
    obtain ⟨v, hv, hvr⟩ := hr.get t x hx'
    have : (args'.toArray ++ Array.replicate (n - args'.toArray.size) Go.undef).getD t Go.undef = v := by
      rw [Array.getD_eq_getD_getElem?, Array.getElem?_append_left (by simp; omega)]
      simp [hv]
    rw [this]; exact hvr
  · rw [out t (by omega)] at hx'; cases hx'

def resOne (tmps : Array Value) : ResultVar → Sem Value
  | .tmp t => pure (tmps.getD t Go.undef)
  | .cell c t => do loadVar t (← asAddr (tmps.getD c Go.undef))

theorem resultE_run (k : TabOk P T) (s : Sim B W φ h w) {env : Env} {a : Act} (ke : EnvR φ env a) : ∀ (l : List ResultVar) (vs : List AV), resultE T env h l = some vs →
    ∃ vs' : List Value, (l.mapM (resOne a.tmps)).run P w = .ok vs' w ∧ VRs φ vs vs'
  | [], vs, e => by cases e; exact ⟨[], by simp, VRs.nil⟩
  | .tmp t :: rest, vs, e => by
    unfold resultE at e
    obtain ⟨v, hv0, e⟩ := ob_some e
    obtain ⟨vs1, h1, e⟩ := ob_some e
    cases e
    obtain ⟨vs', hr, hv⟩ := resultE_run k s ke rest vs1 h1
    refine ⟨a.tmps.getD t Go.undef :: vs', ?_, VRs.cons (ke.val t v hv0) hv⟩
    have h0 : (resOne a.tmps (.tmp t)).run P w = .ok (a.tmps.getD t Go.undef) w := by unfold resOne; simp only [Sem.run_pure]
    simp only [List.mapM_cons, Sem.run_bind, h0, Result.andThen_ok, hr, Sem.run_pure]
  | .cell c t :: rest, vs, e => by
    unfold resultE at e
    split at e
    · rename_i l o hg
      have hc := ke.val c _ hg
      simp only [VR] at hc
      obtain ⟨p, hp, hce⟩ := hc
      obtain ⟨v, hv, e⟩ := ob_some e
      obtain ⟨vs1, h1, e⟩ := ob_some e
      cases e
      obtain ⟨v', hl, hvr⟩ := loadE_run (P := P) k s hv hp
      obtain ⟨vs', hr, hvs⟩ := resultE_run k s ke rest vs1 h1
      refine ⟨v' :: vs', ?_, VRs.cons hvr hvs⟩
      have h0 : (resOne a.tmps (.cell c t)).run P w = .ok v' w := by unfold resOne; simp [hce, asAddr, hl]
      simp only [List.mapM_cons, Sem.run_bind, h0, Result.andThen_ok, hr, Sem.run_pure]
    · cases e

theorem results_eq (fn : Func) (tmps : Array Value) : results fn tmps = (do
    let vs ← fn.results.mapM (resOne tmps)
    pure (if h : vs.size = 1 then vs[0] else .tuple vs)) := by
  unfold results
  congr 1

def tupleV (vs : List Value) : Value := if h : vs.toArray.size = 1 then vs.toArray[0] else .tuple vs.toArray

theorem tuple_R {vs : List AV} {vs' : List Value} (hv : VRs φ vs vs') : VR φ (tupleE vs) (tupleV vs') := by
  have hl := hv.length
  cases vs with
  | nil =>
    have : vs' = [] := by simpa using hl
    subst this
    simp only [tupleE, VR]; exact ⟨[], rfl, VRs.nil⟩
  | cons x xs =>
    cases vs' with
    | nil => simp at hl
    | cons y ys =>
      cases xs with
      | nil =>
        have : ys = [] := by simpa using hl
        subst this
        simp only [tupleE]; exact (VRs.cons_iff.1 hv).1
      | cons x2 xs =>
        cases ys with
        | nil => simp at hl
        | cons y2 ys => simp only [tupleE, VR]; exact ⟨y :: y2 :: ys, by unfold tupleV; rw [dif_neg (by simp)], hv⟩

theorem results_run (k : TabOk P T) (s : Sim B W φ h w) {env : Env} {a : Act} (ke : EnvR φ env a) {fn : Func} {vs : List AV} (e : resultE T env h fn.results.toList = some vs) :
    ∃ v, (results fn a.tmps).run P w = .ok v w ∧ VR φ (tupleE vs) v := by
  obtain ⟨vs', hr, hv⟩ := resultE_run (P := P) k s ke _ _ e
  refine ⟨tupleV vs', ?_, tuple_R hv⟩
  rw [results_eq, Array.mapM_eq_mapM_toList, map_eq_pure_bind]
  simp only [Sem.run_bind, hr, Result.andThen_ok, Sem.run_pure]
  rfl

/- ---------------------------------------------------------------- all at once, by how deep -/
def CodeOk (P : Program) (T : Tab) (rc : CodeF) : Prop := ∀ (c : Code) (env : Env) (h : AHeap) (x : Ex) (env' : Env) (h' : AHeap), rc c env h = some (x, env', h') →
  ∀ (B : Nat) (W : World) (φ : Phi) (a : Act) (w : World) (Q : Exit → Act → World → Prop), EnvR φ env a → Sim B W φ h w → GlobOk φ T.glob → a.defers = [] →
    (∀ φ' a' w', φ.le φ' → EnvR φ' env' a' → a'.defers = [] → Sim B W φ' h' w' → Q x.to a' w') → c.wp P Q a w

def LoopOk (P : Program) (T : Tab) (n : Nat) (rc : CodeF) : Prop := ∀ (c : Code) (env : Env) (h : AHeap) (x : Ex) (env' : Env) (h' : AHeap), rc (.loop c) env h = some (x, env', h') →
  ∀ (B : Nat) (W : World) (φ : Phi) (a : Act) (w : World) (Q : Exit → Act → World → Prop), EnvR φ env a → Sim B W φ h w → GlobOk φ T.glob → a.defers = [] →
    (∀ φ' a' w', φ.le φ' → EnvR φ' env' a' → a'.defers = [] → Sim B W φ' h' w' → Q x.to a' w') → Code.rounds P c Q n a w

theorem callOk (k : FullOk P T) {rc : CodeF} (hc : CodeOk P T rc) : CallOk P T (callE rc T) := by
  refine ⟨fun f args h v h' e => ?_⟩
  unfold callE at e
  cases hn : T.nat.get f with
  | some n =>
    rw [hn] at e
    have := k.nat f n hn
    exact ⟨this.enter, this.run args h v h' e⟩
  | none =>
    rw [hn] at e
    dsimp only at e
    obtain ⟨fn, hf, e⟩ := ob_some e
    obtain ⟨hfn, hen⟩ := k.fn f fn hf
    refine ⟨hen, fun B W φ w args' s hr kg => ?_⟩
    unfold enterE at e
    cases hb : fn.body with
    | none => rw [hb] at e; cases e
    | some c =>
      rw [hb] at e
      dsimp only at e
      obtain ⟨h1, e⟩ := ck_some e
      obtain ⟨h2, e⟩ := ck_some e
      replace e := ob_some e; obtain ⟨⟨x, env, h3⟩, hx, e⟩ := e
      have done : ∀ (hx : x.to = .normal ∨ x.to = .ret) (e : (ob (resultE T env h3 fn.results.toList) fun vs => some (tupleE vs, h3)) = some (v, h')), Calls P f args'.toArray w (Ends B W φ v h') := by
        intro hxn e
        obtain ⟨vs, hvs, e⟩ := ob_some e
        cases e
        refine calls_of_wp hfn hb ?_
        refine hc c _ h x env _ hx B W φ _ w _ (enter_env hr (Nat.le_of_ble_eq_true h1) (Nat.le_of_ble_eq_true h2) kg) s kg rfl fun φ' a' w' hle ke hd hs => ?_
        obtain ⟨v, hv, hvr⟩ := results_run (P := P) k.tab hs ke hvs
        rcases hxn with hxn | hxn <;> rw [hxn] <;> exact ⟨hd, v, hv, v, φ', rfl, hle, hvr, hs⟩
      cases x with
      | exit id => cases e
      | normal => exact done (.inl rfl) e
      | ret => exact done (.inr rfl) e

theorem Ex.to_ne_goto (x : Ex) (l : Nat) : x.to ≠ .goto l := by cases x <;> simp [Ex.to]

theorem stepOk (k : FullOk P T) {rc : CodeF} {n : Nat} (hc : CodeOk P T rc) (hl : LoopOk P T n rc) :
    CodeOk P T (stepE T rc (callE rc T)) ∧ LoopOk P T (n + 1) (stepE T rc (callE rc T)) := by
  have kc := callOk k hc
  have hloop : LoopOk P T (n + 1) (stepE T rc (callE rc T)) := by
    intro c env h x env' h' e B W φ a w Q ke s kg hd hQ
    unfold stepE at e
    replace e := ob_some e; obtain ⟨⟨x1, env1, h1⟩, hx1, e⟩ := e
    rw [rounds_succ]
    refine hc c env h x1 env1 h1 hx1 B W φ a w _ ke s kg hd fun φ' a' w' hle ke' hd' hs' => ?_
    cases x1 with
    | normal =>
      dsimp only at e
      exact hl c env1 h1 x env' h' e B W φ' a' w' Q ke' hs' (kg.mono hle) hd' fun φ2 a2 w2 hle2 => hQ φ2 a2 w2 (Phi.le_trans hle hle2)
    | exit id => cases e; exact hQ φ' a' w' hle ke' hd' hs'
    | ret => cases e; exact hQ φ' a' w' hle ke' hd' hs'
  refine ⟨?_, hloop⟩
  intro c env h x env' h' e B W φ a w Q ke s kg hd hQ
  cases c with
  | loop c => exact wp_loop_rounds (n + 1) (hloop c env h x env' h' e B W φ a w Q ke s kg hd hQ)
  | skip => cases e; exact wp_skip (hQ φ a w (Phi.le_refl φ) ke hd s)
  | label l => cases e; exact wp_label (hQ φ a w (Phi.le_refl φ) ke hd s)
  | ret => cases e; exact wp_ret (hQ φ a w (Phi.le_refl φ) ke hd s)
  | exit id => cases e; exact wp_exit (hQ φ a w (Phi.le_refl φ) ke hd s)
  | seq c1 c2 =>
    unfold stepE at e
    replace e := ob_some e; obtain ⟨⟨x1, env1, h1⟩, hx1, e⟩ := e
    refine wp_seq (hc c1 env h x1 env1 h1 hx1 B W φ a w _ ke s kg hd fun φ' a' w' hle ke' hd' hs' => ?_)
    cases x1 with
    | normal =>
      dsimp only at e
      exact hc c2 env1 h1 x env' h' e B W φ' a' w' Q ke' hs' (kg.mono hle) hd' fun φ2 a2 w2 hle2 => hQ φ2 a2 w2 (Phi.le_trans hle hle2)
    | exit id => cases e; exact hQ φ' a' w' hle ke' hd' hs'
    | ret => cases e; exact hQ φ' a' w' hle ke' hd' hs'
  | cond o c1 c2 =>
    unfold stepE at e
    obtain ⟨v, hv, e⟩ := ob_some e
    have hvr := ke.eval hv
    split at e
    · exact wp_cond_true (by simpa only [VR] using hvr) (hc c1 env h x env' h' e B W φ a w Q ke s kg hd hQ)
    · exact wp_cond_false (by simpa only [VR] using hvr) (hc c2 env h x env' h' e B W φ a w Q ke s kg hd hQ)
    · cases e
  | block id c =>
    unfold stepE at e
    replace e := ob_some e; obtain ⟨⟨x1, env1, h1⟩, hx1, e⟩ := e
    refine wp_block (hc c env h x1 env1 h1 hx1 B W φ a w _ ke s kg hd fun φ' a' w' hle ke' hd' hs' => ?_)
    cases x1 with
    | normal => cases e; exact hQ φ' a' w' hle ke' hd' hs'
    | ret => cases e; exact hQ φ' a' w' hle ke' hd' hs'
    | exit i =>
      dsimp only at e
      show (if i = id then Q .normal a' w' else Q (.exit i) a' w')
      cases hb : Nat.beq i id with
      | true =>
        rw [hb] at e
        cases e
        rw [if_pos (Nat.eq_of_beq_eq_true hb)]
        exact hQ φ' a' w' hle ke' hd' hs'
      | false =>
        rw [hb] at e
        cases e
        rw [if_neg fun hi => by rw [beq_yes hi] at hb; cases hb]
        exact hQ φ' a' w' hle ke' hd' hs'
  | scope c =>
    unfold stepE at e
    refine wp_scope_straight (hc c env h x env' h' e B W φ a w _ ke s kg hd fun φ' a' w' hle ke' hd' hs' => ?_)
    have := hQ φ' a' w' hle ke' hd' hs'
    cases x <;> exact this
  | region id ops draw =>
    cases draw with
    | false =>
      unfold stepE at e
      replace e := ob_some e; obtain ⟨⟨env1, h1⟩, hx, e⟩ := e
      cases e
      rw [opsR_eq] at hx
      exact wp_region_list (opsE_sound k.toAllOk kc _ _ _ _ _ hx φ a w ke s kg hd hQ)
    | true =>
      unfold stepE at e
      replace e := ob_some e; obtain ⟨⟨env1, h1⟩, hx, e⟩ := e
      cases e
      exact wp_region_any k.mixed (drawE_any k.toAllOk kc hx ke (s.drew _) kg hd hQ)
  | rangeFunc _ _ _ _ => cases e
  | goto _ => cases e
  | refuse _ => cases e

theorem runOk (k : FullOk P T) : ∀ n, CodeOk P T (run T n) ∧ LoopOk P T n (run T n)
  | 0 => by
    refine ⟨?_, ?_⟩
    · intro c env h x env' h' e
      cases e
    · intro c env h x env' h' e
      cases e
  | n + 1 => by
    have h := stepOk k (runOk k n).1 (runOk k n).2
    rw [← stepF_eq] at h
    exact h

/- what the evaluator says of a call is so -/
theorem call_sound (k : FullOk P T) (n : Nat) : CallOk P T (call T n) := callOk k (runOk k n).1

end Go.Ev

/-
  A small evaluator of the model's programs: tables, frames.
-/
namespace Go.Ev
open Go Go.RowKit

variable {P : Program} {T : Tab} {B : Nat} {W w : World} {φ : Phi} {h : AHeap}

def PT.All {α : Type} (p : Nat → α → Prop) : (Nat → Nat) → PT α → Prop
  | _, .nil => True
  | f, .node v l r => (match v with | none => True | some a => p (f 0) a) ∧ PT.All p (fun k => f (2 * k + 1)) l ∧ PT.All p (fun k => f (2 * k + 2)) r

theorem PT.all_get {α : Type} {p : Nat → α → Prop} : ∀ (t : PT α) (f : Nat → Nat), PT.All p f t → ∀ k a, t.get k = some a → p (f k) a
  | .nil, _, _, k, a, e => by rw [PT.get_nil] at e; cases e
  | .node v l r, f, ⟨h0, hl, hr⟩, k, a, e => by
    by_cases hk : k = 0
    · subst hk
      rw [PT.get_val] at e
      have e' : v = some a := e
      rw [e'] at h0; exact h0
    · by_cases hodd : k % 2 = 1
      · rw [PT.get_odd _ _ hk hodd] at e
        have := PT.all_get l _ hl (k / 2) a e
        have hk' : 2 * (k / 2) + 1 = k := by omega
        rw [hk'] at this; exact this
      · rw [PT.get_even _ _ hk hodd] at e
        have := PT.all_get r _ hr (k / 2 - 1) a e
        have hk' : 2 * (k / 2 - 1) + 2 = k := by omega
        rw [hk'] at this; exact this

theorem TiOk.of {t : TypeId} {ti : Ti} {i : TypeInfo} {z : Value} (h1 : P.underlying t = some ti.desc) (h2 : P.info? t = some i) (h3 : i.size = ti.size) (h4 : i.bytes = ti.bytes) (h5 : i.zero = some z)
    (h6 : constV z = some ti.zeroV) (h7 : ti.zeroV.cells = ti.zero) (h8 : TypeDesc.isAgg ti.desc = ti.agg) (h9 : ti.eqs = true → P.eqGuardType P.depth t = false ∧ P.stoodInHeld t = false) : TiOk P t ti :=
  ⟨h1, ⟨i, z, h2, h3, h4, h5, fun _ => constV_R h6⟩, h7, h8, h9⟩

/- a call that leaves all that was as it was -/
theorem Sim.framed (s : Sim B W φ h w) {w' : World} (b : Below w.heap.size w w') : Sim B W φ h w' := by
  refine ⟨⟨b.os.trans s.below.os, b.tape.trans s.below.tape, b.output.trans s.below.output, Nat.le_trans s.below.size b.size, fun k hk => (b.block k (Nat.lt_of_lt_of_le hk s.base)).trans (s.below.block k hk)⟩, s.dom, s.nxt, s.room, ?_, ?_, s.sep, s.own, Nat.le_trans s.base b.size⟩
  · intro l o p e hp
    exact (s.obj l o p e hp).heap fun _ => b.block _ (s.lt l p hp)
  · intro l p hp
    exact Nat.lt_of_lt_of_le (s.lt l p hp) b.size

/- from now on -/
theorem Sim.anew (s : Sim B W φ h w) (hro : ∀ l o, h.get l = some o → o.wr = false) : Sim w.heap.size w φ h w :=
  ⟨⟨rfl, rfl, rfl, Nat.le_refl _, fun _ _ => rfl⟩, s.dom, s.nxt, s.room, s.obj, s.lt, s.sep, fun l o _ e hw _ => (by rw [hro l o e] at hw; exact absurd hw (by simp)), Nat.le_refl _⟩

end Go.Ev

/-
  A small evaluator of the model's programs: two entries of the library.
-/
namespace Go.Ev
open Go Go.RowKit

variable {P : Program}

theorem VRs.two {φ : Phi} {a b : AV} {vs : List Value} (h : VRs φ [a, b] vs) : ∃ x y, vs = [x, y] ∧ VR φ a x ∧ VR φ b y := by
  simp only [VRs] at h
  obtain ⟨x, r, rfl, hx, y, r', rfl, hy, rfl⟩ := h
  exact ⟨x, y, rfl, hx, hy⟩

def idxNat : Nf := fun args h =>
  match args with
  | [.str s, .int .u8 (.ofNat c)] => some (.int .i64 (Lib.indexByte s (UInt8.ofNat c)), h)
  | _ => none
def cntNat : Nf := fun args h =>
  match args with
  | [.str s, .int .u8 (.ofNat c)] => some (.int .i64 (Int.ofNat (Lib.countByte s (UInt8.ofNat c))), h)
  | _ => none

theorem idxNat_ok {f : FuncId} {fn : Func} (hf : P.funcs[f]? = some fn) (h1 : (fn.name == "runtime.NumGoroutine") = false) (h2 : fn.body.isNone = true) (h3 : Extern.findNext fn = none)
    (h4 : Extern.find fn = some Extern.BytealgIndexByte.indexByte) : ExtOk P f idxNat := by
  refine ⟨fun B W φ h w args args' v h' s hr e => ?_⟩
  unfold idxNat at e
  split at e
  · cases e
    rename_i l c
    obtain ⟨x, y, rfl, hx, hy⟩ := hr.two
    simp only [VR] at hx hy
    subst hx; subst hy
    refine ⟨.int .i64 (Lib.indexByte l (UInt8.ofNat c)), w, φ, ?_, Phi.le_refl φ, by simp [VR], s⟩
    rw [run_callFunc_extern hf h1 h2 h3 h4]
    have := Lib.run_indexByteString (P := P) ⟨l.toArray⟩ (Int.ofNat c) w
    show ((Extern.BytealgIndexByte.indexByte #[.string ⟨l.toArray⟩, .int .u8 (Int.ofNat c)]).run P w).andThen _ = _
    rw [this]
    rfl
  · cases e

theorem cntNat_ok {f : FuncId} {fn : Func} (hf : P.funcs[f]? = some fn) (h1 : (fn.name == "runtime.NumGoroutine") = false) (h2 : fn.body.isNone = true) (h3 : Extern.findNext fn = none)
    (h4 : Extern.find fn = some Extern.BytealgCount.count) : ExtOk P f cntNat := by
  refine ⟨fun B W φ h w args args' v h' s hr e => ?_⟩
  unfold cntNat at e
  split at e
  · cases e
    rename_i l c
    obtain ⟨x, y, rfl, hx, hy⟩ := hr.two
    simp only [VR] at hx hy
    subst hx; subst hy
    refine ⟨.int .i64 (Int.ofNat (Lib.countByte l (UInt8.ofNat c))), w, φ, ?_, Phi.le_refl φ, by simp [VR], s⟩
    rw [run_callFunc_extern hf h1 h2 h3 h4]
    have := Lib.run_countString (P := P) ⟨l.toArray⟩ (Int.ofNat c) w
    show ((Extern.BytealgCount.count #[.string ⟨l.toArray⟩, .int .u8 (Int.ofNat c)]).run P w).andThen _ = _
    rw [this]
    rfl
  · cases e

end Go.Ev

/-
  A small evaluator of the model's programs: functions of our own in the place of the program's.
-/
namespace Go.Ev
open Go Go.RowKit

variable {P : Program} {T T0 : Tab} {B : Nat} {W w : World} {φ : Phi} {h : AHeap}

/- it answers as the evaluator does -/
theorem natOk_of_call (k : FullOk P T0) (hg : T.glob = T0.glob) (N : Nat) {f : FuncId} {n : Nf} (H : ∀ args h v h', n args h = some (v, h') → call T0 N f args h = some (v, h'))
    (hen : ∀ (as : Array Value) (w : World), (callFunc f as).run P w = .ok (.enter f as) w) : NatOk P T f n :=
  ⟨hen, fun args h v h' e B W φ w args' s hr kg => ((call_sound k N).run f args h v h' (H args h v h' e)).2 B W φ w args' s hr (hg ▸ kg)⟩

/- the blocks that a value names -/
mutual
def allN (p : Nat → Bool) : AV → Bool
  | .bool _ | .int _ _ | .str _ | .nilptr | .nilslice | .nilmap | .nilFunc | .nilIface => true
  | .ptr l _ => p l
  | .slice l _ _ _ => p l
  | .map l => p l
  | .func _ f c => allNs p f && allNs p c
  | .agg cs => allNs p cs
  | .tuple cs => allNs p cs
  | .iface _ v => allN p v
def allNs (p : Nat → Bool) : List AV → Bool
  | [] => true
  | a :: as => allN p a && allNs p as
end

mutual
theorem VR.names {φ ψ : Phi} {p : Nat → Bool} (hp : ∀ l q, p l = true → φ l = some q → ψ l = some q) : ∀ (a : AV) (v : Value), allN p a = true → VR φ a v → VR ψ a v
  | .bool _, _, _, h => by simpa [VR] using h
  | .int _ _, _, _, h => by simpa [VR] using h
  | .str _, _, _, h => by simpa [VR] using h
  | .nilptr, _, _, h => by simpa [VR] using h
  | .nilslice, _, _, h => by simpa [VR] using h
  | .nilmap, _, _, h => by simpa [VR] using h
  | .nilFunc, _, _, h => by simpa [VR] using h
  | .nilIface, _, _, h => by simpa [VR] using h
  | .ptr l o, _, ha, h => by
    simp only [VR] at h ⊢; obtain ⟨q, hq, e⟩ := h; exact ⟨q, hp l q (by simpa [allN] using ha) hq, e⟩
  | .slice l o n c, _, ha, h => by
    simp only [VR] at h ⊢; obtain ⟨q, a, k, hq, e⟩ := h; exact ⟨q, a, k, hp l q (by simpa [allN] using ha) hq, e⟩
  | .map l, _, ha, h => by
    simp only [VR] at h ⊢; obtain ⟨q, hq, e⟩ := h; exact ⟨q, hp l q (by simpa [allN] using ha) hq, e⟩
  | .func _ f c, _, ha, h => by
    simp only [allN, Bool.and_eq_true] at ha
    simp only [VR] at h ⊢; obtain ⟨f', c', e, h1, h2⟩ := h; exact ⟨f', c', e, VRs.names hp f f' ha.1 h1, VRs.names hp c c' ha.2 h2⟩
  | .agg cs, _, ha, h => by
    simp only [VR] at h ⊢; obtain ⟨vs, e, h⟩ := h; exact ⟨vs, e, VRs.names hp cs vs (by simpa [allN] using ha) h⟩
  | .tuple cs, _, ha, h => by
    simp only [VR] at h ⊢; obtain ⟨vs, e, h⟩ := h; exact ⟨vs, e, VRs.names hp cs vs (by simpa [allN] using ha) h⟩
  | .iface t x, _, ha, h => by
    simp only [VR] at h ⊢; obtain ⟨y, e, h⟩ := h; exact ⟨y, e, VR.names hp x y (by simpa [allN] using ha) h⟩
theorem VRs.names {φ ψ : Phi} {p : Nat → Bool} (hp : ∀ l q, p l = true → φ l = some q → ψ l = some q) : ∀ (as : List AV) (vs : List Value), allNs p as = true → VRs φ as vs → VRs ψ as vs
  | [], _, _, h => by simpa [VRs] using h
  | a :: as, _, ha, h => by
    simp only [allNs, Bool.and_eq_true] at ha
    simp only [VRs] at h ⊢; obtain ⟨v, r, e, h1, h2⟩ := h; exact ⟨v, r, e, VR.names hp a v ha.1 h1, VRs.names hp as r ha.2 h2⟩
end

def noNames : Nat → Bool := fun _ => false
theorem VR.plain {φ ψ : Phi} {a : AV} {v : Value} (hp : allN noNames a = true) (h : VR φ a v) : VR ψ a v := VR.names (p := noNames) (fun _ _ e _ => by cases e) a v hp h

/- rows whose cells name nothing -/
def plainObj : AObj → Bool
  | .row cs _ _ wr => !wr && allNs noNames cs
  | _ => false

/- less is known, and nothing may be written -/
theorem Sim.sub (s : Sim B W φ h w) (hs : AHeap) (H : ∀ l o, hs.get l = some o → (o = .dead ∧ ∃ p, φ l = some p) ∨ (plainObj o = true ∧ h.get l = some o)) (hN : ∀ l, hs.next ≤ l → hs.get l = none) (hr : hs.next ≤ PT.room) :
    Sim w.heap.size w (fun l => if (hs.get l).isSome then φ l else none) hs w := by
  have nowr : ∀ l o, hs.get l = some o → o.wr = false := fun l o e => by
    rcases H l o e with ⟨rfl, _⟩ | ⟨h1, _⟩
    · rfl
    · cases o <;> simp_all [plainObj, AObj.wr]
  have ofphi : ∀ l p, (if (hs.get l).isSome then φ l else none) = some p → φ l = some p := fun l p e => by
    by_cases hc : (hs.get l).isSome = true
    · rw [if_pos hc] at e; exact e
    · rw [if_neg hc] at e; cases e
  refine ⟨⟨rfl, rfl, rfl, Nat.le_refl _, fun _ _ => rfl⟩, fun l => ?_, fun l hl => by rw [hN l hl]; rfl, hr, fun l o p e hp => ?_, fun l p hp => s.lt l p (ofphi l p hp), fun l l' o o' p p' _ e hw => ?_, fun l o p e hw => ?_, Nat.le_refl _⟩
  · cases hg : hs.get l with
    | none => simp
    | some o =>
      have : ∃ p, φ l = some p := by
        rcases H l o hg with ⟨_, hp⟩ | ⟨_, he⟩
        · exact hp
        · exact s.place he
      obtain ⟨p, hp⟩ := this
      simp [hp]
  · rcases H l o e with ⟨rfl, _⟩ | ⟨hpl, he⟩
    · trivial
    · have h1 := s.obj l o p he (ofphi l p hp)
      cases o with
      | row cs opn fz wr =>
        simp only [plainObj, Bool.and_eq_true] at hpl
        obtain ⟨cells, el, lo, hi, h1, h2, h4, h5, h6⟩ := h1
        refine ⟨cells, el, lo, hi, h1, h2, h4, fun i a ha => ?_, h6⟩
        obtain ⟨v, hv, hr⟩ := h5 i a ha
        refine ⟨v, hv, VR.plain ?_ hr⟩
        have : ∀ (l : List AV) (i : Nat), allNs noNames l = true → l[i]? = some a → allN noNames a = true := by
          intro l
          induction l with
          | nil => intro i _ e; simp at e
          | cons b l ih =>
            intro i hl e
            simp only [allNs, Bool.and_eq_true] at hl
            cases i with
            | zero => simp at e; subst e; exact hl.1
            | succ i => exact ih i hl.2 (by simpa using e)
        exact this cs i hpl.2 ha
      | amap _ _ => simp [plainObj] at hpl
      | siter _ _ => simp [plainObj] at hpl
      | dead => trivial
  · rw [nowr l o e] at hw; cases hw
  · rw [nowr l o e] at hw; cases hw

/- what a run from a smaller memory says, where nothing but plain values goes in and out -/
theorem calls_of_sub (k : FullOk P T0) (s : Sim B W φ h w) (hs : AHeap) (H : ∀ l o, hs.get l = some o → (o = .dead ∧ ∃ p, φ l = some p) ∨ (plainObj o = true ∧ h.get l = some o))
    (hN : ∀ l, hs.next ≤ l → hs.get l = none) (hr : hs.next ≤ PT.room) (hgl : ∀ g, g < T0.glob → (hs.get g).isSome = true) (kg : GlobOk φ T0.glob)
    {N : Nat} {f : FuncId} {args : List AV} {args' : List Value} (ha : allNs noNames args = true) (hra : VRs φ args args') {v : AV} {h1 : AHeap} (e : call T0 N f args hs = some (v, h1)) (hv : allN noNames v = true) :
    Calls P f args'.toArray w (Ends B W φ v h) := by
  have s0 := s.sub hs H hN hr
  have kg0 : GlobOk (fun l => if (hs.get l).isSome then φ l else none) T0.glob := fun g hg => by
    obtain ⟨p, h1, h2⟩ := kg g hg
    exact ⟨p, (if_pos (hgl g hg)).trans h1, h2⟩
  have hra0 := VRs.names (p := noNames) (ψ := fun l => if (hs.get l).isSome then φ l else none) (fun _ _ e _ => by cases e) args args' ha hra
  refine (((call_sound k N).run f args hs v h1 e).2 _ _ _ w args' s0 hra0 kg0).mono ?_
  rintro en w' ⟨v', φ', rfl, hle, hvr, hsim⟩
  exact ⟨v', φ, rfl, Phi.le_refl φ, VR.plain hv hvr, s.framed hsim.below⟩

end Go.Ev

/-
  A small evaluator of the model's programs: states in a form of their own: names that are gone are forgotten, the others are numbered anew.
-/
namespace Go.Ev
open Go Go.RowKit
noncomputable section

variable {P : Program} {T T0 : Tab} {B : Nat} {W w : World} {φ : Phi} {h : AHeap}

/- a table out of a function -/
def PT.build {α : Type} (d : Nat) : (Nat → Option α) → PT α :=
  Nat.rec (motive := fun _ => (Nat → Option α) → PT α) (fun _ => .nil) (fun _ rc f => .node (f 0) (rc fun k => f (Nat.add (Nat.mul 2 k) 1)) (rc fun k => f (Nat.add (Nat.mul 2 k) 2))) d

theorem PT.get_build {α : Type} : ∀ (d : Nat) (f : Nat → Option α) (t : Nat), (PT.build d f).get t = if t + 1 < 2 ^ d then f t else none
  | 0, f, t => by
    show (PT.nil : PT α).get t = _
    rw [PT.get_nil, if_neg (by simp)]
  | d + 1, f, t => by
    have hp : 2 ^ (d + 1) = 2 ^ d * 2 := Nat.pow_succ ..
    have hpos : 0 < 2 ^ d := Nat.two_pow_pos d
    show (PT.node (f 0) (PT.build d fun k => f (2 * k + 1)) (PT.build d fun k => f (2 * k + 2))).get t = _
    by_cases h0 : t = 0
    · subst h0; rw [PT.get_val, if_pos (by omega)]; rfl
    · by_cases h1 : t % 2 = 1
      · rw [PT.get_odd _ _ h0 h1]
        show (PT.build d fun k => f (2 * k + 1)).get (t / 2) = _
        rw [PT.get_build d]
        have e : 2 * (t / 2) + 1 = t := by omega
        by_cases hc : t + 1 < 2 ^ (d + 1)
        · rw [if_pos hc, if_pos (by omega), e]
        · rw [if_neg hc, if_neg (by omega)]
      · rw [PT.get_even _ _ h0 h1]
        show (PT.build d fun k => f (2 * k + 2)).get (t / 2 - 1) = _
        rw [PT.get_build d]
        have e : 2 * (t / 2 - 1) + 2 = t := by omega
        by_cases hc : t + 1 < 2 ^ (d + 1)
        · rw [if_pos hc, if_pos (by omega), e]
        · rw [if_neg hc, if_neg (by omega)]

/- names turned -/
mutual
def ren (r : Nat → Nat) : AV → AV
  | .ptr l o => .ptr (r l) o
  | .slice l o n c => .slice (r l) o n c
  | .map l => .map (r l)
  | .func fn f c => .func fn (rens r f) (rens r c)
  | .agg cs => .agg (rens r cs)
  | .tuple cs => .tuple (rens r cs)
  | .iface t v => .iface t (ren r v)
  | .bool b => .bool b
  | .int k n => .int k n
  | .str s => .str s
  | .nilptr => .nilptr
  | .nilslice => .nilslice
  | .nilmap => .nilmap
  | .nilFunc => .nilFunc
  | .nilIface => .nilIface
def rens (r : Nat → Nat) : List AV → List AV
  | [] => []
  | a :: as => ren r a :: rens r as
end

mutual
theorem VR.ren {φ : Phi} (r : Nat → Nat) : ∀ (a : AV) (v : Value), VR φ (ren r a) v → VR (fun l => φ (r l)) a v
  | .bool _, _, h => by simpa [VR, Ev.ren] using h
  | .int _ _, _, h => by simpa [VR, Ev.ren] using h
  | .str _, _, h => by simpa [VR, Ev.ren] using h
  | .nilptr, _, h => by simpa [VR, Ev.ren] using h
  | .nilslice, _, h => by simpa [VR, Ev.ren] using h
  | .nilmap, _, h => by simpa [VR, Ev.ren] using h
  | .nilFunc, _, h => by simpa [VR, Ev.ren] using h
  | .nilIface, _, h => by simpa [VR, Ev.ren] using h
  | .ptr l o, _, h => by simpa [VR, Ev.ren] using h
  | .slice l o n c, _, h => by simpa [VR, Ev.ren] using h
  | .map l, _, h => by simpa [VR, Ev.ren] using h
  | .func fn f c, _, h => by
    simp only [VR, Ev.ren] at h ⊢; obtain ⟨f', c', e, h1, h2⟩ := h; exact ⟨f', c', e, VRs.ren r f f' h1, VRs.ren r c c' h2⟩
  | .agg cs, _, h => by simp only [VR, Ev.ren] at h ⊢; obtain ⟨vs, e, h⟩ := h; exact ⟨vs, e, VRs.ren r cs vs h⟩
  | .tuple cs, _, h => by simp only [VR, Ev.ren] at h ⊢; obtain ⟨vs, e, h⟩ := h; exact ⟨vs, e, VRs.ren r cs vs h⟩
  | .iface t x, _, h => by simp only [VR, Ev.ren] at h ⊢; obtain ⟨y, e, h⟩ := h; exact ⟨y, e, VR.ren r x y h⟩
theorem VRs.ren {φ : Phi} (r : Nat → Nat) : ∀ (as : List AV) (vs : List Value), VRs φ (rens r as) vs → VRs (fun l => φ (r l)) as vs
  | [], _, h => by simpa [VRs, rens] using h
  | a :: as, _, h => by
    simp only [VRs, rens] at h ⊢; obtain ⟨v, t, e, h1, h2⟩ := h; exact ⟨v, t, e, VR.ren r a v h1, VRs.ren r as t h2⟩
end

theorem rens_get (r : Nat → Nat) : ∀ (l : List AV) (i : Nat), (rens r l)[i]? = l[i]?.map (ren r)
  | [], i => by simp [rens]
  | a :: as, 0 => by simp [rens]
  | a :: as, i + 1 => by simp [rens, rens_get r as i]
theorem rens_length (r : Nat → Nat) : ∀ (l : List AV), (rens r l).length = l.length
  | [] => rfl
  | a :: as => by simp [rens, rens_length r as]

/- memory of so many globals, all forgotten, and objects behind them -/
def heapL (g dep : Nat) (objs : List AObj) : AHeap :=
  { objs := PT.build dep fun t => Bool.rec (motive := fun _ => Option AObj) (objs[Nat.sub t g]?) (some .dead) (Nat.blt t g), next := Nat.add g objs.length }

def oldName (g : Nat) (olds : List Nat) (l : Nat) : Nat := Bool.rec (motive := fun _ => Nat) (olds.getD (Nat.sub l g) 0) l (Nat.blt l g)

/- an object of the old memory, as one of the new -/
def likeObj (r : Nat → Nat) (p : Nat → Bool) : AObj → AObj → Prop
  | .row cs0 _ fz0 wr0, .row cs _ fz wr => ((cs0 = cs ∧ allNs noNames cs = true) ∨ (cs0 = rens r cs ∧ allNs p cs = true)) ∧ fz0 ≤ fz ∧ (wr = true → wr0 = true)
  | _, .dead => True
  | _, _ => False

def likeObjs (h : AHeap) (r : Nat → Nat) (p : Nat → Bool) : List AObj → List Nat → Prop
  | [], [] => True
  | o :: os, l :: ls => (∃ o0, h.get l = some o0 ∧ likeObj r p o0 o) ∧ likeObjs h r p os ls
  | _, _ => False

theorem likeObjs_get {h : AHeap} {r : Nat → Nat} {p : Nat → Bool} : ∀ {os : List AObj} {ls : List Nat}, likeObjs h r p os ls → ∀ (i : Nat) (o : AObj), os[i]? = some o → ∃ l o0, ls[i]? = some l ∧ h.get l = some o0 ∧ likeObj r p o0 o
  | [], [], _, i, o, e => by simp at e
  | [], _ :: _, k, _, _, _ => by cases k
  | _ :: _, [], k, _, _, _ => by cases k
  | a :: os, l :: ls, ⟨h1, h2⟩, i, o, e => by
    cases i with
    | zero => simp at e; subst e; obtain ⟨o0, h3, h4⟩ := h1; exact ⟨l, o0, by simp, h3, h4⟩
    | succ i => obtain ⟨l', o0, h3, h4⟩ := likeObjs_get h2 i o (by simpa using e); exact ⟨l', o0, by simpa using h3, h4⟩

theorem heapL_get {g dep : Nat} {objs : List AObj} (hd : g + objs.length + 1 ≤ 2 ^ dep) (l : Nat) : (heapL g dep objs).get l = if l < g then some .dead else objs[l - g]? := by
  show (PT.build dep _).get l = _
  rw [PT.get_build]
  have hb : (Bool.rec (motive := fun _ => Option AObj) (objs[Nat.sub l g]?) (some .dead) (Nat.blt l g)) = if l < g then some .dead else objs[l - g]? := by
    cases hx : Nat.blt l g with
    | true => rw [if_pos (blt_lt hx)]
    | false =>
      rw [if_neg fun hlt => by
        have : Nat.blt l g = true := Nat.ble_eq_true_of_le hlt
        rw [this] at hx; cases hx]
      rfl
  rw [hb]
  by_cases hc : l + 1 < 2 ^ dep
  · rw [if_pos hc]
  · rw [if_neg hc, if_neg (by omega), List.getElem?_eq_none (by omega)]

/- the names of what may be written differ from those of all else -/
def apartE : List AObj → List Nat → Bool
  | o :: os, l :: ls => (List.zip os ls).all (fun (o', l') => (!(o.wr && o'.live) && !(o'.wr && o.live)) || !Nat.beq l l') && apartE os ls
  | _, _ => true

theorem apartE_spec : ∀ {os : List AObj} {ls : List Nat}, apartE os ls = true → ∀ (i j : Nat) (o o' : AObj) (l l' : Nat), i ≠ j → os[i]? = some o → os[j]? = some o' → ls[i]? = some l → ls[j]? = some l' → o.wr = true → o'.live = true → l ≠ l'
  | [], _, _, i, _, _, _, _, _, _, e, _, _, _, _, _ => by simp at e
  | _ :: _, [], _, i, _, _, _, _, _, _, _, _, e, _, _, _ => by simp at e
  | a :: os, b :: ls, k, i, j, o, o', l, l', hij, e1, e2, e3, e4, hw, hl => by
    unfold apartE at k
    simp only [Bool.and_eq_true, List.all_eq_true] at k
    obtain ⟨k1, k2⟩ := k
    have hz : ∀ (n : Nat) (x : AObj) (y : Nat), os[n]? = some x → ls[n]? = some y → (x, y) ∈ List.zip os ls := fun n x y hx hy =>
      List.mem_of_getElem? (i := n) (by rw [List.getElem?_zip_eq_some]; exact ⟨hx, hy⟩)
    have key : ∀ {x y : Nat}, (!Nat.beq x y) = true → x ≠ y := fun h heq => by subst heq; simp at h
    cases i with
    | zero =>
      cases j with
      | zero => exact absurd rfl hij
      | succ j =>
        simp at e1 e3
        subst e1; subst e3
        have := k1 _ (hz j o' l' (by simpa using e2) (by simpa using e4))
        simp only [hw, hl, Bool.and_self, Bool.not_true, Bool.false_and, Bool.false_or] at this
        exact key this
    | succ i =>
      cases j with
      | zero =>
        simp at e2 e4
        subst e2; subst e4
        have := k1 _ (hz i o l (by simpa using e1) (by simpa using e3))
        simp only [hw, hl, Bool.and_self, Bool.not_true, Bool.and_false, Bool.false_or] at this
        exact (key this).symm
      | succ j => exact apartE_spec k2 i j o o' l l' (by omega) (by simpa using e1) (by simpa using e2) (by simpa using e3) (by simpa using e4) hw hl

def phiL (φ : Phi) (g : Nat) (olds : List Nat) (next : Nat) : Phi := fun l => if l < next then φ (oldName g olds l) else none

theorem oldName_lt {g : Nat} {olds : List Nat} {l : Nat} (h : l < g) : oldName g olds l = l := by
  unfold oldName
  have : Nat.blt l g = true := Nat.ble_eq_true_of_le h
  rw [this]
theorem oldName_ge {g : Nat} {olds : List Nat} {l : Nat} (h : ¬ l < g) : oldName g olds l = olds.getD (l - g) 0 := by
  unfold oldName
  cases hb : Nat.blt l g with
  | true => exact absurd (blt_lt hb) h
  | false => rfl

/- the state, numbered anew -/
theorem Sim.canon (s : Sim B W φ h w) {g dep : Nat} (kg : GlobOk φ g) {objs : List AObj} {olds : List Nat} (hd : g + objs.length + 1 ≤ 2 ^ dep) (hroom : g + objs.length ≤ PT.room)
    (hl : likeObjs h (oldName g olds) (fun l => Nat.blt l (g + objs.length)) objs olds) (hap : apartE objs olds = true) :
    Sim B W (phiL φ g olds (g + objs.length)) (heapL g dep objs) w := by
  have get := heapL_get (g := g) (dep := dep) (objs := objs) hd
  have split : ∀ l o, (heapL g dep objs).get l = some o → (l < g ∧ o = .dead) ∨ (¬ l < g ∧ objs[l - g]? = some o ∧ l < g + objs.length) := fun l o e => by
    rw [get l] at e
    by_cases hlg : l < g
    · rw [if_pos hlg] at e; cases e; exact .inl ⟨hlg, rfl⟩
    · rw [if_neg hlg] at e
      have := (List.getElem?_eq_some_iff.1 e).1
      exact .inr ⟨hlg, e, by omega⟩
  have old : ∀ l o, ¬ l < g → objs[l - g]? = some o → ∃ o0, olds[l - g]? = some (oldName g olds l) ∧ h.get (oldName g olds l) = some o0 ∧ likeObj (oldName g olds) (fun l => Nat.blt l (g + objs.length)) o0 o := fun l o hlg e => by
    obtain ⟨l0, o0, h1, h2, h3⟩ := likeObjs_get hl (l - g) o e
    have : oldName g olds l = l0 := by rw [oldName_ge hlg]; simp [h1]
    rw [this]; exact ⟨o0, h1, h2, h3⟩
  have livewr : ∀ {o0 o : AObj}, likeObj (oldName g olds) (fun l => Nat.blt l (g + objs.length)) o0 o → (o.live = true → o0.live = true) ∧ (o.wr = true → o0.wr = true) := by
    intro o0 o hx
    cases o with
    | dead => exact ⟨fun h => (by cases h), fun h => (by cases h)⟩
    | amap _ _ => cases o0 <;> exact False.elim hx
    | siter _ _ => cases o0 <;> exact False.elim hx
    | row cs opn fz wr =>
      cases o0 with
      | row _ _ _ _ => exact ⟨fun _ => rfl, fun hw => hx.2.2 hw⟩
      | amap _ _ => exact False.elim hx
      | siter _ _ => exact False.elim hx
      | dead => exact False.elim hx
  have place : ∀ l p, phiL φ g olds (g + objs.length) l = some p → φ (oldName g olds l) = some p ∧ l < g + objs.length := fun l p e => by
    unfold phiL at e
    by_cases hc : l < g + objs.length
    · rw [if_pos hc] at e; exact ⟨e, hc⟩
    · rw [if_neg hc] at e; cases e
  refine ⟨s.below, fun l => ?_, fun l hge => ?_, hroom, fun l o p e hp => ?_, fun l p hp => s.lt _ p (place l p hp).1, fun l l' o o' p p' hne e hw e' hlv hp hp' => ?_, fun l o p e hw hp => ?_, s.base⟩
  · rw [get l]
    unfold phiL
    by_cases hlg : l < g
    · rw [if_pos hlg, if_pos (by omega), oldName_lt hlg]
      obtain ⟨p, hp, _⟩ := kg l hlg
      simp [hp]
    · rw [if_neg hlg]
      cases ho : objs[l - g]? with
      | none =>
        have := List.getElem?_eq_none_iff.1 ho
        rw [if_neg (by omega)]; simp
      | some o =>
        obtain ⟨o0, _, h2, _⟩ := old l o hlg ho
        have hlt := (List.getElem?_eq_some_iff.1 ho).1
        rw [if_pos (by omega)]
        obtain ⟨p, hp⟩ := s.place h2
        simp [hp]
  · unfold phiL
    have : g + objs.length ≤ l := hge
    rw [if_neg (by omega)]
  · obtain ⟨hp0, _⟩ := place l p hp
    rcases split l o e with ⟨_, rfl⟩ | ⟨hlg, ho, _⟩
    · trivial
    · obtain ⟨o0, _, h2, h3⟩ := old l o hlg ho
      have h4 := s.obj _ o0 p h2 hp0
      cases o with
      | dead => trivial
      | amap _ _ => cases o0 <;> exact False.elim h3
      | siter _ _ => cases o0 <;> exact False.elim h3
      | row cs opn fz wr =>
        cases o0 with
        | amap _ _ => exact False.elim h3
        | siter _ _ => exact False.elim h3
        | dead => exact False.elim h3
        | row cs0 opn0 fz0 wr0 =>
          obtain ⟨hcs, hfz, _⟩ := h3
          obtain ⟨cells, el, lo, hi, k1, k2, k4, k5, k6⟩ := h4
          have hlen : cs.length = cs0.length := by
            rcases hcs with ⟨rfl, _⟩ | ⟨rfl, _⟩
            · rfl
            · exact (rens_length _ _).symm
          refine ⟨cells, el, lo, hi, k1, k2, by rw [hlen]; exact k4, fun i a ha => ?_, fun i hi1 hi2 => k6 i (by omega) hi2⟩
          have allGet : ∀ {q : Nat → Bool} (l : List AV) (i : Nat), allNs q l = true → l[i]? = some a → allN q a = true := by
            intro q l
            induction l with
            | nil => intro i _ e; simp at e
            | cons b l ih =>
              intro i hl e
              simp only [allNs, Bool.and_eq_true] at hl
              cases i with
              | zero => simp at e; subst e; exact hl.1
              | succ i => exact ih i hl.2 (by simpa using e)
          rcases hcs with ⟨rfl, hn⟩ | ⟨rfl, hn⟩
          · obtain ⟨v, hv, hr⟩ := k5 i a ha
            exact ⟨v, hv, VR.plain (allGet _ i hn ha) hr⟩
          · obtain ⟨v, hv, hr⟩ := k5 i (ren (oldName g olds) a) (by rw [rens_get, ha]; rfl)
            refine ⟨v, hv, ?_⟩
            have h5 := VR.ren (oldName g olds) a v hr
            refine VR.names (p := fun l => Nat.blt l (g + objs.length)) (fun l q hq hql => ?_) a v (allGet _ i hn ha) h5
            unfold phiL
            rw [if_pos (blt_lt hq)]; exact hql
  · obtain ⟨hp0, _⟩ := place l p hp
    obtain ⟨hp0', _⟩ := place l' p' hp'
    rcases split l o e with ⟨_, rfl⟩ | ⟨hlg, ho, _⟩
    · cases hw
    rcases split l' o' e' with ⟨_, rfl⟩ | ⟨hlg', ho', _⟩
    · cases hlv
    obtain ⟨o0, k1, k2, k3⟩ := old l o hlg ho
    obtain ⟨o0', k1', k2', k3'⟩ := old l' o' hlg' ho'
    have := apartE_spec hap (l - g) (l' - g) o o' _ _ (by omega) ho ho' k1 k1' hw hlv
    exact s.sep _ _ o0 o0' p p' this k2 ((livewr k3).2 hw) k2' ((livewr k3').1 hlv) hp0 hp0'
  · obtain ⟨hp0, _⟩ := place l p hp
    rcases split l o e with ⟨_, rfl⟩ | ⟨hlg, ho, _⟩
    · cases hw
    obtain ⟨o0, _, k2, k3⟩ := old l o hlg ho
    exact s.own _ o0 p k2 ((livewr k3).2 hw) hp0

theorem GlobOk.canon {g : Nat} {olds : List Nat} {n : Nat} (k : GlobOk φ g) (hn : g ≤ n) : GlobOk (phiL φ g olds n) g := fun x hx => by
  obtain ⟨p, h1, h2⟩ := k x hx
  refine ⟨p, ?_, h2⟩
  unfold phiL
  rw [if_pos (by omega), oldName_lt hx]; exact h1

/- values, numbered anew -/
theorem VR.canon {g : Nat} {olds : List Nat} {n : Nat} {a a0 : AV} {v : Value} (hv : VR φ a0 v) (ha : (a0 = a ∧ allN noNames a = true) ∨ (a0 = Ev.ren (oldName g olds) a ∧ allN (fun l => Nat.blt l n) a = true)) : VR (phiL φ g olds n) a v := by
  rcases ha with ⟨rfl, ha⟩ | ⟨rfl, ha⟩
  · exact VR.plain ha hv
  · refine VR.names (p := fun l => Nat.blt l n) (fun l q hq hql => ?_) a v ha (VR.ren (oldName g olds) a v hv)
    unfold phiL
    rw [if_pos (blt_lt hq)]; exact hql

end
end Go.Ev

/-
  A small evaluator of the model's programs: frames in a form of their own, and code in pieces.
-/
namespace Go.Ev
open Go Go.RowKit
noncomputable section

variable {P : Program} {T T0 : Tab} {B : Nat} {W w : World} {φ : Phi} {h : AHeap}

/- what a frame holds: some slots known; of the others nothing -/
def liveGet (t : Nat) (live : List (Nat × AV)) : Option AV :=
  List.rec (motive := fun _ => Option AV) none (fun p _ r => Bool.rec (motive := fun _ => Option AV) r (some p.2) (Nat.beq p.1 t)) live

def envL (g dep n : Nat) (live : List (Nat × AV)) : Env :=
  { vals := PT.build dep fun t => Bool.rec (motive := fun _ => Option AV) none (liveGet t live) (Nat.blt t n), size := n, glob := g }

theorem liveGet_mem (t : Nat) : ∀ (live : List (Nat × AV)) (x : AV), liveGet t live = some x → (t, x) ∈ live
  | [], x, e => by cases e
  | (t', x') :: r, x, e => by
    have e' : Bool.rec (motive := fun _ => Option AV) (liveGet t r) (some x') (Nat.beq t' t) = some x := e
    cases hb : Nat.beq t' t with
    | true =>
      rw [hb] at e'
      have := Nat.eq_of_beq_eq_true hb
      subst this
      cases e'
      exact List.mem_cons_self ..
    | false =>
      rw [hb] at e'
      exact List.mem_cons_of_mem _ (liveGet_mem t r x e')

theorem envL_get {g dep n : Nat} {live : List (Nat × AV)} {t : Nat} {x : AV} (e : (envL g dep n live).get t = some x) : t < n ∧ (t, x) ∈ live := by
  have e' : (PT.build dep fun t => Bool.rec (motive := fun _ => Option AV) none (liveGet t live) (Nat.blt t n)).get t = some x := e
  rw [PT.get_build] at e'
  by_cases hc : t + 1 < 2 ^ dep
  · rw [if_pos hc] at e'
    cases hx : Nat.blt t n with
    | true => rw [hx] at e'; exact ⟨blt_lt hx, liveGet_mem t live x e'⟩
    | false => rw [hx] at e'; cases e'
  · rw [if_neg hc] at e'; cases e'

/- what is known of a frame behind a run, told of some slots -/
def holdsAt (g : Nat) (olds : List Nat) (n : Nat) (env : Env) : List (Nat × AV) → Prop
  | [] => True
  | (t, x) :: r => ((env.get t = some x ∧ allN noNames x = true) ∨ (env.get t = some (ren (oldName g olds) x) ∧ allN (fun l => Nat.blt l n) x = true)) ∧ holdsAt g olds n env r

theorem holdsAt_mem {g : Nat} {olds : List Nat} {n : Nat} {env : Env} : ∀ {live : List (Nat × AV)}, holdsAt g olds n env live → ∀ t x, (t, x) ∈ live → (env.get t = some x ∧ allN noNames x = true) ∨ (env.get t = some (ren (oldName g olds) x) ∧ allN (fun l => Nat.blt l n) x = true)
  | [], _, _, _, h => by cases h
  | (t', x') :: r, ⟨h1, h2⟩, t, x, hm => by
    rcases List.mem_cons.1 hm with e | hm
    · cases e; exact h1
    · exact holdsAt_mem h2 t x hm

theorem EnvR.canon {env : Env} {a : Act} (ke : EnvR φ env a) {g dep n : Nat} {olds : List Nat} {next : Nat} (hs : env.size = n) (kg : GlobOk φ g) (hg : g ≤ next) {live : List (Nat × AV)}
    (hl : holdsAt g olds next env live) : EnvR (phiL φ g olds next) (envL g dep n live) a := by
  refine ⟨by rw [ke.size, hs]; rfl, by show n ≤ PT.room; rw [← hs]; exact ke.room, fun t x e => ?_, fun t ht => ?_, GlobOk.canon kg hg⟩
  · obtain ⟨_, hm⟩ := envL_get e
    rcases holdsAt_mem hl t x hm with ⟨h1, h2⟩ | ⟨h1, h2⟩
    · exact VR.canon (ke.val t _ h1) (.inl ⟨rfl, h2⟩)
    · exact VR.canon (ke.val t _ h1) (.inr ⟨rfl, h2⟩)
  · cases hx : (envL g dep n live).get t with
    | none => rfl
    | some x =>
      have := (envL_get hx).1
      have ht' : n ≤ t := ht
      omega

/- a state: what the frame and the memory are, in their own form, so many globals before -/
structure St where
  live : List (Nat × AV)
  objs : List AObj

/- a world is in a state -/
structure InSt (B : Nat) (W : World) (g depE depH n : Nat) (σ : St) (a : Act) (w : World) : Prop where
  st : ∃ φ, EnvR φ (envL g depE n σ.live) a ∧ Sim B W φ (heapL g depH σ.objs) w ∧ GlobOk φ g
  defers : a.defers = []

/- the outcome of a piece of code, told by what is known behind it -/
structure Leads (T : Tab) (N : Nat) (c : Code) (depE depH n : Nat) (σ : St) (x : Ex) (σ' : St) (olds : List Nat) : Prop where
  out : ∃ env h, run T N c (envL T.glob depE n σ.live) (heapL T.glob depH σ.objs) = some (x, env, h) ∧ env.size = n ∧ holdsAt T.glob olds (T.glob + σ'.objs.length) env σ'.live ∧
    likeObjs h (oldName T.glob olds) (fun l => Nat.blt l (T.glob + σ'.objs.length)) σ'.objs olds
  apart : apartE σ'.objs olds = true
  fits : T.glob + σ'.objs.length + 1 ≤ 2 ^ depH
  room : T.glob + σ'.objs.length ≤ PT.room

theorem Leads.wp (k : FullOk P T) {N : Nat} {c : Code} {depE depH n : Nat} {σ σ' : St} {x : Ex} {olds : List Nat} (l : Leads T N c depE depH n σ x σ' olds) {a : Act} (i : InSt B W T.glob depE depH n σ a w)
    {Q : Exit → Act → World → Prop} (hQ : ∀ a' w', InSt B W T.glob depE depH n σ' a' w' → Q x.to a' w') : c.wp P Q a w := by
  obtain ⟨φ, ke, s, kg⟩ := i.st
  obtain ⟨env, h, hrun, hs, hh, ho⟩ := l.out
  refine (runOk k N).1 c _ _ x env h hrun B W φ a w Q ke s kg i.defers fun φ' a' w' hle ke' hd' s' => hQ a' w' ⟨⟨phiL φ' T.glob olds (T.glob + σ'.objs.length), ?_, ?_, ?_⟩, hd'⟩
  · exact ke'.canon hs (kg.mono hle) (Nat.le_add_right _ _) hh
  · exact s'.canon (kg.mono hle) l.fits l.room ho l.apart
  · exact GlobOk.canon (kg.mono hle) (Nat.le_add_right _ _)

/- the same of some operations in a fixed order -/
structure LeadsOps (T : Tab) (N : Nat) (all ops : List Oper) (depE depH n : Nat) (σ : St) (σ' : St) (olds : List Nat) : Prop where
  out : ∃ env h, opsR T (call T N) all ops (envL T.glob depE n σ.live) (heapL T.glob depH σ.objs) = some (env, h) ∧ env.size = n ∧ holdsAt T.glob olds (T.glob + σ'.objs.length) env σ'.live ∧
    likeObjs h (oldName T.glob olds) (fun l => Nat.blt l (T.glob + σ'.objs.length)) σ'.objs olds
  apart : apartE σ'.objs olds = true
  fits : T.glob + σ'.objs.length + 1 ≤ 2 ^ depH
  room : T.glob + σ'.objs.length ≤ PT.room

end
end Go.Ev

/-
  A small evaluator of the model's programs: a run from a smaller memory whose rows name one another.
-/
namespace Go.Ev
open Go Go.RowKit
noncomputable section

variable {P : Program} {T T0 : Tab} {B : Nat} {W w : World} {φ : Phi} {h : AHeap}

def inHeap (hs : AHeap) (l : Nat) : Bool :=
  match hs.get l with
  | some _ => true
  | none => false

/- a row that may not be written, and names what is there -/
def closedObj (hs : AHeap) : AObj → Bool
  | .row cs _ _ wr => !wr && allNs (inHeap hs) cs
  | _ => false

theorem allNs_get {q : Nat → Bool} {a : AV} : ∀ (l : List AV) (i : Nat), allNs q l = true → l[i]? = some a → allN q a = true
  | [], i, _, e => by simp at e
  | b :: l, i, hl, e => by
    simp only [allNs, Bool.and_eq_true] at hl
    cases i with
    | zero => simp at e; subst e; exact hl.1
    | succ i => exact allNs_get l i hl.2 (by simpa using e)

theorem Sim.sub2 (s : Sim B W φ h w) (hs : AHeap) (H : ∀ l o, hs.get l = some o → (o = .dead ∧ ∃ p, φ l = some p) ∨ (closedObj hs o = true ∧ h.get l = some o)) (hN : ∀ l, hs.next ≤ l → hs.get l = none) (hr : hs.next ≤ PT.room) :
    Sim w.heap.size w (fun l => if inHeap hs l = true then φ l else none) hs w := by
  have isin : ∀ l o, hs.get l = some o → inHeap hs l = true := fun l o e => by unfold inHeap; rw [e]
  have nowr : ∀ l o, hs.get l = some o → o.wr = false := fun l o e => by
    rcases H l o e with ⟨rfl, _⟩ | ⟨h1, _⟩
    · rfl
    · cases o <;> simp_all [closedObj, AObj.wr]
  have ofphi : ∀ l p, (if inHeap hs l = true then φ l else none) = some p → φ l = some p := fun l p e => by
    by_cases hc : inHeap hs l = true
    · rw [if_pos hc] at e; exact e
    · rw [if_neg hc] at e; cases e
  refine ⟨⟨rfl, rfl, rfl, Nat.le_refl _, fun _ _ => rfl⟩, fun l => ?_, fun l hl => ?_, hr, fun l o p e hp => ?_, fun l p hp => s.lt l p (ofphi l p hp), fun l l' o o' p p' _ e hw => ?_, fun l o p e hw => ?_, Nat.le_refl _⟩
  · cases hg : hs.get l with
    | none => have : inHeap hs l = false := by unfold inHeap; rw [hg]
              simp [this]
    | some o =>
      have : ∃ p, φ l = some p := by
        rcases H l o hg with ⟨_, hp⟩ | ⟨_, he⟩
        · exact hp
        · exact s.place he
      obtain ⟨p, hp⟩ := this
      simp [isin l o hg, hp]
  · have : inHeap hs l = false := by unfold inHeap; rw [hN l hl]
    simp [this]
  · rcases H l o e with ⟨rfl, _⟩ | ⟨hpl, he⟩
    · trivial
    · have h1 := s.obj l o p he (ofphi l p hp)
      cases o with
      | row cs opn fz wr =>
        simp only [closedObj, Bool.and_eq_true] at hpl
        obtain ⟨cells, el, lo, hi, h1, h2, h4, h5, h6⟩ := h1
        refine ⟨cells, el, lo, hi, h1, h2, h4, fun i a ha => ?_, h6⟩
        obtain ⟨v, hv, hr⟩ := h5 i a ha
        exact ⟨v, hv, VR.names (p := inHeap hs) (fun l q hq hql => by rw [if_pos hq]; exact hql) a v (allNs_get cs i hpl.2 ha) hr⟩
      | amap _ _ => simp [closedObj] at hpl
      | siter _ _ => simp [closedObj] at hpl
      | dead => trivial
  · rw [nowr l o e] at hw; cases hw
  · rw [nowr l o e] at hw; cases hw

theorem calls_of_sub2 (k : FullOk P T0) (s : Sim B W φ h w) (hs : AHeap) (H : ∀ l o, hs.get l = some o → (o = .dead ∧ ∃ p, φ l = some p) ∨ (closedObj hs o = true ∧ h.get l = some o))
    (hN : ∀ l, hs.next ≤ l → hs.get l = none) (hr : hs.next ≤ PT.room) (hgl : ∀ g, g < T0.glob → inHeap hs g = true) (kg : GlobOk φ T0.glob)
    {N : Nat} {f : FuncId} {args : List AV} {args' : List Value} (ha : allNs noNames args = true) (hra : VRs φ args args') {v : AV} {h1 : AHeap} (e : call T0 N f args hs = some (v, h1)) (hv : allN noNames v = true) :
    Calls P f args'.toArray w (Ends B W φ v h) := by
  have s0 := s.sub2 hs H hN hr
  have kg0 : GlobOk (fun l => if inHeap hs l = true then φ l else none) T0.glob := fun g hg => by
    obtain ⟨p, h1, h2⟩ := kg g hg
    exact ⟨p, (if_pos (hgl g hg)).trans h1, h2⟩
  have hra0 := VRs.names (p := noNames) (ψ := fun l => if inHeap hs l = true then φ l else none) (fun _ _ e _ => by cases e) args args' ha hra
  refine (((call_sound k N).run f args hs v h1 e).2 _ _ _ w args' s0 hra0 kg0).mono ?_
  rintro en w' ⟨v', φ', rfl, hle, hvr, hsim⟩
  exact ⟨v', φ, rfl, Phi.le_refl φ, VR.plain hv hvr, s.framed hsim.below⟩

/- the same without a memory of our own around it -/
theorem calls_of_run (k : FullOk P T0) (s : Sim B W φ h w) (kg : GlobOk φ T0.glob) {N : Nat} {f : FuncId} {args : List AV} {args' : List Value} (hra : VRs φ args args') {v : AV} {h1 : AHeap} (e : call T0 N f args h = some (v, h1)) :
    Calls P f args'.toArray w (Ends B W φ v h1) := ((call_sound k N).run f args h v h1 e).2 B W φ w args' s hra kg

end
end Go.Ev

/-
  A small evaluator of the model's programs: functions from plain values to plain values.
-/
namespace Go.Ev
open Go Go.RowKit
noncomputable section

variable {P : Program} {T T0 : Tab}

theorem map_fst_some {α β : Type} {r : Option (α × β)} {v : α} (h : r.map Prod.fst = some v) : ∃ x, r = some (v, x) := by
  cases r with
  | none => cases h
  | some p => obtain ⟨a, b⟩ := p; cases h; exact ⟨b, rfl⟩

/- run from a memory in which nothing is known, it answers so: then it does so in any world -/
theorem purOk_plain (k : FullOk P T0) (hg : T.glob = T0.glob) (N : Nat) {f : FuncId} {p : Pf} {dep : Nat} (hd : T0.glob + 1 ≤ 2 ^ dep) (hroom : T0.glob ≤ PT.room)
    (H : ∀ args h v, p args h = some v → allNs noNames args = true ∧ allN noNames v = true ∧ (call T0 N f args (heapL T0.glob dep [])).map Prod.fst = some v)
    (hen : ∀ (as : Array Value) (w : World), (callFunc f as).run P w = .ok (.enter f as) w) : PurOk P T f p := by
  refine ⟨hen, fun args h v e B W φ w args' s hr kg => ?_⟩
  obtain ⟨h1, h2, h3⟩ := H args h v e
  obtain ⟨x, hx⟩ := map_fst_some h3
  have kg' : GlobOk φ T0.glob := hg ▸ kg
  have get : ∀ l, (heapL T0.glob dep []).get l = if l < T0.glob then some .dead else none := fun l => by
    rw [heapL_get (by simpa using hd)]; simp
  refine calls_of_sub2 k s (heapL T0.glob dep []) (fun l o hl => ?_) (fun l hl => ?_) (by simpa [heapL] using hroom) (fun g hgl => ?_) kg' h1 hr hx h2
  · rw [get l] at hl
    by_cases hlt : l < T0.glob
    · rw [if_pos hlt] at hl; cases hl
      obtain ⟨p, hp, _⟩ := kg' l hlt
      exact .inl ⟨rfl, p, hp⟩
    · rw [if_neg hlt] at hl; cases hl
  · have hl' : T0.glob + 0 ≤ l := hl
    rw [get l, if_neg (by omega)]
  · unfold inHeap; rw [get g, if_pos hgl]

end
end Go.Ev

/-
  A small evaluator of the model's programs: regions in pieces.
-/
namespace Go.Ev
open Go Go.RowKit

variable {P : Program} {T : Tab} {B : Nat} {W w : World}

theorem Oper.wp_mono2 {o : Oper} {a : Act} {w : World} {K K' : Act → World → Prop} {Q Q' : Exit → Act → World → Prop} (hK : ∀ a w, K a w → K' a w) (hQ : ∀ e a w, e ≠ .normal → Q e a w → Q' e a w)
    (hh : o.wp P a w K Q) : o.wp P a w K' Q' := by
  unfold Oper.wp at *
  generalize (execOp a.eval o).run P w = r at *
  cases r with
  | ok n w' =>
    cases n <;> simp only [Oper.upon] at hh ⊢ <;>
      first
        | exact hK _ _ hh
        | exact Calls.mono hh (fun e w'' he => by
            cases e with
            | returned v => exact hK _ _ he
            | panicked c => exact hQ _ _ _ (by simp) he
            | outgrown => obtain ⟨a0, w0, h0⟩ := he; exact ⟨a0, w0, hQ _ _ _ (by simp) h0⟩)
        | exact Rows.mono hh (fun _ _ he => hK _ _ he)
  | halt x w' => cases x <;> simp only [Oper.upon] at hh ⊢ <;> first | exact hQ _ _ _ (by simp) hh | exact hh

/- a list of operations, in two pieces -/
theorem wpList_app {ops : Array Oper} {Q : Exit → Act → World → Prop} (I : Act → World → Prop) : ∀ (l1 l2 : List Oper) (a : Act) (w : World), wpList P ops (fun e a w => e = .normal ∧ I a w) l1 a w → (∀ a w, I a w → wpList P ops Q l2 a w) → wpList P ops Q (l1 ++ l2) a w
  | [], l2, a, w, h, h2 => h2 a w h.2
  | o :: l1, l2, a, w, h, h2 => by
    unfold wpList at h
    show wpList P ops Q (o :: (l1 ++ l2)) a w
    unfold wpList
    by_cases hw : Region.wanted o (yielded ops a.tmps) = true
    · rw [if_pos hw] at h ⊢
      rcases h with h | ⟨_, a0, w0, h0⟩
      · exact .inl (Oper.wp_mono2 (fun a' w' h' => wpList_app I l1 l2 a' w' h' h2) (fun e a w he h => absurd h.1 he) h)
      · cases h0.1
    · rw [if_neg hw] at h ⊢
      exact wpList_app I l1 l2 _ w h h2

theorem LeadsOps.wp (k : FullOk P T) {N : Nat} {all : Array Oper} {l1 l2 : List Oper} {depE depH n : Nat} {σ σ' : St} {olds : List Nat} (l : LeadsOps T N all.toList l1 depE depH n σ σ' olds) {a : Act} (i : InSt B W T.glob depE depH n σ a w)
    {Q : Exit → Act → World → Prop} (hQ : ∀ a' w', InSt B W T.glob depE depH n σ' a' w' → wpList P all Q l2 a' w') : wpList P all Q (l1 ++ l2) a w := by
  obtain ⟨φ, ke, s, kg⟩ := i.st
  obtain ⟨env, h, hrun, hs, hh, ho⟩ := l.out
  refine wpList_app (fun a' w' => InSt B W T.glob depE depH n σ' a' w') l1 l2 a w ?_ hQ
  rw [opsR_eq] at hrun
  refine opsE_sound k.toAllOk (call_sound k N) l1 _ _ env h hrun φ a w ke s kg i.defers fun φ' a' w' hle ke' hd' s' => ⟨rfl, ⟨⟨phiL φ' T.glob olds (T.glob + σ'.objs.length), ?_, ?_, ?_⟩, hd'⟩⟩
  · exact ke'.canon hs (kg.mono hle) (Nat.le_add_right _ _) hh
  · exact s'.canon (kg.mono hle) l.fits l.room ho l.apart
  · exact GlobOk.canon (kg.mono hle) (Nat.le_add_right _ _)

end Go.Ev

/-
  A small evaluator of the model's programs: the outcome of a run, part by part.
-/
namespace Go.Ev
open Go Go.RowKit
noncomputable section

def exOf (r : Option (Ex × Env × AHeap)) : Ex := match r with | some (x, _, _) => x | none => .normal
def envOf (r : Option (Ex × Env × AHeap)) : Env := match r with | some (_, e, _) => e | none => ⟨.nil, 0, 0⟩
def memOf (r : Option (Ex × Env × AHeap)) : AHeap := match r with | some (_, _, h) => h | none => ⟨.nil, 0⟩
theorem run_parts {r : Option (Ex × Env × AHeap)} (h : r.isSome = true) : r = some (exOf r, envOf r, memOf r) := by
  cases r with
  | none => cases h
  | some x => obtain ⟨a, b, c⟩ := x; rfl

def envOf2 (r : Option (Env × AHeap)) : Env := match r with | some (e, _) => e | none => ⟨.nil, 0, 0⟩
def memOf2 (r : Option (Env × AHeap)) : AHeap := match r with | some (_, h) => h | none => ⟨.nil, 0⟩
theorem ops_parts {r : Option (Env × AHeap)} (h : r.isSome = true) : r = some (envOf2 r, memOf2 r) := by
  cases r with
  | none => cases h
  | some x => obtain ⟨b, c⟩ := x; rfl

variable {P : Program} {T : Tab} {B : Nat} {W w : World}

/- a piece's outcome, each part reckoned by itself -/
theorem Leads.of {N : Nat} {c : Code} {depE depH n : Nat} {σ σ' : St} {x : Ex} {olds : List Nat} {r : Option (Ex × Env × AHeap)} (hr : run T N c (envL T.glob depE n σ.live) (heapL T.glob depH σ.objs) = r)
    (h1 : r.isSome = true) (h2 : exOf r = x) (h3 : (envOf r).size = n) (h4 : holdsAt T.glob olds (T.glob + σ'.objs.length) (envOf r) σ'.live)
    (h5 : likeObjs (memOf r) (oldName T.glob olds) (fun l => Nat.blt l (T.glob + σ'.objs.length)) σ'.objs olds) (h6 : apartE σ'.objs olds = true) (h7 : T.glob + σ'.objs.length + 1 ≤ 2 ^ depH) (h8 : T.glob + σ'.objs.length ≤ PT.room) :
    Leads T N c depE depH n σ x σ' olds :=
  ⟨⟨envOf r, memOf r, by rw [hr, ← h2]; exact run_parts h1, h3, h4, h5⟩, h6, h7, h8⟩

theorem LeadsOps.of {N : Nat} {all ops : List Oper} {depE depH n : Nat} {σ σ' : St} {olds : List Nat} {r : Option (Env × AHeap)} (hr : opsR T (call T N) all ops (envL T.glob depE n σ.live) (heapL T.glob depH σ.objs) = r)
    (h1 : r.isSome = true) (h3 : (envOf2 r).size = n) (h4 : holdsAt T.glob olds (T.glob + σ'.objs.length) (envOf2 r) σ'.live)
    (h5 : likeObjs (memOf2 r) (oldName T.glob olds) (fun l => Nat.blt l (T.glob + σ'.objs.length)) σ'.objs olds) (h6 : apartE σ'.objs olds = true) (h7 : T.glob + σ'.objs.length + 1 ≤ 2 ^ depH) (h8 : T.glob + σ'.objs.length ≤ PT.room) :
    LeadsOps T N all ops depE depH n σ σ' olds :=
  ⟨⟨envOf2 r, memOf2 r, by rw [hr]; exact ops_parts h1, h3, h4, h5⟩, h6, h7, h8⟩

end
end Go.Ev

/-
  A small evaluator of the model's programs: the parts of a code, by where they stand.
-/
namespace Go.Ev
open Go Go.RowKit
noncomputable section

def bodyOf (f : Func) : Code := f.body.getD .skip
/- the first part; the second -/
def lft : Code → Code
  | .seq a _ => a
  | .cond _ a _ => a
  | .block _ a => a
  | .loop a => a
  | .scope a => a
  | c => c
def rgt : Code → Code
  | .seq _ b => b
  | .cond _ _ b => b
  | c => c
def opsOf : Code → Array Oper
  | .region _ ops _ => ops
  | _ => #[]
def idOf : Code → Nat
  | .region i _ _ => i
  | .block i _ => i
  | _ => 0
def condOf : Code → Operand
  | .cond c _ _ => c
  | _ => .tmp 0

theorem as_seq {c : Code} (h : c = .seq (lft c) (rgt c)) {P : Program} {Q : Exit → Act → World → Prop} {a : Act} {w : World} (k : (lft c).wp P (Exit.then ((rgt c).wp P Q) Q) a w) : c.wp P Q a w := by
  rw [h]; exact wp_seq k
theorem as_block {c : Code} (h : c = .block (idOf c) (lft c)) {P : Program} {Q : Exit → Act → World → Prop} {a : Act} {w : World} (k : (lft c).wp P (Exit.inBlock (idOf c) Q) a w) : c.wp P Q a w := by
  rw [h]; exact wp_block k
theorem as_loop {c : Code} (h : c = .loop (lft c)) (n : Nat) {P : Program} {Q : Exit → Act → World → Prop} {a : Act} {w : World} (k : Code.rounds P (lft c) Q n a w) : c.wp P Q a w := by
  rw [h]; exact wp_loop_rounds n k
theorem as_region {c : Code} (h : c = .region (idOf c) (opsOf c) false) {P : Program} {Q : Exit → Act → World → Prop} {a : Act} {w : World} (k : wpList P (opsOf c) Q (opsOf c).toList a w) : c.wp P Q a w := by
  rw [h]; exact wp_region_list k

end
end Go.Ev

/-
  A small evaluator of the model's programs: a loop that goes round so many times.
-/
namespace Go.Ev
open Go Go.RowKit

theorem rounds_of {P : Program} {c : Code} {Q : Exit → Act → World → Prop} (I : Nat → Act → World → Prop) (n : Nat)
    (step : ∀ i, i < n → ∀ a w, I i a w → ∀ K : Act → World → Prop, (∀ a w, I (i + 1) a w → K a w) → c.wp P (Exit.then K Q) a w)
    (stop : ∀ a w, I n a w → ∀ K : Act → World → Prop, c.wp P (Exit.then K Q) a w) : ∀ (k i : Nat), i + k = n → ∀ a w, I i a w → Code.rounds P c Q (k + 1) a w
  | 0, i, e, a, w, h => by
    have : i = n := by omega
    subst this
    rw [rounds_succ]; exact stop a w h _
  | k + 1, i, e, a, w, h => by
    rw [rounds_succ]
    exact step i (by omega) a w h _ fun a' w' h' => rounds_of I n step stop k (i + 1) (by omega) a' w' h'

end Go.Ev

/-
  A small evaluator of the model's programs: the same run, where some operations' outcomes are told beforehand: what is owed for these is gathered.
-/
namespace Go.Ev
open Go Go.RowKit
noncomputable section

/- an operation whose operands are values -/
inductive XOp where
  | same (a : AV)
  | pick (c a b : AV)
  | bin (kc : Bool) (op : BinOp) (t : TypeId) (a b : AV)
  | un (op : UnOp) (a : AV)
  | load (t : TypeId) (a : AV)
  | store (t : TypeId) (a x : AV)
  | indexAddr (t : TypeId) (x i : AV)
  | index (t : TypeId) (x i : AV)
  | slice (t : TypeId) (x : AV) (lo hi mx : Option AV)
  | conv (s d : TypeId) (x : AV)
  | box (x : AV)
  | build (t : TypeId) (ps : List (Nat × AV))
  | buildSlice (t : TypeId) (n : Nat) (ps : List (Nat × AV))
  | field (t : TypeId) (x : AV) (f : Nat)
  | makeSlice (t : TypeId) (l c : AV)
  | lookup (t : TypeId) (m k : AV) (ok : Bool)
  | mapUpdate (t : TypeId) (m k v : AV)
  | mapEntry (t : TypeId) (m k : AV)
  | entryStore (m k v : AV)
  | next (it : AV) (s : Bool)
  | builtin (b : Builtin) (ats : List TypeId) (args : List AV)
  | call (g : FuncId) (args : List AV)

def vo (r : Option AV) : Option OpR := ob r fun v => some (v, none)
def uo (r : Option AHeap) : Option OpR := ob r fun h => some (.undef, some h)

def doX (T : Tab) (cf : CallF) (x : XOp) (h : AHeap) : Option OpR :=
  match x with
  | .same a => some (a, none)
  | .pick c a b => match c with
    | .bool true => some (a, none)
    | .bool false => some (b, none)
    | _ => none
  | .bin kc op t a b => vo (binE T kc op t a b)
  | .un op a => vo (unE op a)
  | .load t a => vo (match a with
    | .ptr l o => loadE T t l o h
    | _ => none)
  | .store t a y => uo (match a with
    | .ptr l o => storeE T t l o y h
    | _ => none)
  | .indexAddr t x i => vo (indexAddrE T t x i)
  | .index t x i => vo (indexE T t x i)
  | .slice t x lo hi mx => vo (sliceE T t x lo hi mx)
  | .conv s d x => convE T s d x h
  | .box v => ck (Nat.ble 1 v.cells.length) <| ob (newE v.cells false h) fun (l, h') => okh (.ptr l 0) h'
  | .build t ps => vo (buildE T t ps)
  | .buildSlice t n ps => buildSliceE T t n ps h
  | .field t x f => vo (fieldE T t x f)
  | .makeSlice t l c => makeSliceE T t l c h
  | .lookup t m k ok => vo (lookupE T t m k ok h)
  | .mapUpdate t m k v => uo (mapUpdateE T t m k v h)
  | .mapEntry t m k => mapEntryE T t m k h
  | .entryStore m k v => uo (entryStoreE m k v h)
  | .next it s => nextE it s h
  | .builtin b ats args => builtinE T b ats args h
  | .call g args => match T.ext.get g with
    | some e => ob (e args h) fun (v, h') => some (v, some h')
    | none => match T.pur.get g with
      | some p => ob (p args h) fun v => some (v, none)
      | none => ob (cf g args h) fun (v, h') => some (v, some h')

def xopE (env : Env) (op : Op) : Option XOp :=
  match op with
  | .move x | .assign x => ob (env.eval x) fun a => some (.same a)
  | .pick c a b => ob (env.eval c) fun cv => ob (env.eval a) fun av => ob (env.eval b) fun bv => some (.pick cv av bv)
  | .binOp op t x y _ => ob (env.eval x) fun a => ob (env.eval y) fun b => some (.bin (isConstE x || isConstE y) op t a b)
  | .unOp op _ x => ob (env.eval x) fun a => some (.un op a)
  | .load t a => ob (env.eval a) fun v => some (.load t v)
  | .store t a x => ob (env.eval a) fun v => ob (env.eval x) fun y => some (.store t v y)
  | .indexAddr t x i => ob (env.eval x) fun a => ob (env.eval i) fun b => some (.indexAddr t a b)
  | .index t x i => ob (env.eval x) fun a => ob (env.eval i) fun b => some (.index t a b)
  | .slice t x lo hi mx => ob (env.eval x) fun a => ob (optE env lo) fun l => ob (optE env hi) fun g => ob (optE env mx) fun m => some (.slice t a l g m)
  | .convert s d x => ob (env.eval x) fun a => some (.conv s d a)
  | .box _ x => ob (env.eval x) fun v => some (.box v)
  | .build t parts => ob (evalParts env parts.toList) fun ps => some (.build t ps)
  | .buildSlice t n parts => ob (evalParts env parts.toList) fun ps => some (.buildSlice t n ps)
  | .field t x f => ob (env.eval x) fun a => some (.field t a f)
  | .makeSlice t l c => ob (env.eval l) fun a => ob (env.eval c) fun b => some (.makeSlice t a b)
  | .lookup t m k ok => ob (env.eval m) fun a => ob (env.eval k) fun b => some (.lookup t a b ok)
  | .mapUpdate t m k v => ob (env.eval m) fun a => ob (env.eval k) fun b => ob (env.eval v) fun c => some (.mapUpdate t a b c)
  | .mapEntry t m k => ob (env.eval m) fun a => ob (env.eval k) fun b => some (.mapEntry t a b)
  | .entryStore _ m k v => ob (env.eval m) fun a => ob (env.eval k) fun b => ob (env.eval v) fun c => some (.entryStore a b c)
  | .next it s => ob (env.eval it) fun a => some (.next a s)
  | .call c =>
    match c.callee with
    | .builtin b => ob (evals env c.args.toList) fun as => some (.builtin b c.argTypes.toList as)
    | .value f => ob (env.eval f) fun fv => ob (evals env c.args.toList) fun as => match fv with
      | .func (.func g) first captured => some (.call g (first ++ (as ++ captured)))
      | _ => none
    | _ => none
  | _ => none

theorem vx_val {r : Option AV} (h : AHeap) (T : Tab) (cf : CallF) : (match vx r with
  | some (.val r) => some r
  | some (.call f args) => match T.pur.get f with
    | some p => ob (p args h) fun v => some (v, none)
    | none => ob (cf f args h) fun (v, h') => some (v, some h')
  | none => none) = vo r := by cases r <;> rfl
theorem ux_val {r : Option AHeap} (h : AHeap) (T : Tab) (cf : CallF) : (match ux r with
  | some (.val r) => some r
  | some (.call f args) => match T.pur.get f with
    | some p => ob (p args h) fun v => some (v, none)
    | none => ob (cf f args h) fun (v, h') => some (v, some h')
  | none => none) = uo r := by cases r <;> rfl
theorem hx_val {r : Option OpR} (h : AHeap) (T : Tab) (cf : CallF) : (match hx r with
  | some (.val r) => some r
  | some (.call f args) => match T.pur.get f with
    | some p => ob (p args h) fun v => some (v, none)
    | none => ob (cf f args h) fun (v, h') => some (v, some h')
  | none => none) = r := by cases r <;> rfl

theorem ob_of {α β : Type} (a : α) (f : α → Option β) : ob (some a) f = f a := rfl

theorem ob_none {α β : Type} (f : α → Option β) : ob none f = none := rfl
theorem xop_ok (T : Tab) (cf : CallF) (env : Env) (op : Op) (h : AHeap) (x : XOp) (e : xopE env op = some x) : doE T cf env op h = doX T cf x h := by
  unfold doE
  rw [opF_eq]
  cases op <;> simp only [xopE] at e <;> simp only [opE]
  case call c =>
    obtain ⟨callee, cargs, ats⟩ := c
    cases callee with
    | builtin b =>
      obtain ⟨as, ha, e⟩ := ob_some e; cases e
      simp only [ha, ob_of]
      exact hx_val h T cf
    | value f =>
      obtain ⟨fv, hf, e⟩ := ob_some e
      obtain ⟨as, ha, e⟩ := ob_some e
      simp only [hf, ha, ob_of]
      split at e
      · cases e
        rename_i g first captured _
        simp only [doX]
        cases hg : T.ext.get g with
        | none => rfl
        | some n =>
          cases hn : n (first ++ (as ++ captured)) h <;> simp only [hn, ob_none, ob_of]
      · cases e
    | invoke r m => cases e
  case move a => obtain ⟨v, hv, e⟩ := ob_some e; cases e; simp only [hv]; rfl
  case assign a => obtain ⟨v, hv, e⟩ := ob_some e; cases e; simp only [hv]; rfl
  case pick c a b =>
    obtain ⟨cv, h1, e1⟩ := ob_some e; obtain ⟨av, h2, e2⟩ := ob_some e1; obtain ⟨bv, h3, e3⟩ := ob_some e2; clear e e1 e2; cases e3
    simp only [h1, h2, h3, ob_of]
    refine (vx_val h T cf).trans ?_
    clear h1
    cases cv <;> simp only [doX, vo, ob_none]
    rename_i b; cases b <;> rfl
  case binOp => obtain ⟨v, h1, e⟩ := ob_some e; obtain ⟨u, h2, e⟩ := ob_some e; cases e; simp only [h1, h2, ob_of]; exact vx_val h T cf
  case unOp => obtain ⟨v, h1, e⟩ := ob_some e; cases e; simp only [h1, ob_of]; exact vx_val h T cf
  case load => obtain ⟨v, h1, e⟩ := ob_some e; cases e; simp only [h1, ob_of]; exact vx_val h T cf
  case store => obtain ⟨v, h1, e⟩ := ob_some e; obtain ⟨u, h2, e⟩ := ob_some e; cases e; simp only [h1, h2, ob_of]; exact ux_val h T cf
  case indexAddr => obtain ⟨v, h1, e⟩ := ob_some e; obtain ⟨u, h2, e⟩ := ob_some e; cases e; simp only [h1, h2, ob_of]; exact vx_val h T cf
  case index => obtain ⟨v, h1, e⟩ := ob_some e; obtain ⟨u, h2, e⟩ := ob_some e; cases e; simp only [h1, h2, ob_of]; exact vx_val h T cf
  case slice => obtain ⟨v, h1, e⟩ := ob_some e; obtain ⟨u, h2, e⟩ := ob_some e; obtain ⟨u3, h3, e⟩ := ob_some e; obtain ⟨u4, h4, e⟩ := ob_some e; cases e; simp only [h1, h2, h3, h4, ob_of]; exact vx_val h T cf
  case convert => obtain ⟨v, h1, e⟩ := ob_some e; cases e; simp only [h1, ob_of]; exact hx_val h T cf
  case box => obtain ⟨v, h1, e⟩ := ob_some e; cases e; simp only [h1, ob_of]; exact hx_val h T cf
  case build => obtain ⟨v, h1, e⟩ := ob_some e; cases e; simp only [h1, ob_of]; exact vx_val h T cf
  case buildSlice => obtain ⟨v, h1, e⟩ := ob_some e; cases e; simp only [h1, ob_of]; exact hx_val h T cf
  case field => obtain ⟨v, h1, e⟩ := ob_some e; cases e; simp only [h1, ob_of]; exact vx_val h T cf
  case makeSlice => obtain ⟨v, h1, e⟩ := ob_some e; obtain ⟨u, h2, e⟩ := ob_some e; cases e; simp only [h1, h2, ob_of]; exact hx_val h T cf
  case lookup => obtain ⟨v, h1, e⟩ := ob_some e; obtain ⟨u, h2, e⟩ := ob_some e; cases e; simp only [h1, h2, ob_of]; exact vx_val h T cf
  case mapUpdate => obtain ⟨v, h1, e⟩ := ob_some e; obtain ⟨u, h2, e⟩ := ob_some e; obtain ⟨u3, h3, e⟩ := ob_some e; cases e; simp only [h1, h2, h3, ob_of]; exact ux_val h T cf
  case mapEntry => obtain ⟨v, h1, e⟩ := ob_some e; obtain ⟨u, h2, e⟩ := ob_some e; cases e; simp only [h1, h2, ob_of]; exact hx_val h T cf
  case entryStore => obtain ⟨v, h1, e⟩ := ob_some e; obtain ⟨u, h2, e⟩ := ob_some e; obtain ⟨u3, h3, e⟩ := ob_some e; cases e; simp only [h1, h2, h3, ob_of]; exact ux_val h T cf
  case next => obtain ⟨v, h1, e⟩ := ob_some e; cases e; simp only [h1, ob_of]; exact hx_val h T cf
  all_goals cases e

/- ---------------------------------------------------------------- told outcomes -/
/- in which form it is owed: of this very memory; in any memory; of this memory, whatever is called; the outcome -/
abbrev Hint := Nat × OpR
abbrev Hints := List (Nat × Hint)

def hintAt (t : Nat) (hs : Hints) : Option Hint :=
  List.rec (motive := fun _ => Option Hint) none (fun p _ r => Bool.rec (motive := fun _ => Option Hint) r (some p.2) (Nat.beq p.1 t)) hs

def owed (T : Tab) (cf : CallF) (x : XOp) (h : AHeap) (b : Nat) (r : OpR) : Prop :=
  match b with
  | 0 => doX T cf x h = some r
  | 1 => ∀ cf h, doX T cf x h = some r
  | _ => ∀ cf, doX T cf x h = some r

theorem owed_ok {T : Tab} {cf : CallF} {x : XOp} {h : AHeap} {b : Nat} {r : OpR} (o : owed T cf x h b r) : doX T cf x h = some r := by
  unfold owed at o
  split at o
  · exact o
  · exact o cf h
  · exact o cf

def doC (T : Tab) (cf : CallF) (hint : Option Hint) (env : Env) (op : Op) (h : AHeap) : Option (OpR × List Prop) :=
  Option.rec (motive := fun _ => Option (OpR × List Prop)) (ob (doE T cf env op h) fun r => some (r, [])) (fun r => ob (xopE env op) fun x => some (r.2, [owed T cf x h r.1 r.2])) hint

def allP : List Prop → Prop
  | [] => True
  | p :: ps => p ∧ allP ps
theorem allP_app : ∀ {ps qs : List Prop}, allP (ps ++ qs) ↔ allP ps ∧ allP qs
  | [], qs => by simp [allP]
  | p :: ps, qs => by simp [allP, allP_app (ps := ps), and_assoc]

theorem doC_ok {T : Tab} {cf : CallF} {hint : Option Hint} {env : Env} {op : Op} {h : AHeap} {r : OpR} {ps : List Prop} (e : doC T cf hint env op h = some (r, ps)) (hp : allP ps) : doE T cf env op h = some r := by
  cases hint with
  | none => obtain ⟨x, hx, e⟩ := ob_some (f := fun r => some (r, [])) e; cases e; exact hx
  | some r0 =>
    obtain ⟨x, hx, e⟩ := ob_some (f := fun x => some (r0.2, [owed T cf x h r0.1 r0.2])) e
    cases e
    rw [xop_ok T cf env op h x hx]; exact owed_ok hp.1

def opsC (T : Tab) (cf : CallF) (hs : Hints) (ops : List Oper) (l : List Oper) : Nat → Env → AHeap → Option (Env × AHeap × List Prop) :=
  List.rec (motive := fun _ => Nat → Env → AHeap → Option (Env × AHeap × List Prop)) (fun _ env h => some (env, h, []))
    (fun o _ rc k env h => Bool.rec (motive := fun _ => Option (Env × AHeap × List Prop)) none (Bool.rec (motive := fun _ => Option (Env × AHeap × List Prop)) (rc (Nat.succ k) (env.put o.dst .undef) h)
      (ob (doC T cf (hintAt k hs) env o.op h) fun x => Prod.rec (motive := fun _ => Option (Env × AHeap × List Prop)) (fun r ps => Prod.rec (motive := fun _ => Option (Env × AHeap × List Prop)) (fun v h' =>
        ob (rc (Nat.succ k) (env.put o.dst v) (AHeap.or h' h)) fun y => some (y.1, y.2.1, ps ++ y.2.2)) r) x) (wantE ops env o)) (knownE ops env o)) l

theorem opsC_ok {T : Tab} {cf : CallF} {hs : Hints} {ops : List Oper} : ∀ {l : List Oper} {k : Nat} {env : Env} {h : AHeap} {env' : Env} {h' : AHeap} {ps : List Prop}, opsC T cf hs ops l k env h = some (env', h', ps) → allP ps →
    opsR T cf ops l env h = some (env', h')
  | [], _, _, _, _, _, _, e, _ => by cases e; rfl
  | o :: rest, k, env, h, env', h', ps, e, hp => by
    rw [opsR_eq]
    unfold opsE
    have e' : Bool.rec (motive := fun _ => Option (Env × AHeap × List Prop)) none (Bool.rec (motive := fun _ => Option (Env × AHeap × List Prop)) (opsC T cf hs ops rest (Nat.succ k) (env.put o.dst .undef) h)
      (ob (doC T cf (hintAt k hs) env o.op h) fun x => Prod.rec (motive := fun _ => Option (Env × AHeap × List Prop)) (fun r ps => Prod.rec (motive := fun _ => Option (Env × AHeap × List Prop)) (fun v h' =>
        ob (opsC T cf hs ops rest (Nat.succ k) (env.put o.dst v) (AHeap.or h' h)) fun y => some (y.1, y.2.1, ps ++ y.2.2)) r) x) (wantE ops env o)) (knownE ops env o) = some (env', h', ps) := e
    cases hk : knownE ops env o with
    | false => rw [hk] at e'; cases e'
    | true =>
    rw [hk] at e'
    dsimp only [ck]
    cases hw : wantE ops env o with
    | false =>
      rw [hw] at e'
      have := opsC_ok (l := rest) e' hp
      rw [opsR_eq] at this; exact this
    | true =>
      rw [hw] at e'
      obtain ⟨⟨⟨v, ho⟩, qs⟩, h1, e2⟩ := ob_some (x := doC T cf (hintAt k hs) env o.op h) e'
      obtain ⟨⟨env2, h2, rs⟩, h3, e3⟩ := ob_some (x := opsC T cf hs ops rest (Nat.succ k) (env.put o.dst v) (AHeap.or ho h)) e2
      cases e3
      obtain ⟨hq, hr⟩ := allP_app.1 hp
      have h4 := doC_ok h1 hq
      have h5 := opsC_ok (l := rest) h3 hr
      rw [opsR_eq] at h5
      rw [h4]
      cases ho with
      | none => exact h5
      | some h1 => exact h5

end
end Go.Ev

/-
  A small evaluator of the model's programs: told outcomes in regions whose order is open, and in code.
-/
namespace Go.Ev
open Go Go.RowKit
noncomputable section

theorem kindEq_refl (k : IntKind) : kindEq k k = true := by cases k <;> rfl
mutual
theorem AV.eqb_refl : ∀ a : AV, AV.eqb a a = true
  | .bool a => by simp [AV.eqb]
  | .int k a => by simp [AV.eqb, kindEq_refl, eqE_eq]
  | .str a => by simp [AV.eqb, strEq_eq]
  | .ptr a c => by simp [AV.eqb]
  | .nilptr => rfl
  | .slice a c d f => by cases f <;> simp [AV.eqb, Cap.eqb]
  | .nilslice => rfl
  | .map a => by simp [AV.eqb]
  | .nilmap => rfl
  | .func f a c => by simp [AV.eqb, AV.eqbs_refl a, AV.eqbs_refl c]
  | .nilFunc => rfl
  | .iface t v => by simp [AV.eqb, AV.eqb_refl v]
  | .nilIface => rfl
  | .agg a => by simp [AV.eqb, AV.eqbs_refl a]
  | .tuple a => by simp [AV.eqb, AV.eqbs_refl a]
theorem AV.eqbs_refl : ∀ a : List AV, AV.eqbs a a = true
  | [] => rfl
  | a :: as => by simp [AV.eqbs, AV.eqb_refl a, AV.eqbs_refl as]
end

def traceC (T : Tab) (cf : CallF) (hs : Hints) (ops : List Oper) (l : List Oper) : Nat → Env → AHeap → Option (List Rec × Env × AHeap × List Prop) :=
  List.rec (motive := fun _ => Nat → Env → AHeap → Option (List Rec × Env × AHeap × List Prop)) (fun _ env h => some ([], env, h, []))
    (fun o _ rc k env h => Bool.rec (motive := fun _ => Option (List Rec × Env × AHeap × List Prop)) none (Bool.rec (motive := fun _ => Option (List Rec × Env × AHeap × List Prop))
      (ob (rc (Nat.succ k) (env.put o.dst .undef) h) fun y => some ({ wanted := false, env := env, pre := h, v := .undef, post := none } :: y.1, y.2))
      (ob (doC T cf (hintAt k hs) env o.op h) fun x => Prod.rec (motive := fun _ => Option (List Rec × Env × AHeap × List Prop)) (fun r ps => Prod.rec (motive := fun _ => Option (List Rec × Env × AHeap × List Prop)) (fun v h' =>
        ob (rc (Nat.succ k) (env.put o.dst v) (AHeap.or h' h)) fun y => some ({ wanted := true, env := env, pre := h, v := v, post := h' } :: y.1, y.2.1, y.2.2.1, ps ++ y.2.2.2)) r) x) (wantE ops env o)) (knownE ops env o)) l

theorem traceC_ok {T : Tab} {cf : CallF} {hs : Hints} {ops : List Oper} : ∀ {l : List Oper} {k : Nat} {env : Env} {h : AHeap} {rs : List Rec} {env' : Env} {h' : AHeap} {ps : List Prop}, traceC T cf hs ops l k env h = some (rs, env', h', ps) → allP ps →
    traceR T cf ops l env h = some (rs, env', h')
  | [], _, _, _, _, _, _, _, e, _ => by cases e; rfl
  | o :: rest, k, env, h, rs, env', h', ps, e, hp => by
    rw [traceR_eq]
    unfold traceE
    have e' : Bool.rec (motive := fun _ => Option (List Rec × Env × AHeap × List Prop)) none (Bool.rec (motive := fun _ => Option (List Rec × Env × AHeap × List Prop))
      (ob (traceC T cf hs ops rest (Nat.succ k) (env.put o.dst .undef) h) fun y => some ({ wanted := false, env := env, pre := h, v := .undef, post := none } :: y.1, y.2))
      (ob (doC T cf (hintAt k hs) env o.op h) fun x => Prod.rec (motive := fun _ => Option (List Rec × Env × AHeap × List Prop)) (fun r ps => Prod.rec (motive := fun _ => Option (List Rec × Env × AHeap × List Prop)) (fun v h' =>
        ob (traceC T cf hs ops rest (Nat.succ k) (env.put o.dst v) (AHeap.or h' h)) fun y => some ({ wanted := true, env := env, pre := h, v := v, post := h' } :: y.1, y.2.1, y.2.2.1, ps ++ y.2.2.2)) r) x) (wantE ops env o)) (knownE ops env o) = some (rs, env', h', ps) := e
    cases hk : knownE ops env o with
    | false => rw [hk] at e'; cases e'
    | true =>
    rw [hk] at e'
    dsimp only [ck]
    cases hw : wantE ops env o with
    | false =>
      rw [hw] at e'
      obtain ⟨⟨rs2, env2, h2, qs⟩, h3, e3⟩ := ob_some (x := traceC T cf hs ops rest (Nat.succ k) (env.put o.dst .undef) h) e'
      cases e3
      have := traceC_ok (l := rest) h3 hp
      rw [traceR_eq] at this
      dsimp only
      rw [this]; rfl
    | true =>
      rw [hw] at e'
      obtain ⟨⟨⟨v, ho⟩, qs⟩, h1, e2⟩ := ob_some (x := doC T cf (hintAt k hs) env o.op h) e'
      obtain ⟨⟨rs2, env2, h2, us⟩, h3, e3⟩ := ob_some (x := traceC T cf hs ops rest (Nat.succ k) (env.put o.dst v) (AHeap.or ho h)) e2
      cases e3
      obtain ⟨hq, hr⟩ := allP_app.1 hp
      have h4 := doC_ok h1 hq
      have h5 := traceC_ok (l := rest) h3 hr
      rw [traceR_eq] at h5
      dsimp only
      rw [h4]
      cases ho with
      | none =>
        have h5' : traceE T cf ops rest (env.put o.dst v) h = some (rs2, env2, h2) := h5
        simp only [ob_of, h5']
      | some hx =>
        have h5' : traceE T cf ops rest (env.put o.dst v) hx = some (rs2, env2, h2) := h5
        simp only [ob_of, h5']

def okAtC (T : Tab) (cf : CallF) (hint : Option Hint) (o : Oper) (r : Rec) (h : AHeap) : Option (List Prop) :=
  ob (doC T cf hint r.env o.op h) fun x => match x.1.2 with
    | none => some (x.2 ++ [x.1.1 = r.v])
    | some _ => none

theorem okAtC_ok {T : Tab} {cf : CallF} {hint : Option Hint} {o : Oper} {r : Rec} {h : AHeap} {ps : List Prop} (e : okAtC T cf hint o r h = some ps) (hp : allP ps) : okAt T cf o r h = true := by
  obtain ⟨⟨⟨v, ho⟩, qs⟩, h1, e⟩ := ob_some (x := doC T cf hint r.env o.op h) e
  cases ho with
  | some _ => cases e
  | none =>
    cases e
    obtain ⟨h2, h3⟩ := allP_app.1 hp
    have h4 := doC_ok h1 h2
    unfold okAt
    rw [h4]
    have : v = r.v := h3.1
    rw [this]; exact AV.eqb_refl _

def orC (b : Bool) (x : Option (List Prop)) : Option (List Prop) := Bool.rec (motive := fun _ => Option (List Prop)) x (some []) b

theorem orC_ok {b c : Bool} {x : Option (List Prop)} {ps : List Prop} (e : orC b x = some ps) (hp : allP ps) (hx : ∀ qs, x = some qs → allP qs → c = true) : (b || c) = true := by
  cases b with
  | true => rfl
  | false => exact hx ps e hp

def eachC {α : Type} (f : α → Option (List Prop)) : List α → Option (List Prop)
  | [] => some []
  | a :: l => ob (f a) fun ps => ob (eachC f l) fun qs => some (ps ++ qs)

theorem eachC_ok {α : Type} {f : α → Option (List Prop)} {g : α → Bool} (hf : ∀ a ps, f a = some ps → allP ps → g a = true) : ∀ {l : List α} {ps : List Prop}, eachC f l = some ps → allP ps → l.all g = true
  | [], _, _, _ => rfl
  | a :: l, ps, e, hp => by
    obtain ⟨qs, h1, e⟩ := ob_some (x := f a) e
    obtain ⟨us, h2, e⟩ := ob_some (x := eachC f l) e
    cases e
    obtain ⟨h3, h4⟩ := allP_app.1 hp
    rw [List.all_cons, hf a qs h1 h3, eachC_ok hf h2 h4]; rfl

def stableC (T : Tab) (cf : CallF) (hint : Option Hint) (b : List Nat) (effs : List (Nat × AHeap)) (h0 : AHeap) (j : Nat) (o : Oper) (r : Rec) : Option (List Prop) :=
  match r.wanted, r.post with
  | true, none =>
    ob (orC (effs.any (fun (e, _) => bitE b j e) || effs.all (fun (e, _) => Nat.blt j e)) (okAtC T cf hint o r h0)) fun ps =>
    ob (eachC (fun (x : Nat × AHeap) => orC (effs.any (fun (e, _) => match Nat.ble e x.1 with | true => bitE b e j | false => bitE b j e) || (Nat.blt x.1 j && effs.all (fun (e, _) => Nat.ble e x.1 || Nat.blt j e))) (okAtC T cf hint o r x.2)) effs) fun qs =>
    some (ps ++ qs)
  | _, _ => some []

theorem stableC_ok {T : Tab} {cf : CallF} {hint : Option Hint} {b : List Nat} {effs : List (Nat × AHeap)} {h0 : AHeap} {j : Nat} {o : Oper} {r : Rec} {ps : List Prop} (e : stableC T cf hint b effs h0 j o r = some ps) (hp : allP ps) :
    stableE T cf b effs h0 j o r = true := by
  unfold stableC at e
  unfold stableE
  cases h1 : r.wanted with
  | false => rfl
  | true =>
  cases h2 : r.post with
  | some _ => rfl
  | none =>
    rw [h1, h2] at e
    obtain ⟨qs, k1, e⟩ := ob_some e
    obtain ⟨us, k2, e⟩ := ob_some e
    cases e
    obtain ⟨hq, hu⟩ := allP_app.1 hp
    have a1 := orC_ok (c := okAt T cf o r h0) k1 hq fun ps h hp => okAtC_ok h hp
    have a2 := eachC_ok (g := fun x => effs.any (fun (e, _) => match Nat.ble e x.1 with | true => bitE b e j | false => bitE b j e) || ((Nat.blt x.1 j && effs.all (fun (e, _) => Nat.ble e x.1 || Nat.blt j e)) || okAt T cf o r x.2))
      (fun a ps h hp => by rw [← Bool.or_assoc]; exact orC_ok h hp fun qs h hp => okAtC_ok h hp) k2 hu
    rw [Bool.or_assoc] at a1
    dsimp only
    rw [Bool.and_eq_true]
    exact ⟨a1, a2⟩

def allStableC (T : Tab) (cf : CallF) (hs : Hints) (b : List Nat) (effs : List (Nat × AHeap)) (h0 : AHeap) : Nat → List Oper → List Rec → Option (List Prop)
  | j, o :: os, r :: rs => ob (stableC T cf (hintAt j hs) b effs h0 j o r) fun ps => ob (allStableC T cf hs b effs h0 (j + 1) os rs) fun qs => some (ps ++ qs)
  | _, _, _ => some []

theorem allStableC_ok {T : Tab} {cf : CallF} {hs : Hints} {b : List Nat} {effs : List (Nat × AHeap)} {h0 : AHeap} : ∀ {os : List Oper} {rs : List Rec} {j : Nat} {ps : List Prop}, allStableC T cf hs b effs h0 j os rs = some ps → allP ps → allStableE T cf b effs h0 j os rs = true
  | [], _, _, _, _, _ => by unfold allStableE; rfl
  | _ :: _, [], _, _, _, _ => by unfold allStableE; rfl
  | o :: os, r :: rs, j, ps, e, hp => by
    obtain ⟨qs, k1, e⟩ := ob_some (x := stableC T cf (hintAt j hs) b effs h0 j o r) e
    obtain ⟨us, k2, e⟩ := ob_some (x := allStableC T cf hs b effs h0 (j + 1) os rs) e
    cases e
    obtain ⟨hq, hu⟩ := allP_app.1 hp
    unfold allStableE
    rw [stableC_ok k1 hq, allStableC_ok k2 hu]; rfl

def drawC (T : Tab) (cf : CallF) (hs : Hints) (ops : List Oper) (env : Env) (h : AHeap) : Option (Env × AHeap × List Prop) :=
  ob (traceC T cf hs ops ops 0 env h) fun y =>
    ck (edgesOkE ops) <| ck (tmpsOkE ops (beforeE [] ops)) <| ck (chainE (beforeE [] ops) (effsE 0 y.1)) <|
    ob (allStableC T cf hs (beforeE [] ops) (effsE 0 y.1) h 0 ops y.1) fun qs => some (y.2.1, y.2.2.1, y.2.2.2 ++ qs)

theorem drawC_ok {T : Tab} {cf : CallF} {hs : Hints} {ops : List Oper} {env : Env} {h : AHeap} {env' : Env} {h' : AHeap} {ps : List Prop} (e : drawC T cf hs ops env h = some (env', h', ps)) (hp : allP ps) : drawE T cf ops env h = some (env', h') := by
  obtain ⟨⟨rs, env2, h2, qs⟩, k1, e⟩ := ob_some (x := traceC T cf hs ops ops 0 env h) e
  obtain ⟨k2, e⟩ := ck_some e
  obtain ⟨k3, e⟩ := ck_some e
  obtain ⟨k4, e⟩ := ck_some e
  obtain ⟨us, k5, e⟩ := ob_some e
  cases e
  obtain ⟨hq, hu⟩ := allP_app.1 hp
  unfold drawE
  rw [traceC_ok k1 hq]
  have k6 := allStableC_ok k5 hu
  simp only [ob_of, k2, k3, k4, k6, ck]

/- ---------------------------------------------------------------- code -/
abbrev CodeC := Code → Env → AHeap → Option (Ex × Env × AHeap × List Prop)
abbrev HintsOf := List (Nat × Hints)

def hintsOf (id : Nat) (H : HintsOf) : Hints :=
  List.rec (motive := fun _ => Hints) [] (fun p _ r => Bool.rec (motive := fun _ => Hints) r p.2 (Nat.beq p.1 id)) H

def sC_seq (rc : CodeC) (env : Env) (h : AHeap) (a b : Code) : Option (Ex × Env × AHeap × List Prop) :=
  ob (rc a env h) fun y => match y.1 with
    | .normal => ob (rc b y.2.1 y.2.2.1) fun z => some (z.1, z.2.1, z.2.2.1, y.2.2.2 ++ z.2.2.2)
    | x => some (x, y.2)
def sC_cond (rc : CodeC) (env : Env) (h : AHeap) (c : Operand) (a b : Code) : Option (Ex × Env × AHeap × List Prop) :=
  ob (env.eval c) fun v => match v with
    | .bool true => rc a env h
    | .bool false => rc b env h
    | _ => none
def sC_block (rc : CodeC) (env : Env) (h : AHeap) (id : Nat) (a : Code) : Option (Ex × Env × AHeap × List Prop) :=
  ob (rc a env h) fun y => match y.1 with
    | .exit i => match Nat.beq i id with
      | true => some (.normal, y.2)
      | false => some (.exit i, y.2)
    | x => some (x, y.2)
def sC_loop (rc : CodeC) (env : Env) (h : AHeap) (a : Code) : Option (Ex × Env × AHeap × List Prop) :=
  ob (rc a env h) fun y => match y.1 with
    | .normal => ob (rc (.loop a) y.2.1 y.2.2.1) fun z => some (z.1, z.2.1, z.2.2.1, y.2.2.2 ++ z.2.2.2)
    | x => some (x, y.2)
def sC_region (T : Tab) (H : HintsOf) (cf : CallF) (env : Env) (h : AHeap) (id : Nat) (ops : Array Oper) (draw : Bool) : Option (Ex × Env × AHeap × List Prop) :=
  match draw with
  | false => ob (opsC T cf (hintsOf id H) ops.toList ops.toList 0 env h) fun y => some (.normal, y)
  | true => ob (drawC T cf (hintsOf id H) ops.toList env h) fun y => some (.normal, y)
def sC_scope (rc : CodeC) (env : Env) (h : AHeap) (a : Code) : Option (Ex × Env × AHeap × List Prop) := rc a env h

def stepC (T : Tab) (H : HintsOf) (rc : CodeC) (cf : CallF) (c : Code) (env : Env) (h : AHeap) : Option (Ex × Env × AHeap × List Prop) :=
  Code.casesOn (motive := fun _ => Option (Ex × Env × AHeap × List Prop)) c (some (.normal, env, h, [])) (sC_region T H cf env h) (sC_seq rc env h) (sC_cond rc env h) (sC_block rc env h) (sC_loop rc env h)
    (fun _ _ _ _ => none) (fun id => some (.exit id, env, h, [])) (sC_scope rc env h) (fun _ => some (.normal, env, h, [])) (fun _ => none) (some (.ret, env, h, [])) (fun _ => none)

def runC (T : Tab) (H : HintsOf) (n : Nat) : CodeC :=
  Nat.rec (motive := fun _ => CodeC) (fun _ _ _ => none) (fun k rc => stepC T H rc (callE (run T k) T)) n

theorem runC_ok {T : Tab} {H : HintsOf} : ∀ {n : Nat} {c : Code} {env : Env} {h : AHeap} {x : Ex} {env' : Env} {h' : AHeap} {ps : List Prop}, runC T H n c env h = some (x, env', h', ps) → allP ps → run T n c env h = some (x, env', h')
  | 0, _, _, _, _, _, _, _, e, _ => by cases e
  | n + 1, c, env, h, x, env', h', ps, e, hp => by
    have ih := @runC_ok T H n
    have e' : stepC T H (runC T H n) (callE (run T n) T) c env h = some (x, env', h', ps) := e
    show stepF T (run T n) (callE (run T n) T) c env h = some (x, env', h')
    rw [stepF_eq]
    cases c with
    | skip => cases e'; rfl
    | label _ => cases e'; rfl
    | ret => cases e'; rfl
    | exit _ => cases e'; rfl
    | scope a => exact ih e' hp
    | seq a b =>
      obtain ⟨⟨y, env2, h2, qs⟩, k1, e2⟩ := ob_some (x := runC T H n a env h) e'
      unfold stepE
      cases y with
      | normal =>
        obtain ⟨⟨z, env3, h3, us⟩, k2, e3⟩ := ob_some (x := runC T H n b env2 h2) e2
        cases e3
        obtain ⟨hq, hu⟩ := allP_app.1 hp
        dsimp only
        rw [ih k1 hq]
        exact ih k2 hu
      | exit i => cases e2; dsimp only; rw [ih k1 hp]; rfl
      | ret => cases e2; dsimp only; rw [ih k1 hp]; rfl
    | cond cv a b =>
      obtain ⟨v, k1, e2⟩ := ob_some (x := env.eval cv) e'
      unfold stepE
      dsimp only
      rw [k1]
      cases v <;> first | (cases e2; done) | skip
      rename_i bb
      cases bb with
      | true => exact ih e2 hp
      | false => exact ih e2 hp
    | block id a =>
      obtain ⟨⟨y, env2, h2, qs⟩, k1, e2⟩ := ob_some (x := runC T H n a env h) e'
      unfold stepE
      cases y with
      | normal => cases e2; dsimp only; rw [ih k1 hp]; rfl
      | ret => cases e2; dsimp only; rw [ih k1 hp]; rfl
      | exit i =>
        dsimp only at e2
        cases hb : Nat.beq i id with
        | true => rw [hb] at e2; cases e2; dsimp only; rw [ih k1 hp]; simp only [ob_of, hb]
        | false => rw [hb] at e2; cases e2; dsimp only; rw [ih k1 hp]; simp only [ob_of, hb]
    | loop a =>
      obtain ⟨⟨y, env2, h2, qs⟩, k1, e2⟩ := ob_some (x := runC T H n a env h) e'
      unfold stepE
      cases y with
      | normal =>
        obtain ⟨⟨z, env3, h3, us⟩, k2, e3⟩ := ob_some (x := runC T H n (.loop a) env2 h2) e2
        cases e3
        obtain ⟨hq, hu⟩ := allP_app.1 hp
        dsimp only
        rw [ih k1 hq]
        exact ih k2 hu
      | exit i => cases e2; dsimp only; rw [ih k1 hp]; rfl
      | ret => cases e2; dsimp only; rw [ih k1 hp]; rfl
    | region id ops draw =>
      cases draw with
      | false =>
        obtain ⟨⟨env2, h2, qs⟩, k1, e2⟩ := ob_some (x := opsC T (callE (run T n) T) (hintsOf id H) ops.toList ops.toList 0 env h) e'
        cases e2
        have := opsC_ok k1 hp
        unfold stepE
        dsimp only
        rw [this]; rfl
      | true =>
        obtain ⟨⟨env2, h2, qs⟩, k1, e2⟩ := ob_some (x := drawC T (callE (run T n) T) (hintsOf id H) ops.toList env h) e'
        cases e2
        have := drawC_ok k1 hp
        unfold stepE
        dsimp only
        rw [this]; rfl
    | _ => cases e'

end
end Go.Ev

/-
  A small evaluator of the model's programs: pieces by told outcomes, pieces ahead of more code, contracts of functions by pieces.
-/
namespace Go.Ev
open Go Go.RowKit
noncomputable section

variable {P : Program} {T T' : Tab} {B : Nat} {W w : World}

def outC (slots olds : List Nat) (r : Option (Ex × Env × AHeap × List Prop)) : Option (Ex × Nat × List (Option AV) × List (Option AObj) × List Prop) :=
  ob r fun y => some (y.1, y.2.1.size, slots.map y.2.1.get, olds.map y.2.2.1.get, y.2.2.2)

def back (g : Nat) (olds : List Nat) (pl : Bool) (x : AV) : AV :=
  Bool.rec (motive := fun _ => AV) (ren (oldName g olds) x) x pl
def okB (n : Nat) (pl : Bool) (x : AV) : Prop :=
  Bool.rec (motive := fun _ => Prop) (allN (fun l => Nat.blt l n) x = true) (allN noNames x = true) pl
def backO (g : Nat) (olds : List Nat) (pl : Bool) : AObj → AObj
  | .row cs opn fz wr => .row (Bool.rec (motive := fun _ => List AV) (rens (oldName g olds) cs) cs pl) opn fz wr
  | o => o
def okO (n : Nat) (pl : Bool) : AObj → Prop
  | .row cs _ _ _ => Bool.rec (motive := fun _ => Prop) (allNs (fun l => Nat.blt l n) cs = true) (allNs noNames cs = true) pl
  | .dead => True
  | _ => False
def okBs (n : Nat) : List (Bool × Nat × AV) → Prop
  | [] => True
  | y :: r => okB n y.1 y.2.2 ∧ okBs n r
def okOs (n : Nat) : List (Bool × AObj) → Prop
  | [] => True
  | y :: r => okO n y.1 y.2 ∧ okOs n r

theorem holdsAt_of {g : Nat} {olds : List Nat} {n : Nat} {env : Env} : ∀ {L : List (Bool × Nat × AV)}, (L.map (fun y => y.2.1)).map env.get = L.map (fun y => some (back g olds y.1 y.2.2)) → okBs n L → holdsAt g olds n env (L.map (fun y => y.2))
  | [], _, _ => trivial
  | (pl, t, x) :: r, e, ⟨h1, h2⟩ => by
    simp only [List.map_cons, List.cons.injEq] at e
    refine ⟨?_, holdsAt_of (L := r) e.2 h2⟩
    cases pl with
    | true => exact .inl ⟨e.1, h1⟩
    | false => exact .inr ⟨e.1, h1⟩

theorem likeObjs_of {g : Nat} {olds0 : List Nat} {n : Nat} {h : AHeap} : ∀ {O : List (Bool × AObj)} {olds : List Nat}, olds.map h.get = O.map (fun y => some (backO g olds0 y.1 y.2)) → okOs n O → likeObjs h (oldName g olds0) (fun l => Nat.blt l n) (O.map (fun y => y.2)) olds
  | [], [], _, _ => trivial
  | [], _ :: _, e, _ => by simp at e
  | _ :: _, [], e, _ => by simp at e
  | (pl, o) :: r, l :: ls, e, ⟨h1, h2⟩ => by
    simp only [List.map_cons, List.cons.injEq] at e
    refine ⟨⟨_, e.1, ?_⟩, likeObjs_of e.2 h2⟩
    cases o with
    | row cs opn fz wr =>
      cases pl with
      | true => exact ⟨.inl ⟨rfl, h1⟩, Nat.le_refl _, fun h => h⟩
      | false => exact ⟨.inr ⟨rfl, h1⟩, Nat.le_refl _, fun h => h⟩
    | dead => simp [backO, likeObj]
    | amap _ _ => exact False.elim h1
    | siter _ _ => exact False.elim h1

theorem Leads.ofC {H : HintsOf} {N : Nat} {c : Code} {depE depH n : Nat} {σ : St} {x : Ex} {olds : List Nat} {L : List (Bool × Nat × AV)} {O : List (Bool × AObj)} {ps : List Prop}
    (hr : outC (L.map (fun y => y.2.1)) olds (runC T H N c (envL T.glob depE n σ.live) (heapL T.glob depH σ.objs)) = some (x, n, L.map (fun y => some (back T.glob olds y.1 y.2.2)), O.map (fun y => some (backO T.glob olds y.1 y.2)), ps))
    (hp : allP ps) (hl : okBs (T.glob + O.length) L) (ho : okOs (T.glob + O.length) O) (h6 : apartE (O.map (fun y => y.2)) olds = true) (h7 : T.glob + O.length + 1 ≤ 2 ^ depH) (h8 : T.glob + O.length ≤ PT.room) :
    Leads T N c depE depH n σ x ⟨L.map (fun y => y.2), O.map (fun y => y.2)⟩ olds := by
  obtain ⟨⟨x0, env, h, qs⟩, k1, k2⟩ := ob_some hr
  simp only [Option.some.injEq, Prod.mk.injEq] at k2
  obtain ⟨rfl, k3, k4, k5, rfl⟩ := k2
  refine ⟨⟨env, h, runC_ok k1 hp, k3, ?_, ?_⟩, h6, by simpa using h7, by simpa using h8⟩
  · have := holdsAt_of k4 hl
    simpa using this
  · have := likeObjs_of k5 ho
    simpa using this

/- ---------------------------------------------------------------- a piece ahead of more code -/
def takeSeq : Nat → Code → Code
  | 0, _ => .skip
  | m + 1, .seq a b => .seq a (takeSeq m b)
  | _ + 1, _ => .goto 0
def dropSeq : Nat → Code → Code
  | 0, c => c
  | m + 1, c => dropSeq m (rgt c)

theorem then_ne {e : Exit} (h : e ≠ .normal) {K : Act → World → Prop} {Q : Exit → Act → World → Prop} {a : Act} {w : World} : Exit.then K Q e a w ↔ Q e a w := by
  cases e <;> first | exact absurd rfl h | exact Iff.rfl

theorem run_pre (k : FullOk P T) : ∀ (m : Nat) {N : Nat} {c : Code} {env : Env} {h : AHeap} {x : Ex} {env' : Env} {h' : AHeap}, run T N (takeSeq m c) env h = some (x, env', h') →
    ∀ (B : Nat) (W : World) (φ : Phi) (a : Act) (w : World) (Q : Exit → Act → World → Prop), EnvR φ env a → Sim B W φ h w → GlobOk φ T.glob → a.defers = [] →
    (∀ φ' a' w', φ.le φ' → EnvR φ' env' a' → a'.defers = [] → Sim B W φ' h' w' → Exit.then ((dropSeq m c).wp P Q) Q x.to a' w') → c.wp P Q a w
  | 0, N, c, env, h, x, env', h', e, B, W, φ, a, w, Q, ke, s, kg, hd, hQ => by
    cases N with
    | zero => cases e
    | succ N =>
      have e' : some (Ex.normal, env, h) = some (x, env', h') := e
      cases e'
      exact hQ φ a w (Phi.le_refl φ) ke hd s
  | m + 1, N, c, env, h, x, env', h', e, B, W, φ, a, w, Q, ke, s, kg, hd, hQ => by
    cases N with
    | zero => cases e
    | succ N =>
    cases c with
    | seq c1 c2 =>
      have e' : stepF T (run T N) (callE (run T N) T) (.seq c1 (takeSeq m c2)) env h = some (x, env', h') := e
      rw [stepF_eq] at e'
      obtain ⟨⟨y, env1, h1⟩, k1, e2⟩ := ob_some (x := run T N c1 env h) e'
      refine wp_seq ((runOk k N).1 c1 env h y env1 h1 k1 B W φ a w _ ke s kg hd fun φ1 a1 w1 hle ke1 hd1 s1 => ?_)
      cases y with
      | normal =>
        refine run_pre k m (c := c2) e2 B W φ1 a1 w1 Q ke1 s1 (kg.mono hle) hd1 fun φ2 a2 w2 hle2 ke2 hd2 s2 => ?_
        exact hQ φ2 a2 w2 (Phi.le_trans hle hle2) ke2 hd2 s2
      | exit i => cases e2; exact hQ φ1 a1 w1 hle ke1 hd1 s1
      | ret => cases e2; exact hQ φ1 a1 w1 hle ke1 hd1 s1
    | _ => cases e

theorem Leads.pre (k : FullOk P T) {m N : Nat} {c : Code} {depE depH n : Nat} {σ σ' : St} {x : Ex} {olds : List Nat} (l : Leads T N (takeSeq m c) depE depH n σ x σ' olds) {a : Act} (i : InSt B W T.glob depE depH n σ a w)
    {Q : Exit → Act → World → Prop} (hQ : ∀ a' w', InSt B W T.glob depE depH n σ' a' w' → Exit.then ((dropSeq m c).wp P Q) Q x.to a' w') : c.wp P Q a w := by
  obtain ⟨φ, ke, s, kg⟩ := i.st
  obtain ⟨env, h, hrun, hs, hh, ho⟩ := l.out
  refine run_pre k m hrun B W φ a w Q ke s kg i.defers fun φ' a' w' hle ke' hd' s' => hQ a' w' ⟨⟨phiL φ' T.glob olds (T.glob + σ'.objs.length), ?_, ?_, ?_⟩, hd'⟩
  · exact ke'.canon hs (kg.mono hle) (Nat.le_add_right _ _) hh
  · exact s'.canon (kg.mono hle) l.fits l.room ho l.apart
  · exact GlobOk.canon (kg.mono hle) (Nat.le_add_right _ _)

/- it goes on behind the piece -/
theorem Leads.on (k : FullOk P T) {m N : Nat} {c : Code} {depE depH n : Nat} {σ σ' : St} {olds : List Nat} (l : Leads T N (takeSeq m c) depE depH n σ .normal σ' olds) {a : Act} (i : InSt B W T.glob depE depH n σ a w)
    {Q : Exit → Act → World → Prop} (hQ : ∀ a' w', InSt B W T.glob depE depH n σ' a' w' → (dropSeq m c).wp P Q a' w') : c.wp P Q a w := Leads.pre k l i hQ
/- a loop in its block: n rounds, and out -/
theorem loop_of {P : Program} {T : Tab} (k : FullOk P T) {N id : Nat} {c : Code} (hc : c = .block (idOf c) (lft c)) (hl : lft c = .loop (lft (lft c))) (hid : idOf c = id) {depE depH n : Nat} (σ : Nat → St) {σ' : St} (r : Nat)
    (step : ∀ i, i < r → ∃ olds, Leads T N (lft (lft c)) depE depH n (σ i) .normal (σ (i + 1)) olds) (stop : ∃ olds', Leads T N (lft (lft c)) depE depH n (σ r) (.exit id) σ' olds')
    {B : Nat} {W w : World} {a : Act} (i : InSt B W T.glob depE depH n (σ 0) a w) {Q : Exit → Act → World → Prop} (hQ : ∀ a' w', InSt B W T.glob depE depH n σ' a' w' → Q .normal a' w') : c.wp P Q a w := by
  refine as_block hc ?_
  refine as_loop hl (r + 1) ?_
  refine rounds_of (fun j a w => InSt B W T.glob depE depH n (σ j) a w) r ?_ ?_ r 0 (Nat.zero_add r) a w i
  · intro j hj a w i K hK
    obtain ⟨olds, l⟩ := step j hj
    exact Leads.wp k l i hK
  · intro a w i K
    obtain ⟨_, stop⟩ := stop
    refine Leads.wp k stop i fun a' w' i' => ?_
    show Exit.inBlock (idOf c) Q (.exit id) a' w'
    rw [hid]
    simp only [Exit.inBlock, if_pos]
    exact hQ a' w' i'

/- ---------------------------------------------------------------- contracts -/
def argLive (i : Nat) : List AV → List (Nat × AV)
  | [] => []
  | a :: as => (i, a) :: argLive (i + 1) as

theorem argLive_get : ∀ {as : List AV} {i t : Nat} {x : AV}, (t, x) ∈ argLive i as → i ≤ t ∧ as[t - i]? = some x
  | [], _, _, _, h => by cases h
  | a :: as, i, t, x, h => by
    rcases List.mem_cons.1 h with e | h
    · cases e; simp
    · obtain ⟨h1, h2⟩ := argLive_get h
      refine ⟨by omega, ?_⟩
      have : t - i = (t - (i + 1)) + 1 := by omega
      rw [this, List.getElem?_cons_succ]; exact h2

theorem EnvR.args {φ : Phi} {args : List AV} {args' : List Value} (hr : VRs φ args args') {n g dep : Nat} (hn : args.length ≤ n) (hroom : n ≤ PT.room) (kg : GlobOk φ g) :
    EnvR φ (envL g dep n (argLive 0 args)) { tmps := args'.toArray ++ Array.replicate (n - args'.toArray.size) Go.undef, defers := [] } := by
  have hl := hr.length
  refine ⟨by simp [envL]; omega, hroom, fun t x hx => ?_, fun t ht => ?_, kg⟩
  · obtain ⟨_, hm⟩ := envL_get hx
    obtain ⟨_, h2⟩ := argLive_get hm
    obtain ⟨v, hv, hvr⟩ := hr.get _ x h2
    have ht : t < args.length := by
      have := (List.getElem?_eq_some_iff.1 h2).1; omega
    have : (args'.toArray ++ Array.replicate (n - args'.toArray.size) Go.undef).getD t Go.undef = v := by
      rw [Array.getD_eq_getD_getElem?, Array.getElem?_append_left (by simp; omega)]
      have hv' : args'[t]? = some v := by simpa using hv
      simp [hv']
    rw [this]; exact hvr
  · cases hx : (envL g dep n (argLive 0 args)).get t with
    | none => rfl
    | some x =>
      have h1 := (envL_get hx).1
      have ht' : n ≤ t := ht
      omega

def roAll : List AObj → Prop
  | [] => True
  | .row _ _ _ false :: r => roAll r
  | .dead :: r => roAll r
  | _ => False

theorem roAll_wr : ∀ {os : List AObj}, roAll os → ∀ (i : Nat) (o : AObj), os[i]? = some o → o.wr = false
  | [], _, i, o, e => by simp at e
  | .row _ _ _ wr :: r, h, i, o, e => by
    cases wr with
    | true => exact False.elim h
    | false =>
      cases i with
      | zero => simp at e; subst e; rfl
      | succ i => exact roAll_wr (os := r) h i o (by simpa using e)
  | .dead :: r, h, i, o, e => by
    cases i with
    | zero => simp at e; subst e; rfl
    | succ i => exact roAll_wr (os := r) h i o (by simpa using e)
  | .amap _ _ :: _, h, _, _, _ => False.elim h
  | .siter _ _ :: _, h, _, _, _ => False.elim h

theorem roAll_apart : ∀ {os : List AObj} {ls : List Nat}, roAll os → apartE os ls = true
  | [], _, _ => by unfold apartE; rfl
  | _ :: _, [], _ => by unfold apartE; rfl
  | o :: os, l :: ls, h => by
    have hw := roAll_wr h
    have h1 : o.wr = false := hw 0 o (by simp)
    have h2 : roAll os := by
      cases o with
      | row _ _ _ wr => cases wr with | true => exact False.elim h | false => exact h
      | dead => exact h
      | amap _ _ => exact False.elim h
      | siter _ _ => exact False.elim h
    unfold apartE
    rw [roAll_apart h2, Bool.and_true, List.all_eq_true]
    rintro ⟨o', l'⟩ hm
    obtain ⟨i, hi⟩ := List.mem_iff_getElem?.1 hm
    have := (List.getElem?_zip_eq_some.1 hi).1
    have h3 : o'.wr = false := hw (i + 1) o' (by simpa using this)
    simp [h1, h3]

/- a body's end, at which it gives such a value -/
def Gives (T : Tab) (fn : Func) (v : AV) (B : Nat) (W : World) (depE depH n : Nat) : Exit → Act → World → Prop := fun e a w =>
  (e = .normal ∨ e = .ret) ∧ ∃ σ vs, InSt B W T.glob depE depH n σ a w ∧ resultE T (envL T.glob depE n σ.live) (heapL T.glob depH σ.objs) fn.results.toList = some vs ∧ tupleE vs = v

/- memory and arguments as a function's body meets them: of what was there, so much -/
structure Meets (g : Nat) (h : AHeap) (args : List AV) (depH n : Nat) (objs : List AObj) (olds : List Nat) (args1 : List AV) : Prop where
  like : likeObjs h (oldName g olds) (fun l => Nat.blt l (g + objs.length)) objs olds
  ro : roAll objs
  args : args = rens (oldName g olds) args1
  names : allNs (fun l => Nat.blt l (g + objs.length)) args1 = true
  fits : g + objs.length + 1 ≤ 2 ^ depH
  room : g + objs.length ≤ PT.room
  len : args1.length ≤ n

theorem VRs.canon {φ : Phi} {g : Nat} {olds : List Nat} {n : Nat} : ∀ {as : List AV} {vs : List Value}, VRs φ (rens (oldName g olds) as) vs → allNs (fun l => Nat.blt l n) as = true → VRs (phiL φ g olds n) as vs
  | [], _, h, _ => by simpa [VRs, rens] using h
  | a :: as, vs, h, ha => by
    simp only [rens, VRs] at h
    obtain ⟨v, r, rfl, h1, h2⟩ := h
    simp only [allNs, Bool.and_eq_true] at ha
    exact VRs.cons (VR.canon h1 (.inr ⟨rfl, ha.1⟩)) (VRs.canon h2 ha.2)

theorem PurOk.of (k : FullOk P T') (hg : T.glob = T'.glob) {f : FuncId} {fn : Func} {c : Code} {n depE depH : Nat} (hfn : T'.fn.get f = some fn) (hb : fn.body = some c) (hn : fn.ntmps = n) (hroom : n ≤ PT.room) {p : Pf}
    (H : ∀ args h v, p args h = some v → allN noNames v = true ∧ ∃ objs olds args1, Meets T'.glob h args depH n objs olds args1 ∧
      ∀ B W a w, InSt B W T'.glob depE depH n ⟨argLive 0 args1, objs⟩ a w → c.wp P (Gives T' fn v B W depE depH n) a w) : PurOk P T f p := by
  obtain ⟨hfn2, hen⟩ := k.fn f fn hfn
  refine ⟨hen, fun args h v e B W φ w args' s hr kg => ?_⟩
  obtain ⟨hv, objs, olds, args1, m, hbody⟩ := H args h v e
  have kg' : GlobOk φ T'.glob := hg ▸ kg
  have s0 := s.canon kg' m.fits m.room m.like (roAll_apart m.ro)
  have get := heapL_get (g := T'.glob) (dep := depH) (objs := objs) m.fits
  have s1 := s0.anew fun l o hl => by
    rw [get l] at hl
    by_cases hlg : l < T'.glob
    · rw [if_pos hlg] at hl; cases hl; rfl
    · rw [if_neg hlg] at hl; exact roAll_wr m.ro _ o hl
  have kg1 := GlobOk.canon (olds := olds) kg' (Nat.le_add_right T'.glob objs.length)
  have hr1 : VRs (phiL φ T'.glob olds (T'.glob + objs.length)) args1 args' := VRs.canon (m.args ▸ hr) m.names
  refine calls_of_wp hfn2 hb ?_
  rw [hn]
  refine wp_mono (hbody w.heap.size w _ w ⟨⟨_, EnvR.args hr1 m.len hroom kg1, s1, kg1⟩, rfl⟩) ?_
  rintro ex a' w' ⟨hex, σ, vs, i, hres, hvs⟩
  obtain ⟨φ', ke, s', kg2⟩ := i.st
  obtain ⟨v', hv', hvr⟩ := results_run (P := P) k.tab s' ke hres
  rw [hvs] at hvr
  rcases hex with rfl | rfl <;> exact ⟨i.defers, v', hv', v', φ, rfl, Phi.le_refl φ, VR.plain hv hvr, s.framed s'.below⟩

/- of another table with as many globals -/
theorem PurOk.again {f : FuncId} {p : Pf} (k : PurOk P T f p) (hg : T'.glob = T.glob) : PurOk P T' f p :=
  ⟨k.enter, fun args h v e B W φ w args' s hr kg => k.run args h v e B W φ w args' s hr (hg ▸ kg)⟩

end
end Go.Ev

/-
  A small evaluator of the model's programs: what operations owe: lemmas.
-/
namespace Go.Ev
open Go Go.RowKit
noncomputable section

variable {T : Tab}

theorem blt_of {a b : Nat} (h : a < b) : Nat.blt a b = true := Nat.ble_eq_true_of_le h
theorem blt_not {a b : Nat} (h : b ≤ a) : Nat.blt a b = false := by
  cases e : Nat.blt a b with
  | false => rfl
  | true => exact absurd (Nat.le_of_ble_eq_true e) (by omega)
theorem ble_of {a b : Nat} (h : a ≤ b) : Nat.ble a b = true := Nat.ble_eq_true_of_le h
theorem ble_not {a b : Nat} (h : b < a) : Nat.ble a b = false := by
  cases e : Nat.ble a b with
  | false => rfl
  | true => exact absurd (Nat.le_of_ble_eq_true e) (by omega)

/- in any memory, by what it comes to -/
theorem vc_eq1 {x : XOp} {v : AV} (o : Option AV) (e : ∀ cf h, doX T cf x h = vo o) (ho : o = some v) : ∀ cf h, doX T cf x h = some (v, none) := fun cf h => by rw [e cf h, ho]; rfl
theorem vc_eq2 {x : XOp} {v : AV} {h : AHeap} (o : Option AV) (e : ∀ cf, doX T cf x h = vo o) (ho : o = some v) : ∀ cf, doX T cf x h = some (v, none) := fun cf => by rw [e cf, ho]; rfl
theorem vc_eqr1 {x : XOp} {r : OpR} (o : Option OpR) (e : ∀ cf h, doX T cf x h = o) (ho : o = some r) : ∀ cf h, doX T cf x h = some r := fun cf h => by rw [e cf h, ho]
theorem vc_eqr2 {x : XOp} {r : OpR} {h : AHeap} (o : Option OpR) (e : ∀ cf, doX T cf x h = o) (ho : o = some r) : ∀ cf, doX T cf x h = some r := fun cf => by rw [e cf, ho]
theorem vc_ia {x : XOp} {b : Bool} {l q q' : Nat} (e : ∀ cf h, doX T cf x h = vo (ck b (some (.ptr l q)))) (hb : b = true) (hq : q = q') : ∀ cf h, doX T cf x h = some (.ptr l q', none) := fun cf h => by
  rw [e cf h, hb, ← hq]; rfl

theorem wrap64 {m : Nat} (h : m < 9223372036854775808) : wrapE .i64 (Int.ofNat m) = Int.ofNat m := by
  show backE .i64 (m % 18446744073709551616) = _
  rw [Nat.mod_eq_of_lt (by omega)]
  unfold backE IntKind.sgn IntKind.modulus
  have : Nat.ble 18446744073709551616 (2 * m) = false := ble_not (by omega)
  simp only [this]

theorem vc_add {kc : Bool} {t a b c : Nat} (h : a + b < 9223372036854775808) (hc : a + b = c) : ∀ cf hp, doX T cf (.bin kc .add t (.int .i64 (.ofNat a)) (.int .i64 (.ofNat b))) hp = some (.int .i64 (.ofNat c), none) := fun cf hp => by
  subst hc
  show vo (some (AV.int .i64 (wrapE .i64 (Int.ofNat a + Int.ofNat b)))) = _
  have e : Int.ofNat a + Int.ofNat b = Int.ofNat (a + b) := rfl
  rw [e, wrap64 h]; rfl
theorem vc_sub {kc : Bool} {t a b c : Nat} (h : a < 9223372036854775808) (hc : b + c = a) : ∀ cf hp, doX T cf (.bin kc .sub t (.int .i64 (.ofNat a)) (.int .i64 (.ofNat b))) hp = some (.int .i64 (.ofNat c), none) := fun cf hp => by
  subst hc
  show vo (some (AV.int .i64 (wrapE .i64 (Int.ofNat (b + c) - Int.ofNat b)))) = _
  have e : Int.ofNat (b + c) - Int.ofNat b = Int.ofNat c := by simp; omega
  rw [e, wrap64 (by omega)]; rfl
theorem vc_mul {kc : Bool} {t a b c : Nat} (h : c < 9223372036854775808) (hc : a * b = c) : ∀ cf hp, doX T cf (.bin kc .mul t (.int .i64 (.ofNat a)) (.int .i64 (.ofNat b))) hp = some (.int .i64 (.ofNat c), none) := fun cf hp => by
  subst hc
  show vo (some (AV.int .i64 (wrapE .i64 (Int.ofNat a * Int.ofNat b)))) = _
  have e : Int.ofNat a * Int.ofNat b = Int.ofNat (a * b) := rfl
  rw [e, wrap64 h]; rfl

theorem vc_lss_t {kc : Bool} {t a b : Nat} (h : a < b) : ∀ cf hp, doX T cf (.bin kc .lss t (.int .i64 (.ofNat a)) (.int .i64 (.ofNat b))) hp = some (.bool true, none) := fun cf hp => by
  show vo (some (AV.bool (Nat.blt a b))) = _; rw [blt_of h]; rfl
theorem vc_lss_f {kc : Bool} {t a b : Nat} (h : b ≤ a) : ∀ cf hp, doX T cf (.bin kc .lss t (.int .i64 (.ofNat a)) (.int .i64 (.ofNat b))) hp = some (.bool false, none) := fun cf hp => by
  show vo (some (AV.bool (Nat.blt a b))) = _; rw [blt_not h]; rfl
theorem vc_gtr_t {kc : Bool} {t a b : Nat} (h : b < a) : ∀ cf hp, doX T cf (.bin kc .gtr t (.int .i64 (.ofNat a)) (.int .i64 (.ofNat b))) hp = some (.bool true, none) := fun cf hp => by
  show vo (some (AV.bool (Nat.blt b a))) = _; rw [blt_of h]; rfl
theorem vc_gtr_f {kc : Bool} {t a b : Nat} (h : a ≤ b) : ∀ cf hp, doX T cf (.bin kc .gtr t (.int .i64 (.ofNat a)) (.int .i64 (.ofNat b))) hp = some (.bool false, none) := fun cf hp => by
  show vo (some (AV.bool (Nat.blt b a))) = _; rw [blt_not h]; rfl
theorem vc_leq_t {kc : Bool} {t a b : Nat} (h : a ≤ b) : ∀ cf hp, doX T cf (.bin kc .leq t (.int .i64 (.ofNat a)) (.int .i64 (.ofNat b))) hp = some (.bool true, none) := fun cf hp => by
  show vo (some (AV.bool (!Nat.blt b a))) = _; rw [blt_not h]; rfl
theorem vc_leq_f {kc : Bool} {t a b : Nat} (h : b < a) : ∀ cf hp, doX T cf (.bin kc .leq t (.int .i64 (.ofNat a)) (.int .i64 (.ofNat b))) hp = some (.bool false, none) := fun cf hp => by
  show vo (some (AV.bool (!Nat.blt b a))) = _; rw [blt_of h]; rfl
theorem vc_geq_t {kc : Bool} {t a b : Nat} (h : b ≤ a) : ∀ cf hp, doX T cf (.bin kc .geq t (.int .i64 (.ofNat a)) (.int .i64 (.ofNat b))) hp = some (.bool true, none) := fun cf hp => by
  show vo (some (AV.bool (!Nat.blt a b))) = _; rw [blt_not h]; rfl
theorem vc_geq_f {kc : Bool} {t a b : Nat} (h : a < b) : ∀ cf hp, doX T cf (.bin kc .geq t (.int .i64 (.ofNat a)) (.int .i64 (.ofNat b))) hp = some (.bool false, none) := fun cf hp => by
  show vo (some (AV.bool (!Nat.blt a b))) = _; rw [blt_of h]; rfl
theorem vc_eql_t {kc : Bool} {t a b : Nat} (h : a = b) : ∀ cf hp, doX T cf (.bin kc .eql t (.int .i64 (.ofNat a)) (.int .i64 (.ofNat b))) hp = some (.bool true, none) := fun cf hp => by
  show vo (some (AV.bool (Nat.beq a b))) = _; rw [beq_yes h]; rfl
theorem vc_eql_f {kc : Bool} {t a b : Nat} (h : a ≠ b) : ∀ cf hp, doX T cf (.bin kc .eql t (.int .i64 (.ofNat a)) (.int .i64 (.ofNat b))) hp = some (.bool false, none) := fun cf hp => by
  show vo (some (AV.bool (Nat.beq a b))) = _; rw [beq_no h]; rfl
theorem vc_neq_t {kc : Bool} {t a b : Nat} (h : a ≠ b) : ∀ cf hp, doX T cf (.bin kc .neq t (.int .i64 (.ofNat a)) (.int .i64 (.ofNat b))) hp = some (.bool true, none) := fun cf hp => by
  show vo (some (AV.bool (!Nat.beq a b))) = _; rw [beq_no h]; rfl
theorem vc_neq_f {kc : Bool} {t a b : Nat} (h : a = b) : ∀ cf hp, doX T cf (.bin kc .neq t (.int .i64 (.ofNat a)) (.int .i64 (.ofNat b))) hp = some (.bool false, none) := fun cf hp => by
  show vo (some (AV.bool (!Nat.beq a b))) = _; rw [beq_yes h]; rfl

theorem vc_cat {kc : Bool} {t : Nat} {a b c : List UInt8} (h : a.length + b.length ≤ strMax) (hc : a ++ b = c) : ∀ cf hp, doX T cf (.bin kc .add t (.str a) (.str b)) hp = some (.str c, none) := fun cf hp => by
  subst hc
  show vo (ck (Nat.ble (a.length + b.length) strMax) (some (AV.str (a ++ b)))) = _
  rw [ble_of h]; rfl
theorem strEq_t {a b : List UInt8} (h : a = b) : strEq a b = true := by rw [strEq_eq]; simp [h]
theorem strEq_f {a b : List UInt8} (h : a ≠ b) : strEq a b = false := by rw [strEq_eq]; simp [h]
theorem vc_seql {kc c : Bool} {t : Nat} {a b : List UInt8} (h : decide (a = b) = c) : ∀ cf hp, doX T cf (.bin kc .eql t (.str a) (.str b)) hp = some (.bool c, none) := fun cf hp => by
  show vo (some (AV.bool (strEq a b))) = _; rw [strEq_eq, ← h]
  by_cases e : a = b <;> simp [e, vo, ob]
theorem vc_sneq {kc c : Bool} {t : Nat} {a b : List UInt8} (h : decide (a ≠ b) = c) : ∀ cf hp, doX T cf (.bin kc .neq t (.str a) (.str b)) hp = some (.bool c, none) := fun cf hp => by
  show vo (some (AV.bool (!strEq a b))) = _; rw [strEq_eq, ← h]
  by_cases e : a = b <;> simp [e, vo, ob]

/- ---------------------------------------------------------------- rows of a list -/
def rowOf {α : Type} (f : α → List AV) : List α → List AV
  | [] => []
  | a :: l => f a ++ rowOf f l

theorem rowOf_app {α : Type} (f : α → List AV) : ∀ (l m : List α), rowOf f (l ++ m) = rowOf f l ++ rowOf f m
  | [], m => rfl
  | a :: l, m => by simp [rowOf, rowOf_app f l m]
theorem rowOf_len {α : Type} {f : α → List AV} {k : Nat} (hf : ∀ a, (f a).length = k) : ∀ (l : List α), (rowOf f l).length = l.length * k
  | [] => by simp [rowOf]
  | a :: l => by simp [rowOf, hf, rowOf_len hf l, Nat.succ_mul, Nat.add_comm]
theorem rowOf_plain {α : Type} {f : α → List AV} (hf : ∀ a, allNs noNames (f a) = true) : ∀ (l : List α), allNs noNames (rowOf f l) = true := by
  have app : ∀ (xs ys : List AV), allNs noNames xs = true → allNs noNames ys = true → allNs noNames (xs ++ ys) = true := by
    intro xs
    induction xs with
    | nil => intro ys _ h; exact h
    | cons x xs ih => intro ys h1 h2; simp only [allNs, List.cons_append, Bool.and_eq_true] at h1 ⊢; exact ⟨h1.1, ih ys h1.2 h2⟩
  intro l
  induction l with
  | nil => rfl
  | cons a l ih => exact app _ _ (hf a) ih
theorem allOne_app : ∀ {xs ys : List AV}, allOne xs = true → allOne ys = true → allOne (xs ++ ys) = true
  | [], _, _, h => h
  | x :: xs, ys, h1, h2 => by
    simp only [allOne, List.cons_append] at h1 ⊢
    cases hx : x.oneCell with
    | true => rw [hx] at h1; exact allOne_app (xs := xs) h1 h2
    | false => rw [hx] at h1; cases h1
theorem rowOf_one {α : Type} {f : α → List AV} (hf : ∀ a, allOne (f a) = true) : ∀ (l : List α), allOne (rowOf f l) = true
  | [] => rfl
  | a :: l => allOne_app (hf a) (rowOf_one hf l)
theorem rowOf_at {α : Type} {f : α → List AV} {k : Nat} (hf : ∀ a, (f a).length = k) : ∀ {l : List α} {i : Nat} {a : α}, l[i]? = some a → takeAt (rowOf f l) (i * k) k = f a
  | [], i, a, e => by simp at e
  | b :: l, 0, a, e => by
    simp at e; subst e
    simp only [Nat.zero_mul, takeAt, List.drop_zero, rowOf]
    rw [List.take_append_of_le_length (by rw [hf]; exact Nat.le_refl _), List.take_of_length_le (by rw [hf]; exact Nat.le_refl _)]
  | b :: l, i + 1, a, e => by
    have ih := rowOf_at hf (l := l) (i := i) (by simpa using e)
    unfold takeAt at ih ⊢
    rw [← ih]
    simp only [rowOf, Nat.succ_mul]
    rw [Nat.add_comm, ← List.drop_drop]
    congr 2
    rw [List.drop_append_of_le_length (by rw [hf]; exact Nat.le_refl _), List.drop_of_length_le (by rw [hf]; exact Nat.le_refl _)]; rfl
theorem rowOf_get {α : Type} {f : α → AV} : ∀ {l : List α} {i : Nat} {a : α}, l[i]? = some a → (rowOf (fun a => [f a]) l)[i]? = some (f a)
  | [], i, a, e => by simp at e
  | b :: l, 0, a, e => by simp at e; subst e; rfl
  | b :: l, i + 1, a, e => rowOf_get (l := l) (i := i) (by simpa using e)

def strC (s : List UInt8) : List AV := [.str s]
theorem bytesE_app : ∀ (a b : List UInt8), bytesE (a ++ b) = bytesE a ++ bytesE b
  | [], b => rfl
  | x :: a, b => by simp [bytesE, bytesE_app a b]
theorem bytesE_len : ∀ (a : List UInt8), (bytesE a).length = a.length
  | [] => rfl
  | x :: a => by simp [bytesE, bytesE_len a]
theorem bytesE_plain : ∀ (a : List UInt8), allNs noNames (bytesE a) = true
  | [] => rfl
  | x :: a => by simp [bytesE, allNs, allN, bytesE_plain a]
theorem bytesE_one : ∀ (a : List UInt8), allOne (bytesE a) = true
  | [] => rfl
  | x :: a => by simp [bytesE, allOne, AV.oneCell, bytesE_one a]
theorem unbytesE_bytesE : ∀ (a : List UInt8), unbytesE (bytesE a) = some a
  | [] => rfl
  | x :: a => by simp [bytesE, unbytesE, unbytesE_bytesE a, ob]

end
end Go.Ev
