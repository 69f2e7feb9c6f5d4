/-
  A small evaluator of the model's programs, part 4 of 4: definitions and their soundness.
-/
import Derived.Test.YtmlipbpbbjkigaaGreatDoorEvc
import Derived.ChangeArms
import Derived.OpenShut
import Derived.ReadAgain
import Derived.Below
import Derived.ChangeSame
import Derived.FnData
import Derived.SizedLaws
set_option linter.unusedVariables false
set_option linter.unusedSimpArgs false
set_option maxHeartbeats 2000000
/-
  A small evaluator of the model's programs: what operations owe: appends, texts of bytes.
-/
namespace Go.Ev
open Go Go.RowKit
noncomputable section

variable {T : Tab}

theorem repE_len (z : List AV) : ∀ n, (repE z n).length = n * z.length
  | 0 => by simp [repE]
  | n + 1 => by simp [repE, repE_len z n, Nat.succ_mul, Nat.add_comm]
theorem repE_add (z : List AV) : ∀ a b, repE z (a + b) = repE z a ++ repE z b
  | 0, b => by simp [repE]
  | a + 1, b => by
    have : a + 1 + b = (a + b) + 1 := by omega
    rw [this]; simp [repE, repE_add z a b]
theorem repE_plain {z : List AV} (hz : allNs noNames z = true) : ∀ n, allNs noNames (repE z n) = true
  | 0 => rfl
  | n + 1 => by
    have := rowOf_plain (f := fun (_ : Unit) => z) (fun _ => hz) (List.replicate (n + 1) ())
    have e : ∀ n, rowOf (fun (_ : Unit) => z) (List.replicate n ()) = repE z n := by
      intro n; induction n with
      | zero => rfl
      | succ n ih => simp [List.replicate_succ, rowOf, repE, ih]
    rw [e] at this; exact this
theorem plain_app : ∀ {xs ys : List AV}, allNs noNames xs = true → allNs noNames ys = true → allNs noNames (xs ++ ys) = true
  | [], _, _, h => h
  | x :: xs, ys, h1, h2 => by
    simp only [allNs, List.cons_append, Bool.and_eq_true] at h1 ⊢; exact ⟨h1.1, plain_app h1.2 h2⟩

/- a buffer of so many bytes, of which these are written -/
def padB (m : Nat) (out : List UInt8) : List AV := bytesE out ++ repE [.int .u8 (.ofNat 0)] (m - out.length)
theorem padB_plain (m : Nat) (out : List UInt8) : allNs noNames (padB m out) = true := plain_app (bytesE_plain out) (repE_plain rfl _)
theorem padB_len {m : Nat} {out : List UInt8} (h : out.length ≤ m) : (padB m out).length = m := by
  unfold padB; rw [List.length_append, bytesE_len, repE_len]; simp; omega
theorem padB_nil (m : Nat) : repE [.int .u8 (.ofNat 0)] m = padB m [] := by simp [padB, bytesE]
theorem padB_splice {m : Nat} {out s : List UInt8} (h : out.length + s.length ≤ m) : spliceE (padB m out) out.length (bytesE s) = padB m (out ++ s) := by
  unfold spliceE padB
  rw [List.take_left' (bytesE_len out), bytesE_len, ← List.drop_drop, List.drop_left' (bytesE_len out)]
  have e : m - out.length = s.length + (m - (out ++ s).length) := by simp; omega
  rw [e, repE_add, List.drop_left' (by rw [repE_len]; simp), bytesE_app, List.append_assoc]
theorem padB_take {m : Nat} {out : List UInt8} : unbytesE (takeAt (padB m out) 0 out.length) = some out := by
  unfold takeAt padB
  rw [List.drop_zero, List.take_left' (bytesE_len out), unbytesE_bytesE]

theorem get_row {h : AHeap} {l : Nat} {cs : List AV} {opn : Bool} {fz : Nat} {wr : Bool} {α : Type} {f : List AV → Bool → Nat → Bool → Option α} (e : h.get l = some (.row cs opn fz wr)) : rowAt h l f = f cs opn fz wr := by
  unfold rowAt; rw [e]

/- bytes behind a buffer's -/
theorem append_ex {t xt e : Nat} {ti te tx : Ti} (ht : T.ty.get t = some ti) (hd : ti.desc = .slice e) (he : T.ty.get e = some te) (hs : te.size = 1) (hz : te.zero = [.int .u8 (.ofNat 0)]) (hxt : T.ty.get xt = some tx) (hxd : ∀ k, tx.desc ≠ .int k)
    {h : AHeap} {l m : Nat} {out s c : List UInt8} {opn : Bool} (hrow : h.get l = some (.row (padB m out) opn 0 true)) (hpos : 0 < s.length) (hm : out.length + s.length ≤ m) (hc : out ++ s = c) :
    ∀ cf, doX T cf (.builtin .append [t, xt] [.slice l 0 out.length (.ex m), .str s]) h = some (.slice l 0 c.length (.ex m), some (h.put l (.row (padB m c) opn 0 true))) := fun cf => by
  subst hc
  show appendE T t xt (.slice l 0 out.length (.ex m)) (.str s) h = _
  obtain ⟨n, hn⟩ : ∃ n, s.length = n + 1 := ⟨s.length - 1, by omega⟩
  unfold appendE
  rw [ht, hxt]
  simp only [ob_of]
  split
  · rename_i k hk; exact absurd hk (hxd k)
  · rename_i e' hde _
    rw [hd] at hde; cases hde
    rw [he]
    simp only [ob_of, hs, hz, sourceE, hn]
    have h1 : Nat.ble (out.length + (n + 1)) m = true := ble_of (by omega)
    simp only [h1, writeE, get_row hrow, bytesE_one, ck, Nat.ble_self_eq_true, Nat.beq_refl, List.length_cons, List.length_nil, allOne, AV.oneCell, ob_of, Nat.zero_add, Nat.mul_one, List.length_append, hn, padB_splice (show out.length + s.length ≤ m by omega), okh]
    have h3 : Nat.ble (out.length + (bytesE s).length) (padB m out).length = true := by
      rw [padB_len (by omega), bytesE_len]; exact ble_of (by omega)
    rw [h3]; rfl
  · rename_i hno _; exact absurd hd (hno e)

theorem convert_pad {t d e : Nat} {ti td te : Ti} (ht : T.ty.get t = some ti) (hd : ti.desc = .slice e) (he : T.ty.get e = some te) (hu : te.desc = .int .u8) (htd : T.ty.get d = some td) (hdd : td.desc = .string)
    {h : AHeap} {l m : Nat} {out : List UInt8} {cap : Cap} {opn wr : Bool} {fz : Nat} (hrow : h.get l = some (.row (padB m out) opn fz wr)) (hm : out.length ≤ m) :
    ∀ cf, doX T cf (.conv t d (.slice l 0 out.length cap)) h = some (.str out, none) := fun cf => by
  show convE T t d (.slice l 0 out.length cap) h = _
  unfold convE
  rw [ht, htd]
  simp only [ob_of, hd, hdd, he, hu, get_row hrow]
  have h2 : Nat.ble (0 + out.length) (padB m out).length = true := by rw [padB_len hm]; exact ble_of (by omega)
  simp only [h2, ck, padB_take, ob_of]; rfl

/- one more thing, or some, behind what was gathered by append -/
theorem append_op {t xt e es : Nat} {ti te tx : Ti} (ht : T.ty.get t = some ti) (hd : ti.desc = .slice e) (he : T.ty.get e = some te) (hs : te.size = es) (hes : 1 ≤ es) (hzl : te.zero.length = es) (hz : allOne te.zero = true) (hb : 1 ≤ te.bytes) (hxt : T.ty.get xt = some tx) (hxd : ∀ k, tx.desc ≠ .int k)
    {h : AHeap} {l n k : Nat} {x : AV} {cs new cs' : List AV} (hrow : h.get l = some (.row cs true 0 true)) (hlen : cs.length = n * es) (hsrc : sourceE es x h = some (k, new)) (hnew : new.length = k * es) (hk : 0 < k) (hcs : cs ++ new = cs') (h1 : allOne cs' = true)
    (hby : (n + k) * te.bytes ≤ 35184372088832) (hroom : h.next < PT.room) {p : Nat} (hp : h.next = p) {n' : Nat} (hn' : n + k = n') :
    ∀ cf, doX T cf (.builtin .append [t, xt] [.slice l 0 n (.op es), x]) h = some (.slice p 0 n' (.op es), some ((h.put l .dead).push (.row cs' true 0 true))) := fun cf => by
  subst hp; subst hn'
  show appendE T t xt (.slice l 0 n (.op es)) x h = _
  obtain ⟨j, rfl⟩ : ∃ j, k = j + 1 := ⟨k - 1, by omega⟩
  unfold appendE
  rw [ht, hxt]
  simp only [ob_of]
  split
  · rename_i k hk; exact absurd hk (hxd k)
  · rename_i e' hde _
    rw [hd] at hde; cases hde
    rw [he]
    have g1 : Nat.ble 1 es = true := ble_of hes
    have g2 : Nat.ble (0 + n * es) cs.length = true := ble_of (by omega)
    have g3 : Nat.ble (0 + (n + (j + 1)) * es) cs.length = false := ble_not (by rw [hlen, Nat.zero_add, Nat.add_mul, Nat.succ_mul]; omega)
    have g4 : Nat.ble ((n + (j + 1)) * te.bytes) 35184372088832 = true := ble_of hby
    have g5 : Nat.ble 1 te.bytes = true := ble_of hb
    have g6 : Nat.blt h.next PT.room = true := blt_of hroom
    have g7 : takeAt cs 0 (n * es) = cs := by unfold takeAt; rw [List.drop_zero, List.take_of_length_le (by omega)]
    have hnx : (h.put l .dead).next = h.next := by cases h; rfl
    simp only [ob_of, hs, g1, hzl, hz, hsrc, get_row hrow, g2, g3, g4, g5, ck, Nat.beq_refl, g7, hcs, newE, g6, h1, okh, hnx]
  · rename_i hno _; exact absurd hd (hno e)

theorem repE_one {z : List AV} (hz : allOne z = true) : ∀ n, allOne (repE z n) = true
  | 0 => rfl
  | n + 1 => allOne_app hz (repE_one hz n)

theorem make_bytes {t e : Nat} {ti te : Ti} (ht : T.ty.get t = some ti) (hd : ti.desc = .slice e) (he : T.ty.get e = some te) (hs : te.size = 1) (hb : te.bytes = 1) (hz : te.zero = [.int .u8 (.ofNat 0)])
    {h : AHeap} {m : Nat} (hm : m ≤ 281474976710656) (hroom : h.next < PT.room) {p : Nat} (hp : h.next = p) :
    ∀ cf, doX T cf (.makeSlice t (.int .i64 (.ofNat 0)) (.int .i64 (.ofNat m))) h = some (.slice p 0 0 (.ex m), some (h.push (.row (padB m []) false 0 true))) := fun cf => by
  subst hp
  show makeSliceE T t (.int .i64 (.ofNat 0)) (.int .i64 (.ofNat m)) h = _
  unfold makeSliceE
  rw [ht]
  simp only [ob_of, hd, he, natOf, hs, hb, hz]
  have g1 : Nat.ble 0 m = true := ble_of (Nat.zero_le _)
  have g2 : Nat.ble (1 * m) 281474976710656 = true := ble_of (by omega)
  have g3 : Nat.ble m 4611686018427387904 = true := ble_of (by omega)
  have g4 : Nat.blt h.next PT.room = true := blt_of hroom
  have g5 : allOne (padB m []) = true := by rw [← padB_nil]; exact repE_one rfl m
  simp only [g1, g2, g3, newE, g4, g5, ck, Nat.ble_self_eq_true, List.length_cons, List.length_nil, Nat.zero_add, Nat.beq_refl, ob_of, okh, padB_nil]

end
end Go.Ev

/-
  A small evaluator of the model's programs: contracts by relations; slices that may be nil; loops that may end early; comparing.
-/
namespace Go.Ev
open Go Go.RowKit
noncomputable section

variable {T : Tab}

/- a function of ours told by a relation -/
open Classical in
def pOf (R : List AV → AHeap → AV → Prop) : Pf := fun args h => if hx : ∃ v, R args h v then some hx.choose else none
theorem pOf_some {R : List AV → AHeap → AV → Prop} {args : List AV} {h : AHeap} {v : AV} (e : pOf R args h = some v) : R args h v := by
  unfold pOf at e
  split at e
  · rename_i hx; cases e; exact hx.choose_spec
  · cases e
theorem pOf_of {R : List AV → AHeap → AV → Prop} {args : List AV} {h : AHeap} {v : AV} (hr : R args h v) (hu : ∀ v', R args h v' → v' = v) : pOf R args h = some v := by
  unfold pOf
  have hx : ∃ v, R args h v := ⟨v, hr⟩
  rw [dif_pos hx, hu _ hx.choose_spec]
theorem vc_pur {f : Nat} {args : List AV} {h : AHeap} {p : Pf} {v : AV} (hx : T.ext.get f = none) (hp : T.pur.get f = some p) (e : p args h = some v) : ∀ cf, doX T cf (.call f args) h = some (v, none) := fun cf => by
  show (match T.ext.get f with
    | some e => ob (e _ h) fun (v, h') => some (v, some h')
    | none => match T.pur.get f with
      | some p => ob (p _ h) fun v => some (v, none)
      | none => ob (cf f _ h) fun (v, h') => some (v, some h')) = _
  rw [hx]; simp only [hp, e, ob_of]

/- a slice that came in: nil, or with such a capacity; its row -/
def slV (l n : Nat) : Option Cap → AV
  | none => .nilslice
  | some c => .slice l 0 n c
def rwV (o : Option Cap) (cs : List AV) (opn : Bool) (fz : Nat) : AObj :=
  match o with
  | none => .dead
  | some _ => .row cs opn fz false
theorem len_slV {t l n e : Nat} {o : Option Cap} {ti : Ti} (ht : T.ty.get t = some ti) (hd : ti.desc = .slice e) (ho : o = none → n = 0) : ∀ cf h, doX T cf (.builtin .len [t] [slV l n o]) h = some (.int .i64 (.ofNat n), none) := fun cf h => by
  show ob (lenE T t (slV l n o) h) okv = _
  unfold lenE
  rw [ht]
  cases o with
  | none => simp only [ob_of, hd, slV, ho rfl]; rfl
  | some c => simp only [ob_of, hd, slV]; rfl

/- what append has gathered: nothing yet, or a row -/
def acV {α : Type} (l es : Nat) : List α → AV
  | [] => .nilslice
  | x :: xs => .slice l 0 (x :: xs).length (.op es)
def acR {α : Type} (f : α → List AV) : List α → AObj
  | [] => .dead
  | x :: xs => .row (rowOf f (x :: xs)) true 0 true

theorem firstBad {p : Nat → Prop} [DecidablePred p] : ∀ n, ∃ r, r ≤ n ∧ (∀ j, j < r → p j) ∧ (r = n ∨ (r < n ∧ ¬ p r))
  | 0 => ⟨0, Nat.le_refl _, fun j hj => absurd hj (Nat.not_lt_zero _), .inl rfl⟩
  | n + 1 => by
    obtain ⟨r, h1, h2, h3⟩ := firstBad (p := p) n
    rcases h3 with h3 | ⟨h3, h4⟩
    · subst h3
      by_cases hp : p r
      · exact ⟨r + 1, Nat.le_refl _, fun j hj => (by rcases Nat.lt_or_ge j r with h | h; exact h2 j h; have : j = r := by omega
                                                     rw [this]; exact hp), .inl rfl⟩
      · exact ⟨r, Nat.le_succ _, h2, .inr ⟨Nat.lt_succ_self _, hp⟩⟩
    · exact ⟨r, Nat.le_succ_of_le h1, h2, .inr ⟨Nat.lt_succ_of_lt h3, h4⟩⟩

/- a loop in its block: n rounds, and then the function's end -/
theorem loop_ret {P : Program} {T : Tab} (k : FullOk P T) {N : Nat} {c : Code} (hc : c = .block (idOf c) (lft c)) (hl : lft c = .loop (lft (lft c))) {depE depH n : Nat} (σ : Nat → St) {σ' : St} (r : Nat)
    (step : ∀ i, i < r → ∃ olds, Leads T N (lft (lft c)) depE depH n (σ i) .normal (σ (i + 1)) olds) (stop : ∃ olds', Leads T N (lft (lft c)) depE depH n (σ r) .ret σ' olds')
    {B : Nat} {W w : World} {a : Act} (i : InSt B W T.glob depE depH n (σ 0) a w) {Q : Exit → Act → World → Prop} (hQ : ∀ a' w', InSt B W T.glob depE depH n σ' a' w' → Q .ret a' w') : c.wp P Q a w := by
  refine as_block hc ?_
  refine as_loop hl (r + 1) ?_
  refine rounds_of (fun j a w => InSt B W T.glob depE depH n (σ j) a w) r ?_ ?_ r 0 (Nat.zero_add r) a w i
  · intro j hj a w i K hK
    obtain ⟨olds, l⟩ := step j hj
    exact Leads.wp k l i hK
  · intro a w i K
    obtain ⟨_, stop⟩ := stop
    exact Leads.wp k stop i fun a' w' i' => hQ a' w' i'

/- the same where a round is no single piece -/
theorem loop_wp {P : Program} {c : Code} (hc : c = .block (idOf c) (lft c)) (hl : lft c = .loop (lft (lft c))) (I : Nat → Act → World → Prop) (r : Nat) {Q : Exit → Act → World → Prop}
    (step : ∀ i, i < r → ∀ a w, I i a w → ∀ K : Act → World → Prop, (∀ a w, I (i + 1) a w → K a w) → (lft (lft c)).wp P (Exit.then K (Exit.inBlock (idOf c) Q)) a w)
    (stop : ∀ a w, I r a w → ∀ K : Act → World → Prop, (lft (lft c)).wp P (Exit.then K (Exit.inBlock (idOf c) Q)) a w) {a : Act} {w : World} (i : I 0 a w) : c.wp P Q a w := by
  refine as_block hc ?_
  refine as_loop hl (r + 1) ?_
  exact rounds_of I r step stop r 0 (Nat.zero_add r) a w i

theorem out_block {K : Act → World → Prop} {Q : Exit → Act → World → Prop} {id id' : Nat} {a : Act} {w : World} (h : id' = id) (hQ : Q .normal a w) : Exit.then K (Exit.inBlock id Q) (Ex.exit id').to a w := by
  subst h
  show Exit.inBlock id' Q (.exit id') a w
  simp only [Exit.inBlock, if_pos]
  exact hQ

/- arrays of bytes -/
theorem bytesE_get : ∀ (a : List UInt8) (i : Nat), (bytesE a)[i]? = a[i]?.map fun b => AV.int .u8 (.ofNat b.toNat)
  | [], i => by simp [bytesE]
  | x :: a, 0 => by simp [bytesE]
  | x :: a, i + 1 => by simp [bytesE, bytesE_get a i]
theorem take_succ_eq {α : Type} {a b : List α} {i : Nat} (h : a.take i = b.take i) {x : α} (ha : a[i]? = some x) (hb : b[i]? = some x) : a.take (i + 1) = b.take (i + 1) := by
  rw [List.take_add_one, List.take_add_one, h, ha, hb]
theorem eqElems_bytes {e : Nat} {te : Ti} (he : T.ty.get e = some te) (hagg : te.agg = false) (hdesc : te.desc = .int .u8) {d : Nat} {a b : List UInt8} : ∀ (left i : Nat), a.length = i + left → b.length = i + left → a.take i = b.take i →
    eqElems T (eqE_ T (d + 1)) e 1 (bytesE a) (bytesE b) left i = some (decide (a = b))
  | 0, i, ha, hb, h => by
    rw [List.take_of_length_le (by omega), List.take_of_length_le (by omega)] at h
    simp [eqElems, h]
  | left + 1, i, ha, hb, h => by
    obtain ⟨x, hx⟩ : ∃ x, a[i]? = some x := ⟨_, List.getElem?_eq_getElem (by omega)⟩
    obtain ⟨y, hy⟩ : ∃ y, b[i]? = some y := ⟨_, List.getElem?_eq_getElem (by omega)⟩
    have p1 : partE T e (bytesE a) (i * 1) = some (.int .u8 (.ofNat x.toNat)) := by
      unfold partE; rw [he]; simp only [ob_of, hagg, Nat.mul_one, bytesE_get, hx, Option.map_some]
    have p2 : partE T e (bytesE b) (i * 1) = some (.int .u8 (.ofNat y.toNat)) := by
      unfold partE; rw [he]; simp only [ob_of, hagg, Nat.mul_one, bytesE_get, hy, Option.map_some]
    unfold eqElems
    rw [p1, p2]
    simp only [ob_of]
    have e1 : eqE_ T (d + 1) e (.int .u8 (.ofNat x.toNat)) (.int .u8 (.ofNat y.toNat)) = some (Nat.beq x.toNat y.toNat) := by
      unfold eqE_; rw [he]; simp only [ob_of, hdesc]; rfl
    rw [e1]
    simp only [ob_of]
    by_cases hxy : x = y
    · subst hxy
      rw [Nat.beq_refl]
      exact eqElems_bytes he hagg hdesc left (i + 1) (by omega) (by omega) (take_succ_eq h hx hy)
    · have hne : x.toNat ≠ y.toNat := fun h => hxy (UInt8.toNat_inj.1 h)
      rw [beq_no hne]
      have : a ≠ b := fun h => by subst h; rw [hx] at hy; cases hy; exact hxy rfl
      simp [this]

end
end Go.Ev

/-
  A small evaluator of the model's programs: pieces from any memory; bounds of slices; appends of slices that came in.
-/
namespace Go.Ev
open Go Go.RowKit
noncomputable section

variable {P : Program} {T T' : Tab} {B : Nat} {W w : World}

/- the outcome of a piece that is run from such a frame and such a memory -/
structure LeadsX (T : Tab) (N : Nat) (c : Code) (depE depH n : Nat) (env0 : Env) (h0 : AHeap) (x : Ex) (σ' : St) (olds : List Nat) : Prop where
  out : ∃ env h, run T N c env0 h0 = some (x, env, h) ∧ env.size = n ∧ holdsAt T.glob olds (T.glob + σ'.objs.length) env σ'.live ∧
    likeObjs h (oldName T.glob olds) (fun l => Nat.blt l (T.glob + σ'.objs.length)) σ'.objs olds
  apart : apartE σ'.objs olds = true
  fits : T.glob + σ'.objs.length + 1 ≤ 2 ^ depH
  room : T.glob + σ'.objs.length ≤ PT.room

theorem LeadsX.ofC {H : HintsOf} {N : Nat} {c : Code} {depE depH n : Nat} {env0 : Env} {h0 : AHeap} {x : Ex} {olds : List Nat} {L : List (Bool × Nat × AV)} {O : List (Bool × AObj)} {ps : List Prop}
    (hr : outC (L.map (fun y => y.2.1)) olds (runC T H N c env0 h0) = some (x, n, L.map (fun y => some (back T.glob olds y.1 y.2.2)), O.map (fun y => some (backO T.glob olds y.1 y.2)), ps))
    (hp : allP ps) (hl : okBs (T.glob + O.length) L) (ho : okOs (T.glob + O.length) O) (h6 : apartE (O.map (fun y => y.2)) olds = true) (h7 : T.glob + O.length + 1 ≤ 2 ^ depH) (h8 : T.glob + O.length ≤ PT.room) :
    LeadsX T N c depE depH n env0 h0 x ⟨L.map (fun y => y.2), O.map (fun y => y.2)⟩ olds := by
  obtain ⟨⟨x0, env, h, qs⟩, k1, k2⟩ := ob_some hr
  simp only [Option.some.injEq, Prod.mk.injEq] at k2
  obtain ⟨rfl, k3, k4, k5, rfl⟩ := k2
  refine ⟨⟨env, h, runC_ok k1 hp, k3, ?_, ?_⟩, h6, by simpa using h7, by simpa using h8⟩
  · have := holdsAt_of k4 hl
    simpa using this
  · have := likeObjs_of k5 ho
    simpa using this

/- a frame and a memory that a world is in -/
structure InH (B : Nat) (W : World) (g : Nat) (env : Env) (h : AHeap) (a : Act) (w : World) : Prop where
  st : ∃ φ, EnvR φ env a ∧ Sim B W φ h w ∧ GlobOk φ g
  defers : a.defers = []

theorem LeadsX.pre (k : FullOk P T) {m N : Nat} {c : Code} {depE depH n : Nat} {env0 : Env} {h0 : AHeap} {σ' : St} {x : Ex} {olds : List Nat} (l : LeadsX T N (takeSeq m c) depE depH n env0 h0 x σ' olds) {a : Act} (i : InH B W T.glob env0 h0 a w)
    {Q : Exit → Act → World → Prop} (hQ : ∀ a' w', InSt B W T.glob depE depH n σ' a' w' → Exit.then ((dropSeq m c).wp P Q) Q x.to a' w') : c.wp P Q a w := by
  obtain ⟨φ, ke, s, kg⟩ := i.st
  obtain ⟨env, h, hrun, hs, hh, ho⟩ := l.out
  refine run_pre k m hrun B W φ a w Q ke s kg i.defers fun φ' a' w' hle ke' hd' s' => hQ a' w' ⟨⟨phiL φ' T.glob olds (T.glob + σ'.objs.length), ?_, ?_, ?_⟩, hd'⟩
  · exact ke'.canon hs (kg.mono hle) (Nat.le_add_right _ _) hh
  · exact s'.canon (kg.mono hle) l.fits l.room ho l.apart
  · exact GlobOk.canon (kg.mono hle) (Nat.le_add_right _ _)

/- the smaller of two lengths -/
theorem vc_min {ts : List Nat} {a b c : Nat} (hc : min a b = c) : ∀ cf h, doX T cf (.builtin .min ts [.int .i64 (.ofNat a), .int .i64 (.ofNat b)]) h = some (.int .i64 (.ofNat c), none) := fun cf h => by
  subst hc
  show ob (minmaxE false [.int .i64 (.ofNat a), .int .i64 (.ofNat b)]) okv = _
  have e : minmaxE false [AV.int .i64 (.ofNat a), .int .i64 (.ofNat b)] = some (.int .i64 (.ofNat (min a b))) := by
    show ck (kindEq .i64 .i64) (some (AV.int .i64 (match false, Nat.blt a b with
      | true, true => (.ofNat b : Int)
      | true, false => .ofNat a
      | false, true => .ofNat a
      | false, false => .ofNat b))) = _
    by_cases h : a < b
    · rw [blt_of h, Nat.min_eq_left (by omega)]; rfl
    · rw [blt_not (by omega), Nat.min_eq_right (by omega)]; rfl
  rw [e]; rfl

/- the beginning of a slice that came in -/
theorem slice_slV {t e l n m : Nat} {o : Option Cap} {ti te : Ti} (ht : T.ty.get t = some ti) (hd : ti.desc = .slice e) (he : T.ty.get e = some te) (hm : m ≤ n) (ho : o = none → n = 0) (hc : ∀ c, o = some c → ∃ k, c = .ex k ∧ n ≤ k) :
    ∀ cf h, doX T cf (.slice t (slV l n o) none (some (.int .i64 (.ofNat m))) none) h = some (slV l m o, none) := fun cf h => by
  show vo (sliceE T t (slV l n o) none (some (.int .i64 (.ofNat m))) none) = _
  unfold sliceE
  rw [ht]
  cases o with
  | none =>
    have : m = 0 := by have := ho rfl; omega
    subst this
    simp only [ob_of, hd, slV, he, boundE, natOf]; rfl
  | some c =>
    obtain ⟨k, rfl, hk⟩ := hc c rfl
    simp only [ob_of, hd, slV, he, boundE, natOf, Cap.most, Cap.fits, Cap.less, ble_of (show m ≤ k by omega), ble_of (Nat.zero_le m), ck, vo, Nat.zero_mul, Nat.sub_zero, Nat.add_zero]

/- nothing more -/
theorem append_none {t xt e l cl : Nat} {ti te tx : Ti} {o : Option Cap} {cs : List AV} {opn : Bool} {fz : Nat} (ht : T.ty.get t = some ti) (hd : ti.desc = .slice e) (he : T.ty.get e = some te) (hes : 1 ≤ te.size) (hzl : te.zero.length = te.size) (hz : allOne te.zero = true) (hxt : T.ty.get xt = some tx) (hxd : ∀ k, tx.desc ≠ .int k)
    {h : AHeap} (hrow : h.get cl = some (rwV o cs opn fz)) {c : Cap} {q : Nat} : ∀ cf, doX T cf (.builtin .append [t, xt] [.slice l 0 q c, slV cl 0 o]) h = some (.slice l 0 q c, none) := fun cf => by
  show appendE T t xt (.slice l 0 q c) (slV cl 0 o) h = _
  unfold appendE
  rw [ht, hxt]
  simp only [ob_of]
  split
  · rename_i k hk; exact absurd hk (hxd k)
  · rename_i e' hde _
    rw [hd] at hde; cases hde
    rw [he]
    simp only [ob_of, ble_of hes, hzl, Nat.beq_refl, hz, ck]
    have hsrc : ∃ new, sourceE te.size (slV cl 0 o) h = some (0, new) := by
      cases o with
      | none => exact ⟨_, rfl⟩
      | some c =>
        refine ⟨takeAt cs 0 (0 * te.size), ?_⟩
        show rowAt h cl _ = _
        rw [get_row (show h.get cl = some (.row cs opn fz false) from hrow)]
        rw [ble_of (by omega)]; rfl
    obtain ⟨new, hsrc⟩ := hsrc
    rw [hsrc]; rfl
  · rename_i hno _; exact absurd hd (hno e)

/- the first, behind an empty slice without room -/
theorem append_new {t xt e es l k : Nat} {ti te tx : Ti} {x : AV} {new : List AV} (ht : T.ty.get t = some ti) (hd : ti.desc = .slice e) (he : T.ty.get e = some te) (hs : te.size = es) (hes : 1 ≤ es) (hzl : te.zero.length = es) (hz : allOne te.zero = true) (hb : 1 ≤ te.bytes) (hxt : T.ty.get xt = some tx) (hxd : ∀ k, tx.desc ≠ .int k)
    {h : AHeap} {opn wr : Bool} {fz : Nat} (hrow : h.get l = some (.row [] opn fz wr)) (hsrc : sourceE es x h = some (k, new)) (hk : 0 < k) (h1 : allOne new = true) (hby : k * te.bytes ≤ 35184372088832) (hroom : h.next < PT.room) {p : Nat} (hp : h.next = p) :
    ∀ cf, doX T cf (.builtin .append [t, xt] [.slice l 0 0 (.ex 0), x]) h = some (.slice p 0 k (.op es), some (h.push (.row new true 0 true))) := fun cf => by
  subst hp
  show appendE T t xt (.slice l 0 0 (.ex 0)) x h = _
  obtain ⟨j, rfl⟩ : ∃ j, k = j + 1 := ⟨k - 1, by omega⟩
  unfold appendE
  rw [ht, hxt]
  simp only [ob_of]
  split
  · rename_i k hk; exact absurd hk (hxd k)
  · rename_i e' hde _
    rw [hd] at hde; cases hde
    rw [he]
    have g1 : Nat.ble 1 es = true := ble_of hes
    have g3 : Nat.ble (0 + (j + 1)) 0 = false := ble_not (by omega)
    have g4 : Nat.ble ((0 + (j + 1)) * te.bytes) 35184372088832 = true := ble_of (by rw [Nat.zero_add]; exact hby)
    have g5 : Nat.ble 1 te.bytes = true := ble_of hb
    have g6 : Nat.blt h.next PT.room = true := blt_of hroom
    have g7 : Nat.ble (0 + 0 * es) ([] : List AV).length = true := ble_of (by simp)
    have g8 : takeAt ([] : List AV) 0 (0 * es) = [] := by unfold takeAt; simp
    simp only [ob_of, hs, g1, hzl, hz, hsrc, get_row hrow, g3, g4, g5, ck, Nat.beq_refl, g7, g8, List.nil_append, newE, g6, h1, okh]
    simp only [Nat.zero_add, ob_of]
  · rename_i hno _; exact absurd hd (hno e)

theorem source_slice {es l m : Nat} {c : Cap} {cs new : List AV} {opn wr : Bool} {fz : Nat} {h : AHeap} (hrow : h.get l = some (.row cs opn fz wr)) (hm : m * es ≤ cs.length) (hn : takeAt cs 0 (m * es) = new) : sourceE es (.slice l 0 m c) h = some (m, new) := by
  show rowAt h l _ = _
  rw [get_row hrow, ble_of (by omega)]
  subst hn; rfl

end
end Go.Ev

/-
  A small evaluator of the model's programs: from what can be read to what the evaluator starts with; a law's row.
-/
namespace Go.Ev
open Go Go.RowKit Go.ChangeShapes
noncomputable section

variable {P : Program} {W W' : World}

/- ---------------------------------------------------------------- a world out of a list of objects -/
def objsR (φ : Phi) (W : World) : List AObj → List Pl → Prop
  | [], [] => True
  | o :: os, p :: ps => ObjR φ W p o ∧ p.b < W.heap.size ∧ objsR φ W os ps
  | _, _ => False

theorem objsR_len {φ : Phi} : ∀ {os : List AObj} {ps : List Pl}, objsR φ W os ps → os.length = ps.length
  | [], [], _ => rfl
  | [], _ :: _, h => False.elim h
  | _ :: _, [], h => False.elim h
  | _ :: _, _ :: _, h => by simp [objsR_len h.2.2]
theorem objsR_get {φ : Phi} : ∀ {os : List AObj} {ps : List Pl}, objsR φ W os ps → ∀ (i : Nat) (o : AObj) (p : Pl), os[i]? = some o → ps[i]? = some p → ObjR φ W p o ∧ p.b < W.heap.size
  | [], [], _, i, o, p, e, _ => by simp at e
  | [], _ :: _, h, _, _, _, _, _ => False.elim h
  | _ :: _, [], h, _, _, _, _, _ => False.elim h
  | _ :: os, _ :: ps, h, i, o, p, e, e' => by
    cases i with
    | zero => simp at e e'; subst e; subst e'; exact ⟨h.1, h.2.1⟩
    | succ i => exact objsR_get h.2.2 i o p (by simpa using e) (by simpa using e')

def phiOf (ps : List Pl) : Phi := fun l => ps[l]?

theorem Sim.ofList {h : AHeap} {os : List AObj} {ps : List Pl} (hget : ∀ l, h.get l = os[l]?) (hnext : h.next = os.length) (hroom : h.next ≤ PT.room) (hr : objsR (phiOf ps) W os ps) (hro : ∀ (i : Nat) (o : AObj), os[i]? = some o → o.wr = false) :
    Sim W.heap.size W (phiOf ps) h W := by
  have hlen := objsR_len hr
  refine ⟨⟨rfl, rfl, rfl, Nat.le_refl _, fun _ _ => rfl⟩, fun l => ?_, fun l hl => ?_, hroom, fun l o p e hp => ?_, fun l p hp => ?_, fun l l' o o' p p' _ e hw => ?_, fun l o p e hw => ?_, Nat.le_refl _⟩
  · rw [hget]; unfold phiOf
    rw [List.getElem?_eq_none_iff, List.getElem?_eq_none_iff, hlen]
  · unfold phiOf; rw [List.getElem?_eq_none_iff]; omega
  · rw [hget] at e; exact (objsR_get hr l o p e hp).1
  · have hl : l < os.length := by
      have := (List.getElem?_eq_some_iff.1 (show ps[l]? = some p from hp)).1; omega
    exact (objsR_get hr l os[l] p (List.getElem?_eq_getElem hl) hp).2
  · rw [hget] at e; rw [hro l o e] at hw; cases hw
  · rw [hget] at e; rw [hro l o e] at hw; cases hw

theorem heap_push {h : AHeap} {os : List AObj} (hget : ∀ l, h.get l = os[l]?) (hnext : h.next = os.length) (hroom : h.next < PT.room) (o : AObj) : (∀ l, (h.push o).get l = (os ++ [o])[l]?) ∧ (h.push o).next = (os ++ [o]).length := by
  constructor
  · intro l
    rw [AHeap.get_push hroom, hget l, hnext]
    by_cases hl : l = os.length
    · subst hl; simp
    · rw [if_neg hl]
      by_cases hlt : l < os.length
      · rw [List.getElem?_append_left hlt]
      · rw [List.getElem?_eq_none (by omega), List.getElem?_eq_none (by simp; omega)]
  · cases h; simp [AHeap.push] at *; exact hnext

/- ---------------------------------------------------------------- cells that can be read -/
theorem cells?_one {base : Nat} {a : Addr} {k : Nat} {cs : List Value} (h : W.cells? base a k = some cs) : cs.length = k ∧ ∀ i, i < k → W.cell? (a.add i) = cs[i]? := by
  unfold World.cells? at h
  split at h
  · have h1 := mapM_some_length h
    refine ⟨by simpa using h1, fun i hi => ?_⟩
    have := mapM_some_get h i i (by simp [hi])
    exact this
  · cases h

theorem cell_block {a : Addr} {i : Nat} {v : Value} (h : W.cell? (a.add i) = some v) : ∃ cells el fr, W.heap[a.block]? = some (.cells cells el fr) ∧ cells[a.off + i]? = some v ∧ (i = 0 → a.spot = none) := by
  unfold World.cell? at h
  have hb : (a.add i).block = a.block := by unfold Addr.add; split <;> rfl
  rw [hb] at h
  split at h
  · rename_i c el fr hc
    split at h
    · cases h
    · rename_i hs
      have ho : (a.add i).off = a.off + i := by unfold Addr.add; split <;> simp_all
      rw [ho] at h
      refine ⟨c, el, fr, hc, h, fun h0 => ?_⟩
      subst h0
      unfold Addr.add at hs
      simp at hs
      exact hs
  · cases h

/- a row of entries, each of k cells -/
def PlainRow (cells : Array Value) (base : Nat) (cs : List AV) : Prop := ∀ (i : Nat) (a : AV), cs[i]? = some a → ∃ v, cells[base + i]? = some v ∧ ∀ φ, VR φ a v
def PlainRs (cs : List AV) (vs : List Value) : Prop := ∀ φ, VRs φ cs vs

theorem mul_split {k i : Nat} (hk : 0 < k) : i = (i / k) * k + i % k := by
  have := Nat.div_add_mod i k; rw [Nat.mul_comm] at this; omega
theorem rowOf_split {α : Type} {f : α → List AV} {k : Nat} (hk : 0 < k) (hf : ∀ a, (f a).length = k) : ∀ {l : List α} {i : Nat} {a : AV}, (rowOf f l)[i]? = some a → ∃ x, l[i / k]? = some x ∧ (f x)[i % k]? = some a
  | [], i, a, e => by simp [rowOf] at e
  | y :: l, i, a, e => by
    simp only [rowOf] at e
    by_cases hi : i < k
    · rw [List.getElem?_append_left (by rw [hf]; exact hi)] at e
      refine ⟨y, ?_, ?_⟩
      · rw [Nat.div_eq_of_lt hi]; rfl
      · rw [Nat.mod_eq_of_lt hi]; exact e
    · rw [List.getElem?_append_right (by rw [hf]; omega), hf] at e
      obtain ⟨x, h1, h2⟩ := rowOf_split hk hf e
      refine ⟨x, ?_, ?_⟩
      · have : i / k = (i - k) / k + 1 := by
          have := Nat.sub_mul_div i k 1
          rw [Nat.mul_one] at this
          have h3 : 1 ≤ i / k := (Nat.one_le_div_iff hk).2 (by omega)
          omega
        rw [this, List.getElem?_cons_succ]; exact h1
      · have : i % k = (i - k) % k := by rw [Nat.mod_eq_sub_mod (by omega)]
        rw [this]; exact h2

/- how much what can be read takes -/
def Sized {H : Type} (P : Program) (t : TypeId) (d : DataW H) : Prop := ∀ n ∈ d.weights P t, n ≤ reachBytes
theorem weights_mem_all {H : Type} {P : Program} {e : TypeId} : ∀ {ds : List (DataW H)} {j : Nat} {d : DataW H}, ds[j]? = some d → ∀ n ∈ d.weights P e, n ∈ DataW.weightsAll P e ds
  | [], j, d, h, _, _ => by simp at h
  | x :: r, 0, d, h, n, hn => by simp at h; subst h; unfold DataW.weightsAll; exact List.mem_append_left _ hn
  | x :: r, j + 1, d, h, n, hn => by unfold DataW.weightsAll; exact List.mem_append_right _ (weights_mem_all (ds := r) (by simpa using h) n hn)

/- a slice of entries that can be read: nil, or so many entries in a block -/
theorem read_slice {H : Type} {enc : TypeId × Value → H} {t e k n : Nat} {α : Type} {f : α → List AV} {rd : α → Prop} (hk : 0 < k) (hf : ∀ a, (f a).length = k) (ht : P.underlying t = some (.slice e)) (hc : P.cellsOf e = k)
    (hrd : ∀ (m : Nat) (cs : List Value) (y : DataW H × List MemPlace), DataW.trod enc P W 0 (fun _ => true) true m e cs = some y → Sized P e y.1 → ∃ a : α, rd a ∧ PlainRs (f a) cs) {v : Value} {x : DataW H × List MemPlace}
    (h : DataW.trod enc P W 0 (fun _ => true) true n t [v] = some x) (hw : Sized P t x.1) (hby : 1 ≤ P.bytesOf e) (h0 : ∃ c el fr, W.heap[0]? = some (.cells c el fr)) :
    ∃ (xs : List α) (o : Option Cap) (pl : Pl), (o = none → xs = [] ∧ v = .slice none 0 0) ∧ (∀ c, o = some c → ∃ a cap, c = .ex cap ∧ v = .slice (some a) xs.length cap ∧ xs.length ≤ cap ∧ cap ≤ maxLen ∧ (0 < cap → a = ⟨pl.b, pl.base, none⟩)) ∧
      (∃ cells el fr, W.heap[pl.b]? = some (.cells cells el fr) ∧ cells.size = pl.n ∧ pl.base + (rowOf f xs).length ≤ pl.n ∧ PlainRow cells pl.base (rowOf f xs)) ∧ (∀ a ∈ xs, rd a) ∧ xs.length ≤ reachBytes := by
  obtain ⟨c0, el0, fr0, hb0⟩ := h0
  rcases DataW.trod_slice ht h with ⟨hv, _⟩ | ⟨a, len, cap, elems, rest, m, _, hv, hxe, _, hlc, hcm, hlen, hel, hsp, _⟩
  · cases hv
    exact ⟨[], none, ⟨0, 0, c0.size⟩, fun _ => ⟨rfl, rfl⟩, (fun c hc => by cases hc), ⟨c0, el0, fr0, hb0, rfl, by simp [rowOf], (fun i a ha => by simp [rowOf] at ha)⟩, (fun a ha => by cases ha), Nat.zero_le _⟩
  · cases hv
    have hwe : x.1.weights P t = ((elems.map (·.1)).length + (rest.map (·.1)).length) * P.bytesOf e :: (DataW.weightsAll P e (elems.map (·.1)) ++ DataW.weightsAll P e (rest.map (·.1))) := by
      rw [hxe]; simp only [DataW.weights, ht]
    rw [hc] at hel hsp
    obtain ⟨hrl, hrest⟩ := hsp rfl
    -- each entry
    have each : ∀ i, i < len → ∃ a' : α, ∃ cs, rd a' ∧ PlainRs (f a') cs ∧ W.cells? 0 (a.add (i * k)) k = some cs := fun i hi => by
      have h1 := hel i hi
      have hie : i < elems.length := by omega
      rw [List.getElem?_eq_getElem hie] at h1
      obtain ⟨cs, h2, h3⟩ := Option.bind_eq_some_iff.1 h1
      have hwi : Sized P e (elems[i]).1 := fun n hn => hw n (by
        rw [hwe]
        refine List.mem_cons_of_mem _ (List.mem_append_left _ (weights_mem_all (j := i) (d := (elems[i]).1) ?_ n hn))
        rw [List.getElem?_map, List.getElem?_eq_getElem hie]; rfl)
      obtain ⟨a', h4, h5⟩ := hrd m cs _ h3 hwi
      exact ⟨a', cs, h4, h5, h2⟩
    have mk : ∀ j, j ≤ len → ∃ xs : List α, xs.length = j ∧ ∀ i, i < j → ∃ a' cs, xs[i]? = some a' ∧ rd a' ∧ PlainRs (f a') cs ∧ W.cells? 0 (a.add (i * k)) k = some cs := by
      intro j
      induction j with
      | zero => intro _; exact ⟨[], rfl, fun i hi => absurd hi (Nat.not_lt_zero _)⟩
      | succ j ih =>
        intro hj
        obtain ⟨xs, h1, h2⟩ := ih (by omega)
        obtain ⟨a', cs, h3, h4, h5⟩ := each j (by omega)
        refine ⟨xs ++ [a'], by simp [h1], fun i hi => ?_⟩
        by_cases hij : i < j
        · obtain ⟨b, ds, g1, g2⟩ := h2 i hij
          exact ⟨b, ds, by rw [List.getElem?_append_left (by omega)]; exact g1, g2⟩
        · have : i = j := by omega
          subst this
          exact ⟨a', cs, by rw [← h1]; simp, h3, h4, h5⟩
    obtain ⟨xs, hxl, hxs⟩ := mk len (Nat.le_refl _)
    have hmost : xs.length ≤ reachBytes := by
      have h1 := hw (((elems.map (·.1)).length + (rest.map (·.1)).length) * P.bytesOf e) (by rw [hwe]; exact List.mem_cons_self ..)
      have h2 : elems.length * 1 ≤ ((elems.map (·.1)).length + (rest.map (·.1)).length) * P.bytesOf e := Nat.mul_le_mul (by simp) hby
      omega
    have hmem : ∀ a ∈ xs, rd a := fun b hb => by
      obtain ⟨i, hi⟩ := List.mem_iff_getElem?.1 hb
      obtain ⟨a', cs, g1, g2, _⟩ := hxs i (by have := (List.getElem?_eq_some_iff.1 hi).1; omega)
      rw [g1] at hi; cases hi; exact g2
    by_cases hcap : cap = 0
    · have hl0 : xs = [] := List.length_eq_zero_iff.1 (by omega)
      subst hl0
      refine ⟨[], some (.ex cap), ⟨0, 0, c0.size⟩, (fun h => by cases h), (fun c hc => ?_), ⟨c0, el0, fr0, hb0, rfl, by simp [rowOf], (fun i a ha => by simp [rowOf] at ha)⟩, hmem, hmost⟩
      cases hc
      exact ⟨a, cap, rfl, by rw [← hxl], Nat.zero_le _, hcm, fun h => by omega⟩
    · -- the block
      have first : ∃ cs, W.cells? 0 a k = some cs := by
        by_cases hl : 0 < len
        · obtain ⟨_, cs, _, _, _, g⟩ := hxs 0 hl
          have : a.add (0 * k) = a := by rw [Nat.zero_mul]; rfl
          rw [this] at g; exact ⟨cs, g⟩
        · have h1 := hrest 0 (by omega)
          rw [List.getElem?_eq_getElem (by omega)] at h1
          obtain ⟨cs, h2, _⟩ := Option.bind_eq_some_iff.1 h1
          have : a.add ((len + 0) * k) = a := by rw [show len + 0 = 0 by omega, Nat.zero_mul]; rfl
          rw [this] at h2; exact ⟨cs, h2⟩
      obtain ⟨cs1, hcs1⟩ := first
      obtain ⟨hl1, hc1⟩ := cells?_one hcs1
      have hc10 := hc1 0 hk
      rw [List.getElem?_eq_getElem (by omega)] at hc10
      obtain ⟨cells, el, fr, hblk, hcell0, hspot⟩ := cell_block hc10
      have hlt0 : a.off < cells.size := by have := (Array.getElem?_eq_some_iff.1 hcell0).1; omega
      -- every cell
      have hcells : ∀ i, i < len → ∀ j, j < k → ∃ a' v, xs[i]? = some a' ∧ cells[a.off + (i * k + j)]? = some v ∧ ∀ b, (f a')[j]? = some b → ∀ φ, VR φ b v := fun i hi j hj => by
        obtain ⟨a', cs, g1, _, g3, g4⟩ := hxs i hi
        obtain ⟨hl2, hc2⟩ := cells?_one g4
        have hcj := hc2 j hj
        have hadd : (a.add (i * k)).add j = a.add (i * k + j) := by
          unfold Addr.add
          by_cases h1 : i * k = 0 <;> by_cases h2 : j = 0 <;> simp [h1, h2, Nat.add_assoc]
        rw [hadd, List.getElem?_eq_getElem (by omega)] at hcj
        obtain ⟨c2, el2, fr2, hb2, hv2, _⟩ := cell_block hcj
        rw [hblk] at hb2; cases hb2
        refine ⟨a', _, g1, hv2, fun b hb φ => ?_⟩
        obtain ⟨v', hv', hr'⟩ := (g3 φ).get j b hb
        rw [List.getElem?_eq_getElem (by omega)] at hv'
        cases hv'; exact hr'
      refine ⟨xs, some (.ex cap), ⟨a.block, a.off, cells.size⟩, (fun h => by cases h), (fun c hc => ?_), ⟨cells, el, fr, hblk, rfl, ?_, (fun i b hb => ?_)⟩, hmem, hmost⟩
      · cases hc
        refine ⟨a, cap, rfl, by rw [hxl], by omega, hcm, fun _ => ?_⟩
        have := hspot rfl
        cases a; simp_all
      · rw [rowOf_len hf, hxl]
        show a.off + len * k ≤ cells.size
        by_cases hl : len = 0
        · subst hl; omega
        · obtain ⟨_, v, _, hv, _⟩ := hcells (len - 1) (by omega) (k - 1) (by omega)
          have := (Array.getElem?_eq_some_iff.1 hv).1
          have e : (len - 1) * k + k = len * k := by rw [← Nat.succ_mul]; congr 1; omega
          omega
      · obtain ⟨x, h1, h2⟩ := rowOf_split hk hf hb
        have hik : i / k < len := by rw [← hxl]; exact (List.getElem?_eq_some_iff.1 h1).1
        obtain ⟨a', v, g1, g2, g3⟩ := hcells (i / k) hik (i % k) (Nat.mod_lt _ hk)
        rw [h1] at g1; cases g1
        refine ⟨v, ?_, g3 b h2⟩
        rw [← mul_split hk] at g2; exact g2

/- ---------------------------------------------------------------- a law's end -/
theorem Below.sameAt {B : Nat} (hb : Below B W W') {p : MemPlace} (hp : p.block < B) : W.sameAt W' p := by
  cases p with
  | cell b off =>
    have hb' : b < B := hp
    show W'.cell? ⟨b, off, none⟩ = W.cell? ⟨b, off, none⟩
    unfold World.cell?
    simp only [hb.block b hb']
  | map b => exact hb.block b hp
theorem TrodAll_carry {H : Type} {enc : TypeId × Value → H} {base : Nat} {sp : Nat → Bool} {held : Bool} : ∀ {ts : List TypeId} {vs : List Value} {ds : List (DataW H)} {ps : List MemPlace}, DataW.TrodAll enc P W base sp held ts vs ds ps → (∀ p ∈ ps, W.sameAt W' p) → DataW.TrodAll enc P W' base sp held ts vs ds ps
  | [], [], [], _, h, _ => h
  | _ :: _, _ :: _, _ :: _, _, ⟨p, q, ⟨n, h1⟩, h2, e⟩, hs => ⟨p, q, ⟨n, DataW.trod_carry n _ _ _ h1 fun x hx => hs x (by rw [e]; exact List.mem_append_left _ hx)⟩, TrodAll_carry h2 fun x hx => hs x (by rw [e]; exact List.mem_append_right _ hx), e⟩
theorem TrodAll_lt {H : Type} {enc : TypeId × Value → H} {base : Nat} {sp : Nat → Bool} {held : Bool} : ∀ {ts : List TypeId} {vs : List Value} {ds : List (DataW H)} {ps : List MemPlace}, DataW.TrodAll enc P W base sp held ts vs ds ps → ∀ p ∈ ps, p.block < W.heap.size
  | [], [], [], _, h, p, hp => by rw [h] at hp; cases hp
  | _ :: _, _ :: _, _ :: _, _, ⟨p, q, ⟨n, h1⟩, h2, e⟩, x, hx => by
    rw [e] at hx
    rcases List.mem_append.1 hx with hx | hx
    · exact DataW.trod_lt n _ _ _ h1 x hx
    · exact TrodAll_lt h2 x hx

theorem law_post {H : Type} {enc : TypeId × Value → H} {f : Func} {s : ChangeSpec} {args : Array Value} {ds : List (DataW H)} {before : List MemPlace} {t : TypeId} (hW : DataW.Whole enc P f.params.toList [] false W args.toList ds [] before)
    (hvars : s.vars = []) (hs : s.fn H (ds ++ []) = { results := [.lit (.bool true)], args := ds }) (hrt : f.resultTypes = #[t]) (hbool : P.underlying t = some .bool)
    (hl : laidOutB P = true) (hm : mapsRowed P = true) (hsl : ∀ t e, t < P.types.size → P.underlying t = some (.slice e) → 0 < P.cellsOf e) (hts : ∀ t ∈ f.params.toList, t < P.types.size) (hb : Below W.heap.size W W') :
    s.post enc P f false true false false W args (.bool true) W' := by
  obtain ⟨p, q, hA, hV, rfl, hz, hn⟩ := hW
  obtain ⟨_, rfl⟩ := trodVars_none hV
  simp only [List.append_nil] at hz hn ⊢
  have hA' := TrodAll_carry (W' := W') hA fun x hx => Below.sameAt hb (TrodAll_lt hA x hx)
  refine ⟨ds, [], p, [], p, [], ⟨p, [], hA, by rw [hvars]; exact hV, by simp, hz, hn⟩, ?_, ?_, ?_, ⟨hb.os, hb.output, fun i hi => ?_⟩, fun h => by cases h⟩
  · rw [hs, hrt]
    exact ⟨[], [], ⟨1, by unfold DataW.trod; rw [hbool]; rfl⟩, rfl, rfl⟩
  · rw [hs]
    exact DataW.TrodAll.respare (kids_rows hl hm) hsl hts hA' fun x hx => by simpa using TrodAll_lt hA x hx
  · rw [hs, hvars]; rfl
  · rw [hb.block i hi]
    cases W.heap[i]? with
    | none => trivial
    | some o =>
      cases o <;> first | exact ⟨rfl, rfl, rfl, fun _ _ => rfl⟩ | exact .inr ⟨rfl, rfl⟩ | rfl

end
end Go.Ev

/-
  A small evaluator of the model's programs: reading structs, arrays of bytes, tables.
-/
namespace Go.Ev
open Go Go.RowKit Go.ChangeShapes
noncomputable section

variable {P : Program} {W : World} {H : Type} {enc : TypeId × Value → H} {base : Nat} {sp : Nat → Bool} {held : Bool}

theorem read_field {t t' o k n i : Nat} {fs : Array Field} {cs : List Value} {x : DataW H × List MemPlace} (h : DataW.trod enc P W base sp held n t cs = some x) (hu : P.underlying t = some (.struct fs))
    (hf : (fs[i]?).map (fun f => (f.type, f.offset)) = some (t', o)) (hc : P.cellsOf t' = k) (hw : Sized P t x.1) : ∃ m y, DataW.trod enc P W base sp held m t' ((cs.drop o).take k) = some y ∧ Sized P t' y.1 := by
  obtain ⟨xs, m, _, hx, _, hl, hel⟩ := DataW.trod_struct hu h
  cases hg : fs[i]? with
  | none => rw [hg] at hf; cases hf
  | some f =>
    rw [hg] at hf
    simp only [Option.map_some, Option.some.injEq, Prod.mk.injEq] at hf
    obtain ⟨rfl, rfl⟩ := hf
    have hi : i < fs.size := (Array.getElem?_eq_some_iff.1 hg).1
    have h1 := hel i f hg
    have hix : i < xs.length := by omega
    rw [List.getElem?_eq_getElem hix, hc] at h1
    refine ⟨m, _, h1, fun n hn => hw n ?_⟩
    have e : x.1.weights P t = DataW.weightsEach P (fs.toList.map (·.type)) (xs.map (·.1)) := by rw [hx]; simp only [DataW.weights, hu]
    rw [e]
    refine DataW.weights_mem_each (j := i) (t := f.type) (d := (xs[i]).1) ?_ ?_ n hn
    · rw [List.getElem?_map]
      have : fs.toList[i]? = some f := by simpa using hg
      rw [this]; rfl
    · rw [List.getElem?_map, List.getElem?_eq_getElem hix]; rfl
theorem read_len {t n k : Nat} {fs : Array Field} {cs : List Value} {x : DataW H × List MemPlace} (h : DataW.trod enc P W base sp held n t cs = some x) (hu : P.underlying t = some (.struct fs)) (hc : P.cellsOf t = k) : cs.length = k := by
  obtain ⟨xs, m, _, _, hl, _, _⟩ := DataW.trod_struct hu h
  rw [← hc]; exact hl

theorem take_one {cs : List Value} {o : Nat} {v : Value} (h : (cs.drop o).take 1 = [v]) : cs[o]? = some v := by
  have h1 : ((cs.drop o).take 1)[0]? = some v := by rw [h]; rfl
  rw [List.getElem?_take] at h1
  simpa using h1

theorem read_string {t n : Nat} {cs : List Value} {o : Nat} {y : DataW H × List MemPlace} (ht : P.underlying t = some .string) (h : DataW.trod enc P W base sp held n t ((cs.drop o).take 1) = some y) (hw : Sized P t y.1) :
    ∃ s : List UInt8, cs[o]? = some (.string ⟨s.toArray⟩) ∧ s.length ≤ reachBytes := by
  obtain ⟨s, h1, h2, _⟩ := DataW.trod_string ht h
  refine ⟨s.data.toList, ?_, hw _ ?_⟩
  · rw [take_one h1]
  · rw [h2]; unfold DataW.weights; exact List.mem_singleton.2 rfl
theorem read_int {t n : Nat} {k : IntKind} {cs : List Value} {o : Nat} {y : DataW H × List MemPlace} (ht : P.underlying t = some (.int k)) (h : DataW.trod enc P W base sp held n t ((cs.drop o).take 1) = some y) :
    ∃ z : Int, cs[o]? = some (.int k z) ∧ (Lit.int k z).wf = true := by
  obtain ⟨z, h1, _, h3⟩ := DataW.trod_int ht h
  exact ⟨z, take_one h1, h3⟩
theorem wf_u8 {z : Int} (h : (Lit.int .u8 z).wf = true) : 0 ≤ z ∧ z < 256 := by
  simp [Lit.wf, IntKind.min, IntKind.max, IntKind.signed, IntKind.bits] at h
  omega
theorem wf_i64 {z : Int} (h : (Lit.int .i64 z).wf = true) : -9223372036854775808 ≤ z ∧ z < 9223372036854775808 := by
  simp [Lit.wf, IntKind.min, IntKind.max, IntKind.signed, IntKind.bits] at h
  omega

/- an array of bytes -/
theorem read_bytes {t e n m o : Nat} {cs : List Value} {y : DataW H × List MemPlace} (ht : P.underlying t = some (.array m e)) (he : P.underlying e = some (.int .u8)) (hce : P.cellsOf e = 1) (h : DataW.trod enc P W base sp held n t ((cs.drop o).take m) = some y) :
    ∃ f : Nat → UInt8, ∀ i, i < m → cs[o + i]? = some (.int .u8 (.ofNat (f i).toNat)) := by
  obtain ⟨xs, k, _, _, _, hl, hel⟩ := DataW.trod_array ht h
  have each : ∀ i, i < m → ∃ b : UInt8, cs[o + i]? = some (.int .u8 (.ofNat b.toNat)) := fun i hi => by
    have h1 := hel i hi
    rw [List.getElem?_eq_getElem (by omega), hce] at h1
    obtain ⟨z, h2, h3⟩ := read_int he h1
    obtain ⟨hz0, hz1⟩ := wf_u8 h3
    rw [Nat.mul_one, List.getElem?_take, if_pos hi, List.getElem?_drop] at h2
    refine ⟨UInt8.ofNat z.toNat, ?_⟩
    rw [h2]
    have : (UInt8.ofNat z.toNat).toNat = z.toNat := by rw [UInt8.toNat_ofNat']; omega
    rw [this]
    exact congrArg (fun z => some (Value.int .u8 z)) (Int.toNat_of_nonneg hz0).symm
  have : ∀ i, ∃ b : UInt8, i < m → cs[o + i]? = some (.int .u8 (.ofNat b.toNat)) := fun i => by
    by_cases hi : i < m
    · obtain ⟨b, hb⟩ := each i hi; exact ⟨b, fun _ => hb⟩
    · exact ⟨0, fun h => absurd h hi⟩
  exact ⟨fun i => (this i).choose, fun i hi => (this i).choose_spec hi⟩

/- a value of several cells is made of these -/
theorem value_agg {v : Value} {l : List Value} (h : v.cells.toList = l) (hl : l.length ≠ 1) : v = .agg l.toArray := by
  cases v <;> first | (simp [Value.cells] at h; subst h; rfl) | (simp [Value.cells] at h; subst h; simp at hl)

/- ---------------------------------------------------------------- tables -/
theorem laid_split {l : List (String × DataW Unit)} {n : String} {d : DataW Unit} : ∀ {ps : List MemPlace}, DataW.LaidVars P W l ps → (n, d) ∈ l →
    ∃ g t cs fuel p, P.globalNamed n = some g ∧ (P.globals[g]?).map (·.type) = some t ∧ W.var? P n = some cs ∧ DataW.trod (fun _ => ()) P W 0 (fun _ => true) false fuel t cs.toList = some (d, p) ∧ (∀ x ∈ MemPlace.row ⟨g, 0, none⟩ cs.size ++ p, x ∈ ps) := by
  induction l with
  | nil => intro ps _ h; cases h
  | cons y l ih =>
    obtain ⟨n', d'⟩ := y
    intro ps h hm
    obtain ⟨g, t, cs, fuel, p, q, h1, h2, h3, h4, h5, rfl⟩ := h
    rcases List.mem_cons.1 hm with e | hm
    · cases e
      exact ⟨g, t, cs, fuel, p, h1, h2, h3, h4, fun x hx => List.mem_append_left _ hx⟩
    · obtain ⟨g', t', cs', fuel', p', k1, k2, k3, k4, k5⟩ := ih h5 hm
      exact ⟨g', t', cs', fuel', p', k1, k2, k3, k4, fun x hx => List.mem_append_right _ (k5 x hx)⟩
theorem var_block {n : String} {g : Nat} {cs : Array Value} (hg : P.globalNamed n = some g) (h : W.var? P n = some cs) : ∃ el fr, W.heap[g]? = some (.cells cs el fr) := by
  simp only [World.var?, hg, Option.bind_some] at h
  split at h
  · rename_i c el fr hc
    cases h; exact ⟨el, fr, hc⟩
  · cases h

/- an array of numbers -/
theorem laid_ints {t e m fuel : Nat} {k : IntKind} {cs : List Value} {zs : List Int} {p : List MemPlace} (ht : P.underlying t = some (.array m e)) (he : P.underlying e = some (.int k)) (hce : P.cellsOf e = 1)
    (h : DataW.trod enc P W base sp held fuel t cs = some (.agg (zs.map fun z => .lit (.int k z)), p)) : ∀ (i : Nat) (z : Int), zs[i]? = some z → cs[i]? = some (.int k z) := by
  obtain ⟨xs, n, _, hx, _, hl, hel⟩ := DataW.trod_array ht h
  intro i z hz
  simp only [Prod.mk.injEq, DataW.agg.injEq] at hx
  have hlen : xs.length = zs.length := by have := congrArg List.length hx.1; simpa using this.symm
  have hi : i < zs.length := (List.getElem?_eq_some_iff.1 hz).1
  have h1 := hel i (by omega)
  rw [List.getElem?_eq_getElem (by omega), hce, Nat.mul_one] at h1
  obtain ⟨z', h2, h3, _⟩ := DataW.trod_int he h1
  have h4 : (zs.map fun z => (DataW.lit (.int k z) : DataW H))[i]? = (xs.map (·.1))[i]? := by rw [hx.1]
  rw [List.getElem?_map, List.getElem?_map, hz, List.getElem?_eq_getElem (by omega), h3] at h4
  simp only [Option.map_some, Option.some.injEq, DataW.lit.injEq, Lit.int.injEq, true_and] at h4
  subst h4
  exact take_one h2

/- a slice of texts without spare places -/
theorem laid_strs {t e fuel : Nat} {v : Value} {ss : List (List UInt8)} {p : List MemPlace} (ht : P.underlying t = some (.slice e)) (he : P.underlying e = some .string) (hce : P.cellsOf e = 1) (hne : 0 < ss.length)
    (h : DataW.trod enc P W base (fun _ => true) held fuel t [v] = some (.slice (ss.map fun s => .lit (.string s)) [], p)) :
    ∃ b o cells el fr, v = .slice (some ⟨b, o, none⟩) ss.length ss.length ∧ W.heap[b]? = some (.cells cells el fr) ∧ o + ss.length ≤ cells.size ∧ (∀ (i : Nat) (s : List UInt8), ss[i]? = some s → cells[o + i]? = some (.string ⟨s.toArray⟩)) ∧ MemPlace.cell b o ∈ p := by
  rcases DataW.trod_slice ht h with ⟨_, hx⟩ | ⟨a, len, cap, elems, rest, m, _, hv, hx, _, hlc, _, hlen, hel, hsp, _⟩
  · cases hx
  · cases hv
    simp only [Prod.mk.injEq, DataW.slice.injEq] at hx
    obtain ⟨⟨hx1, hx2⟩, hx3⟩ := hx
    have hr0 : rest = [] := by simpa using hx2.symm
    subst hr0
    obtain ⟨hrl, _⟩ := hsp rfl
    have hl : elems.length = ss.length := by have := congrArg List.length hx1; simpa using this.symm
    have hcap : cap = ss.length := by simp at hrl; omega
    have hlen' : len = ss.length := by omega
    subst hcap; subst hlen'
    rw [hce] at hel hx3
    have each : ∀ i, i < ss.length → ∃ s, ss[i]? = some s ∧ W.cell? (a.add i) = some (.string ⟨s.toArray⟩) := fun i hi => by
      have h1 := hel i hi
      rw [List.getElem?_eq_getElem (by omega), Nat.mul_one] at h1
      obtain ⟨cs, h2, h3⟩ := Option.bind_eq_some_iff.1 h1
      obtain ⟨s, h4, h5, _⟩ := DataW.trod_string he h3
      obtain ⟨_, hc⟩ := cells?_one h2
      have h6 := hc 0 (by omega)
      have ha : (a.add i).add 0 = a.add i := by unfold Addr.add; simp
      rw [ha, h4] at h6
      have h7 : (ss.map fun s => (DataW.lit (.string s) : DataW H))[i]? = (elems.map (·.1))[i]? := by rw [hx1]
      rw [List.getElem?_map, List.getElem?_map, List.getElem?_eq_getElem hi, List.getElem?_eq_getElem (by omega), h5] at h7
      simp only [Option.map_some, Option.some.injEq, DataW.lit.injEq, Lit.string.injEq] at h7
      refine ⟨ss[i], List.getElem?_eq_getElem hi, ?_⟩
      rw [h6, h7]; rfl
    obtain ⟨s0, _, hc0⟩ := each 0 hne
    obtain ⟨cells, el, fr, hblk, hcell0, hspot⟩ := cell_block hc0
    have hs := hspot rfl
    have all : ∀ i, i < ss.length → ∃ s, ss[i]? = some s ∧ cells[a.off + i]? = some (.string ⟨s.toArray⟩) := fun i hi => by
      obtain ⟨s, h1, h2⟩ := each i hi
      obtain ⟨c2, el2, fr2, hb2, hv2, _⟩ := cell_block h2
      rw [hblk] at hb2; cases hb2
      exact ⟨s, h1, hv2⟩
    refine ⟨a.block, a.off, cells, el, fr, ?_, hblk, ?_, fun i s hi => ?_, ?_⟩
    · cases a; simp_all
    · obtain ⟨_, _, h2⟩ := all (ss.length - 1) (by omega)
      have := (Array.getElem?_eq_some_iff.1 h2).1; omega
    · obtain ⟨s', h1, h2⟩ := all i (List.getElem?_eq_some_iff.1 hi).1
      rw [h1] at hi; cases hi; exact h2
    · rw [hx3]
      refine List.mem_append_left _ ?_
      unfold MemPlace.row
      rw [List.mem_map]
      exact ⟨0, by rw [List.mem_range]; simp; omega, rfl⟩

end
end Go.Ev
