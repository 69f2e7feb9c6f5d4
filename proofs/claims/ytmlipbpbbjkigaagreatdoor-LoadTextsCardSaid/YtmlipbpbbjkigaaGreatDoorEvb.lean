/-
  A small evaluator of the model's programs, part 2 of 4: definitions and their soundness.
-/
import Derived.Test.YtmlipbpbbjkigaaGreatDoorEva
import Derived.Room.Entries
import Derived.Laws.RangeString
import Derived.Scope
set_option linter.unusedVariables false
set_option linter.unusedSimpArgs false
set_option maxHeartbeats 2000000
/-
  A small evaluator of the model's programs: append, copy, clear; conversions between texts and bytes.
-/
namespace Go.Ev
open Go Go.RowKit

variable {P : Program} {T : Tab} {B : Nat} {W w : World} {φ : Phi} {h : AHeap}

theorem bytesE_R (φ : Phi) : ∀ s : List UInt8, VRs φ (bytesE s) (s.map fun b => Value.int .u8 (b.toNat : Int))
  | [] => VRs.nil
  | b :: bs => VRs.cons (by simp [VR]) (bytesE_R φ bs)
theorem bytesE_length : ∀ s : List UInt8, (bytesE s).length = s.length
  | [] => rfl
  | b :: bs => by simp [bytesE, bytesE_length bs]
theorem bytesE_take : ∀ (n : Nat) (s : List UInt8), (bytesE s).take n = bytesE (s.take n)
  | 0, _ => by simp [bytesE]
  | n + 1, [] => by simp [bytesE]
  | n + 1, b :: bs => by simp [bytesE, bytesE_take n bs]

/- what is appended or copied -/
theorem sourceE_run (s : Sim B W φ h w) {es n : Nat} {x : AV} {x' : Value} {new : List AV} (e : sourceE es x h = some (n, new)) (hx : VR φ x x') (hes : 0 < es) :
    (Builtin.lenOf x').run P w = .ok n w ∧ new.length = n * es ∧
    ∀ m, m ≤ n → ∃ news : List Value, (Builtin.firstCells es m x').run P w = .ok news.toArray w ∧ VRs φ (new.take (m * es)) news := by
  cases x <;> simp only [sourceE] at e <;> first | (cases e; done) | skip
  · rename_i u
    replace e := ck_some e; obtain ⟨h1, e⟩ := e
    have h1 := beq_eq h1
    subst h1
    cases e
    simp only [VR] at hx; subst hx
    refine ⟨by simp [Builtin.lenOf, ByteArray.size], by simp [bytesE_length], fun m hm => ⟨(u.take m).map fun b => Value.int .u8 (b.toNat : Int), ?_, ?_⟩⟩
    · simp only [Builtin.firstCells, Sem.run_pure]
      congr 1
      apply Array.ext'
      simp [List.extract_eq_take_drop]
    · rw [Nat.mul_one, bytesE_take]; exact bytesE_R φ _
  · rename_i l o ln cap
    simp only [VR] at hx
    obtain ⟨p, a, c, hp, rfl, hlc, ha, _⟩ := hx
    unfold rowAt at e
    cases hg : h.get l with
    | none => rw [hg] at e; cases e
    | some ob' =>
      rw [hg] at e
      cases ob' with
      | row cs opn fz wr =>
        replace e := ck_some e; obtain ⟨hle, e⟩ := e
        cases e
        have hle := ble_le hle
        refine ⟨rfl, by simp [takeAt]; omega, fun m hm => ?_⟩
        have hmul : m * es ≤ n * es := Nat.mul_le_mul_right _ hm
        obtain ⟨vs, hv, hvr, hvl⟩ := s.cells (P := P) hg hp o (m * es) (by omega)
        refine ⟨vs, ?_, ?_⟩
        · simp only [Builtin.firstCells]
          by_cases h0 : 0 < c
          · rw [ha h0]; exact hv
          · have : m = 0 := by omega
            subst this
            rw [Nat.zero_mul] at hvl ⊢
            have : vs = [] := List.length_eq_zero_iff.1 hvl
            subst this
            rfl
        · have : takeAt cs o (m * es) = (takeAt cs o (n * es)).take (m * es) := by
            unfold takeAt; rw [List.take_take, Nat.min_eq_left hmul]
          rw [← this]; exact hvr
      | amap es c => cases e
      | siter x y => cases e
      | dead => cases e
  · cases e
    simp only [VR] at hx; subst hx
    refine ⟨rfl, by simp, fun m hm => ⟨[], ?_, by simp [VRs]⟩⟩
    simp [Builtin.firstCells]

theorem grown_le (w : World) (need old : Nat) (e : TypeId) : need ≤ grownCap w need old e := by
  unfold grownCap Question.cut; exact Nat.le_add_right _ _

theorem zeroCells_eq (z : Array Value) (n : Nat) (hz : z.size ≠ 0) : Builtin.zeroCells z n = ((List.replicate n z.toList).flatten).toArray := by
  unfold Builtin.zeroCells; exact rep_map z n hz

theorem rep_length (z : List Value) : ∀ n, ((List.replicate n z).flatten).length = n * z.length
  | 0 => by simp
  | n + 1 => by rw [List.replicate_succ, List.flatten_cons, List.length_append, rep_length z n, Nat.succ_mul]; omega

/- append, where there is no room -/
theorem append_grow_run (k : TabOk P T) {t xt e0 : TypeId} {te : Ti} {dx : TypeDesc} (ht : P.underlying t = some (.slice e0)) (hxt : P.underlying xt = some dx) (hni : ∀ q, dx ≠ .int q) (hte : T.ty.get e0 = some te)
    {base : Option Addr} {sLen sCap n : Nat} {x' : Value} {olds news : List Value} {ty : TypeId}
    (hl : (Builtin.lenOf x').run P w = .ok n w)
    (hold : (Builtin.firstCells te.size sLen (.slice base sLen sCap)).run P w.drew = .ok olds.toArray w.drew) (hnew : (Builtin.firstCells te.size n x').run P w.drew = .ok news.toArray w.drew)
    (hg : sCap < sLen + n) (hb : (sLen + n) * te.bytes ≤ 140737488355328) (hb1 : 1 ≤ te.bytes) (hz : te.zero.length = te.size) (hz0 : 0 < te.size) :
    ∃ spare : List Value, spare.length = (grownCap w (sLen + n) sCap e0 - (sLen + n)) * te.size ∧
    (Builtin.append_ #[t, xt] ty #[.slice base sLen sCap, x']).run P w =
      .ok (.slice (some ⟨w.heap.size, 0, none⟩) (sLen + n) (grownCap w (sLen + n) sCap e0)) (w.drew.alloc (.cells (olds ++ news ++ spare).toArray e0)) := by
  obtain ⟨i, z, hi, hzv, hs, hbb, hzr⟩ := zero_cells (k.ty e0 te hte)
  have hzl : z.cells.size = te.size := by have := (hzr (fun _ => none)).length; rw [hz] at this; simpa using this
  refine ⟨(List.replicate (grownCap w (sLen + n) sCap e0 - (sLen + n)) z.cells.toList).flatten, ?_, ?_⟩
  · rw [rep_length]; simp [hzl]
  · have hn : ¬ (sLen + n ≤ sCap) := by omega
    have hle : sLen + n ≤ (sLen + n) * te.bytes := Nat.le_mul_of_pos_right _ (by omega)
    have h63' : ¬ (((sLen + n : Nat) : Int) > Go.IntKind.i64.max ∧ ((false : Bool) = true ∨ i.bytes = 0)) := by
      intro hh; rcases hh.2 with h | h
      · cases h
      · rw [hbb] at h; omega
    have hcap : Builtin.nextslicecap (sLen + n) sCap * i.bytes ≤ 281474976710656 := growslice_fits hg (by rw [hbb]; exact hb)
    have h48' : ¬ (Builtin.nextslicecap (sLen + n) sCap * i.bytes > 2 ^ 48) := by omega
    have hsz : (sizeOf e0).run P w = .ok te.size w := by simp [sizeOf, typeInfo, hi, hs]
    have hu : (underlying xt).run P w = .ok dx w := run_underlying hxt w
    have hzc : Builtin.zeroCells z.cells (grownCap w (sLen + n) sCap e0 - (sLen + n)) = ((List.replicate (grownCap w (sLen + n) sCap e0 - (sLen + n)) z.cells.toList).flatten).toArray :=
      zeroCells_eq _ _ (by omega)
    have hinf : ∀ w : World, (typeInfo e0).run P w = .ok i w := fun w => by simp [typeInfo, hi]
    have hzero : ∀ w : World, (zeroValue e0).run P w = .ok z w := fun w => by simp [zeroValue, typeInfo, hi, hzv]
    simp only [Builtin.append_, List.getElem?_toArray, List.getElem?_cons_zero, List.getElem?_cons_succ, Sem.run_bind, run_underlying ht, Result.andThen_ok, hsz, hu, Sem.run_pure]
    simp only [Bool.false_eq_true, if_false, hl, Result.andThen_ok, hn, Sem.run_bind, hinf, false_or]
    rw [if_neg (by rw [hbb]; omega)]
    simp only [Sem.run_bind, hinf, Result.andThen_ok]
    rw [if_neg h48']
    simp only [run_choose, Question.forced, Bool.false_eq_true, if_false, Sem.run_bind, Result.andThen_ok, hinf, run_askRoom, World.drew_eq, hold, hnew, Bool.not_false, if_true, hzero, newRow, run_newObj, Sem.run_pure]
    rw [show (Question.appendCap (sLen + n) sCap e0).cut (w.tape w.drawn (Question.appendCap (sLen + n) sCap e0)) = grownCap w (sLen + n) sCap e0 from rfl, hzc]
    simp [World.alloc]

end Go.Ev

/-
  A small evaluator of the model's programs: append, copy, clear.
-/
namespace Go.Ev
open Go Go.RowKit

variable {P : Program} {T : Tab} {B : Nat} {W w : World} {φ : Phi} {h : AHeap}

/- a new object in a block where none lives -/
theorem Sim.add (s : Sim B W φ h w) {w' : World} {o : AObj} {p : Pl} (hn : h.next < PT.room)
    (hos : w'.os = w.os) (ht : w'.tape = w.tape) (hout : w'.output = w.output) (hsz : w.heap.size ≤ w'.heap.size) (hk : ∀ k, k < w.heap.size → k ≠ p.b → w'.heap[k]? = w.heap[k]?)
    (hfree : ∀ j oj pj, h.get j = some oj → oj.live = true → φ j = some pj → pj.b ≠ p.b) (hB : B ≤ p.b) (hb : p.b < w'.heap.size) (ho : ObjR (φ.add h.next p) w' p o) :
    Sim B W (φ.add h.next p) (h.push o) w' := by
  have hf := s.fresh
  have hle := Phi.le_add p hf
  refine ⟨⟨hos.trans s.below.os, ht.trans s.below.tape, hout.trans s.below.output, Nat.le_trans s.below.size hsz, fun k hk' => (hk k (Nat.lt_of_lt_of_le hk' s.base) (by omega)).trans (s.below.block k hk')⟩, ?_, ?_, ?_, ?_, ?_, ?_, ?_, Nat.le_trans s.base hsz⟩
  · intro j
    rw [AHeap.get_push hn]
    by_cases hj : j = h.next
    · subst hj; rw [if_pos rfl, Phi.add_same]; simp
    · rw [if_neg hj, Phi.add_ne φ p hj]; exact s.dom j
  · intro j hj
    have hj' : h.next + 1 ≤ j := hj
    rw [Phi.add_ne φ p (by omega)]; exact s.nxt j (by omega)
  · show h.next + 1 ≤ PT.room; omega
  · intro j oj pj ej hpj
    rw [AHeap.get_push hn] at ej
    by_cases hj : j = h.next
    · subst hj; rw [if_pos rfl] at ej; rw [Phi.add_same] at hpj; cases ej; cases hpj; exact ho
    · rw [if_neg hj] at ej; rw [Phi.add_ne φ p hj] at hpj
      exact ((s.obj j oj pj ej hpj).mono hle).heap fun hl => hk _ (s.lt j pj hpj) (hfree j oj pj ej hl hpj)
  · intro j pj hpj
    by_cases hj : j = h.next
    · subst hj; rw [Phi.add_same] at hpj; cases hpj; exact hb
    · rw [Phi.add_ne φ p hj] at hpj; have := s.lt j pj hpj; omega
  · intro j j' oj oj' pj pj' hne ej hlj ej' hlj' hpj hpj'
    rw [AHeap.get_push hn] at ej ej'
    by_cases hj : j = h.next
    · subst hj
      rw [if_neg (fun x => hne x.symm)] at ej'
      rw [Phi.add_ne φ p (fun x => hne x.symm)] at hpj'
      rw [Phi.add_same] at hpj; cases hpj
      exact fun x => hfree j' oj' pj' ej' hlj' hpj' x.symm
    · rw [if_neg hj] at ej; rw [Phi.add_ne φ p hj] at hpj
      by_cases hj' : j' = h.next
      · subst hj'
        rw [Phi.add_same] at hpj'; cases hpj'
        exact hfree j oj pj ej (AObj.live_of_wr hlj) hpj
      · rw [if_neg hj'] at ej'; rw [Phi.add_ne φ p hj'] at hpj'
        exact s.sep j j' oj oj' pj pj' hne ej hlj ej' hlj' hpj hpj'
  · intro j oj pj ej hwj hpj
    rw [AHeap.get_push hn] at ej
    by_cases hj : j = h.next
    · subst hj; rw [Phi.add_same] at hpj; cases hpj; exact hB
    · rw [if_neg hj] at ej; rw [Phi.add_ne φ p hj] at hpj; exact s.own j oj pj ej hwj hpj

/- append, where there is room -/
theorem append_room_run {t xt e0 : TypeId} {i : TypeInfo} {dx : TypeDesc} (ht : P.underlying t = some (.slice e0)) (hxt : P.underlying xt = some dx) (hni : ∀ q, dx ≠ .int q) (hi : P.info? e0 = some i)
    {base : Option Addr} {sLen sCap n : Nat} {x' : Value} {news : List Value} {ty : TypeId}
    (hl : (Builtin.lenOf x').run P w = .ok n w) (hnew : (Builtin.firstCells i.size n x').run P w = .ok news.toArray w) (hg : sLen + n ≤ sCap) :
    (Builtin.append_ #[t, xt] ty #[.slice base sLen sCap, x']).run P w =
      match base with
      | none => .ok (.slice none (sLen + n) sCap) w
      | some a => ((storeCells (a.add (sLen * i.size)) news).run P w).andThen fun _ w' => .ok (.slice (some a) (sLen + n) sCap) w' := by
  have hsz : (sizeOf e0).run P w = .ok i.size w := by simp [sizeOf, typeInfo, hi]
  have hu : (underlying xt).run P w = .ok dx w := run_underlying hxt w
  simp only [Builtin.append_, List.getElem?_toArray, List.getElem?_cons_zero, List.getElem?_cons_succ, Sem.run_bind, run_underlying ht, Result.andThen_ok, hsz, hu, Sem.run_pure]
  simp only [Bool.false_eq_true, if_false, hl, Result.andThen_ok, Sem.run_bind, if_pos hg, Bool.not_false, if_true, hnew]
  cases base with
  | none => rfl
  | some a => simp

theorem appendE_run (k : TabOk P T) (s : Sim B W φ h w) {t xt : TypeId} {sv x r : AV} {ho : Option AHeap} {s' x' : Value} (e : appendE T t xt sv x h = some (r, ho)) (hs : VR φ sv s') (hx : VR φ x x') (ty : TypeId) :
    Res P B W φ h w (Builtin.append_ #[t, xt] ty #[s', x']) r ho := by
  replace e := ob_some e; obtain ⟨ti, ht, e⟩ := e
  replace e := ob_some e; obtain ⟨tx, htx, e⟩ := e
  have kt := k.ty t ti ht
  have kx := k.ty xt tx htx
  split at e
  · cases e
  · rename_i e0 hd hni
    have hni' : ∀ q, tx.desc ≠ .int q := fun q hq => hni q hq
    replace e := ob_some e; obtain ⟨te, hte, e⟩ := e
    replace e := ck_some e; obtain ⟨h1, e⟩ := e
    replace e := ck_some e; obtain ⟨h2, e⟩ := e
    replace e := ck_some e; obtain ⟨h3, e⟩ := e
    replace e := ob_some e; obtain ⟨⟨n, new⟩, hsrc, e⟩ := e
    have h1 := ble_le h1
    have h2 := beq_eq h2
    have ke := k.ty e0 te hte
    obtain ⟨ie, z, hie, hze, hse, hbe, hzr⟩ := zero_cells ke
    obtain ⟨hlen, hnl, hcells⟩ := sourceE_run (P := P) s hsrc hx (by omega)
    obtain ⟨hlenD, _, hcellsD⟩ := sourceE_run (P := P) (s.drew (w.drawn + 1)) hsrc hx (by omega)
    obtain ⟨news, hnews, hnr⟩ := hcells n (Nat.le_refl n)
    obtain ⟨newsD, hnewsD, hnrD⟩ := hcellsD n (Nat.le_refl n)
    have htake : new.take (n * te.size) = new := List.take_of_length_le (by omega)
    rw [htake] at hnr hnrD
    have hund : P.underlying t = some (.slice e0) := by rw [kt.und, hd]
    dsimp only at e
    split at e
    · simp only [VR] at hs; subst hs
      split at e
      · cases e
        have := append_room_run (ty := ty) (base := none) (sLen := 0) (sCap := 0) hund kx.und hni' hie hlen (by rw [hse]; exact hnews) (Nat.le_refl _)
        exact Res.quiet s this (by simp [VR])
      · rename_i hn0
        replace e := ck_some e; obtain ⟨g1, e⟩ := e
        replace e := ck_some e; obtain ⟨g2, e⟩ := e
        replace e := ob_some e; obtain ⟨⟨l, h'⟩, hnew, e⟩ := e
        cases e
        have g1 := ble_le g1
        have g2 := ble_le g2
        have hn0 : n ≠ 0 := hn0
        obtain ⟨spare, hsp, hrun⟩ := append_grow_run (ty := ty) k (base := none) (sLen := 0) (sCap := 0) (olds := []) hund kx.und hni' hte hlen (by simp [Builtin.firstCells]) hnewsD (by omega) (by simpa using (by omega : n * te.bytes ≤ 140737488355328)) g2 h2 (by omega)
        simp only [Nat.zero_add, List.nil_append] at hrun hsp
        have hN := newE_run (s.drew (w.drawn + 1)) hnew hnrD spare e0 0 0 (fun i _ => by omega) (w' := w.drew.alloc (.cells (newsD ++ spare).toArray e0)) rfl rfl rfl (by simp [World.alloc, World.drew, -World.alloc_eq, -World.drew_eq])
          (fun q hq => by simp only [World.alloc, World.drew]; simp at hq; simp [Array.getElem?_push, Nat.ne_of_lt hq]) (by simp [World.alloc, World.drew, -World.alloc_eq, -World.drew_eq])
        have hcap := grown_le w n 0 e0
        have hnl' : newsD.length = n * te.size := by rw [hnrD.length, hnl]
        refine ⟨_, _, _, hrun, Phi.le_add _ hN.2.1, ?_, hN.1⟩
        refine slice_new (by omega) ?_
        show grownCap w n 0 e0 * te.size = (newsD ++ spare).length
        rw [List.length_append, hnl', hsp, ← Nat.add_mul]; congr 1; omega
    · rename_i l o len cap
      split at e
      · cases e
        have hs0 := hs
        simp only [VR] at hs
        obtain ⟨p, a, c, hp, rfl, hlc, ha, hcap⟩ := hs
        have hnil : newsD = [] := by have := hnrD.length; rw [hnl] at this; simpa using this
        have hnil' : news = [] := by have := hnr.length; rw [hnl] at this; simpa using this
        have := append_room_run (ty := ty) (base := some a) (sLen := len) (sCap := c) hund kx.und hni' hie hlen (by rw [hse]; exact hnews) (by omega)
        rw [hnil'] at this
        exact Res.quiet s (by rw [this]; simp [storeCells]) hs0
      · rename_i hn0
        have hn0 : n ≠ 0 := hn0
        simp only [VR] at hs
        obtain ⟨p, a, c, hp, rfl, hlc, ha, hcap⟩ := hs
        have inPlace : ∀ h', writeE l (o + len * te.size) new h = some h' → len + n ≤ c → ∃ w', (Builtin.append_ #[t, xt] ty #[.slice (some a) len c, x']).run P w = .ok (.slice (some a) (len + n) c) w' ∧ Sim B W φ h' w' := by
          intro h' hw hle
          obtain ⟨w', hst, hsim, _⟩ := writeE_run (P := P) s hw hnr hp
          refine ⟨w', ?_, hsim⟩
          rw [append_room_run (ty := ty) hund kx.und hni' hie hlen (by rw [hse]; exact hnews) hle]
          simp only []
          rw [ha (by omega), mul_add_zero, hse, hst]; rfl
        split at e
        · rename_i q
          have hcq : c = q := hcap
          subst hcq
          split at e
          · rename_i hle
            have hle := ble_le hle
            replace e := ob_some e; obtain ⟨h', hw, e⟩ := e
            cases e
            obtain ⟨w', hrun, hsim⟩ := inPlace h' hw hle
            exact ⟨_, w', φ, hrun, Phi.le_refl φ, by simp only [VR]; exact ⟨p, a, c, hp, rfl, hle, ha, rfl⟩, hsim⟩
          · rename_i hnle
            have hlt : c < len + n := by
              rcases Nat.lt_or_ge c (len + n) with hh | hh
              · exact hh
              · rw [Nat.ble_eq_true_of_le hh] at hnle; cases hnle
            unfold rowAt at e
            cases hg : h.get l with
            | none => rw [hg] at e; cases e
            | some ob' =>
              rw [hg] at e
              cases ob' with
              | row cs opn fz wr =>
                replace e := ck_some e; obtain ⟨g0, e⟩ := e
                replace e := ck_some e; obtain ⟨g1, e⟩ := e
                replace e := ck_some e; obtain ⟨g2, e⟩ := e
                replace e := ob_some e; obtain ⟨⟨l', h'⟩, hnew, e⟩ := e
                cases e
                have g0 := ble_le g0
                have g1 := ble_le g1
                have g2 := ble_le g2
                obtain ⟨olds, hold, holr, holl⟩ := (s.drew (w.drawn + 1)).cells (P := P) hg hp o (len * te.size) g0
                have hold' : (Builtin.firstCells te.size len (.slice (some a) len c)).run P w.drew = .ok olds.toArray w.drew := by
                  simp only [Builtin.firstCells]
                  by_cases h0 : 0 < c
                  · rw [ha h0]; exact hold
                  · have : len = 0 := by omega
                    subst this
                    rw [Nat.zero_mul] at holl ⊢
                    have : olds = [] := List.length_eq_zero_iff.1 holl
                    subst this; rfl
                obtain ⟨spare, hsp, hrun⟩ := append_grow_run (ty := ty) k (base := some a) (sLen := len) (sCap := c) hund kx.und hni' hte hlen hold' hnewsD hlt (by omega) g2 h2 (by omega)
                have hN := newE_run (s.drew (w.drawn + 1)) hnew (holr.append hnrD) spare e0 0 0 (fun i _ => by omega) (w' := w.drew.alloc (.cells (olds ++ newsD ++ spare).toArray e0)) rfl rfl rfl (by simp [World.alloc, World.drew, -World.alloc_eq, -World.drew_eq])
                  (fun q hq => by simp only [World.alloc, World.drew]; simp at hq; simp [Array.getElem?_push, Nat.ne_of_lt hq]) (by simp [World.alloc, World.drew, -World.alloc_eq, -World.drew_eq])
                have hcg := grown_le w (len + n) c e0
                have hnl' : newsD.length = n * te.size := by rw [hnrD.length, hnl]
                refine ⟨_, _, _, hrun, Phi.le_add _ hN.2.1, ?_, hN.1⟩
                refine slice_new (by omega) ?_
                show grownCap w (len + n) c e0 * te.size = (olds ++ newsD ++ spare).length
                rw [List.length_append, List.length_append, hnl', hsp, holl, ← Nat.add_mul, ← Nat.add_mul]; congr 1; omega
              | amap es c => cases e
              | siter x y => cases e
              | dead => cases e
        · rename_i es'
          unfold rowAt at e
          cases hg : h.get l with
          | none => rw [hg] at e; cases e
          | some ob' =>
            rw [hg] at e
            cases ob' with
            | row cs opn fz wr =>
              replace e := ck_some e; obtain ⟨hopn, e⟩ := e
              replace e := ck_some e; obtain ⟨hwr, e⟩ := e
              replace e := ck_some e; obtain ⟨hes, e⟩ := e
              replace e := ck_some e; obtain ⟨hfz, e⟩ := e
              replace e := ck_some e; obtain ⟨g0, e⟩ := e
              have hes := beq_eq hes
              subst hes
              have hfz := beq_eq hfz
              subst hfz
              have g0 := ble_le g0
              obtain ⟨cells, el, lo, hi, q1, q2, q4, q5, q6⟩ := s.obj l _ p hg hp
              split at e
              · rename_i hle
                have hle := ble_le hle
                replace e := ob_some e; obtain ⟨h', hw, e⟩ := e
                cases e
                have hle' : len + n ≤ c := by
                  have : (len + n) * te.size ≤ c * te.size := by
                    have hc2 : p.base + o + c * te.size = p.n := hcap
                    omega
                  exact Nat.le_of_mul_le_mul_right this (by omega)
                obtain ⟨w', hrun, hsim⟩ := inPlace h' hw hle'
                exact ⟨_, w', φ, hrun, Phi.le_refl φ, by simp only [VR]; exact ⟨p, a, c, hp, rfl, hle', ha, hcap⟩, hsim⟩
              · replace e := ck_some e; obtain ⟨g1, e⟩ := e
                replace e := ck_some e; obtain ⟨g2, e⟩ := e
                replace e := ob_some e; obtain ⟨⟨l', h'⟩, hnew, e⟩ := e
                cases e
                have g1 := ble_le g1
                have g2 := ble_le g2
                have hcap : p.base + o + c * te.size = p.n := hcap
                subst hwr
                have sk := s.kill hg rfl hp
                by_cases hle : len + n ≤ c
                · /- in place, behind what is known -/
                  obtain ⟨vs, hvs, hvr, hvl⟩ := s.cells (P := P) hg hp o (len * te.size) g0
                  have hmul : (len + n) * te.size ≤ c * te.size := Nat.mul_le_mul_right _ hle
                  have hmul2 : (len + n) * te.size = len * te.size + n * te.size := Nat.add_mul ..
                  have hnl' : news.length = n * te.size := by rw [hnr.length, hnl]
                  have hone : ∀ v ∈ news, v.oneCell' = true := by
                    obtain ⟨_, hnew⟩ := ck_some hnew
                    obtain ⟨hall, _⟩ := ck_some hnew
                    intro v hv
                    exact (hvr.append hnr).one hall v (List.mem_append.2 (.inr hv))
                  have hst := run_storeCells_at P p.b el lo hi (p.base + (o + len * te.size)) news 0 cells.toList w (by simpa using q1) hone (by simp; omega)
                    (fun j hj1 hj2 => q6 j (by omega) (by omega))
                  have hltb := s.lt l p hp
                  obtain ⟨hnx, hnew⟩ := ck_some hnew
                  obtain ⟨hall, hnew⟩ := ck_some hnew
                  cases hnew
                  have hnx := blt_lt hnx
                  refine ⟨.slice (some a) (len + n) c, { w with heap := w.heap.setIfInBounds p.b (.cells (overL cells.toList (p.base + (o + len * te.size) + 0) news).toArray el (lo, hi)) }, φ.add (h.put l .dead).next ⟨p.b, p.base + o, p.n⟩, ?_, Phi.le_add _ sk.fresh, ?_, ?_⟩
                  · rw [append_room_run (ty := ty) hund kx.und hni' hie hlen (by rw [hse]; exact hnews) hle]
                    simp only []
                    rw [ha (by omega), mul_add_zero, hse, hst]; rfl
                  · simp only [VR]
                    exact ⟨⟨p.b, p.base + o, p.n⟩, a, c, Phi.add_same _ _ _, rfl, hle, fun h0 => ha h0, by simpa using hcap⟩
                  · refine sk.add hnx rfl rfl rfl (by simp) (fun q _ hq => setB_get _ _ _ _ hq) ?_ (s.own l _ p hg rfl hp) (by simpa using hltb) ?_
                    · intro j oj pj ej hlj hpj
                      have hl := s.bound hp
                      rw [AHeap.get_put hl] at ej
                      by_cases hj : j = l
                      · subst hj; rw [if_pos rfl] at ej; cases ej; cases hlj
                      · rw [if_neg hj] at ej
                        exact fun hb => s.sep l j _ oj p pj (Ne.symm hj) hg rfl ej hlj hp hpj hb.symm
                    · refine ⟨(overL cells.toList (p.base + (o + len * te.size) + 0) news).toArray, el, lo, hi, by simp [hltb], by simp [overL]; omega, ?_, ?_, ?_⟩
                      · simp only [List.length_append, takeAt, List.length_take, List.length_drop, hnl]; omega
                      · intro i a0 ha0
                        have hmono := Phi.le_add ⟨p.b, p.base + o, p.n⟩ sk.fresh
                        have htl : (takeAt cs o (len * te.size)).length = len * te.size := by simp [takeAt]; omega
                        by_cases hi1 : i < len * te.size
                        · rw [List.getElem?_append_left (by omega)] at ha0
                          have ha1 : cs[o + i]? = some a0 := by
                            unfold takeAt at ha0
                            rw [List.getElem?_take, if_pos hi1, List.getElem?_drop] at ha0; exact ha0
                          obtain ⟨v, hv, hvr'⟩ := q5 (o + i) a0 ha1
                          refine ⟨v, ?_, VR.mono hmono _ _ hvr'⟩
                          simp only [overL, Nat.add_zero, List.getElem?_toArray]
                          rw [List.getElem?_append_left (by simp; omega), List.getElem?_take, if_pos (by omega)]
                          rw [show p.base + o + i = p.base + (o + i) by omega]; simpa using hv
                        · rw [List.getElem?_append_right (by omega), htl] at ha0
                          obtain ⟨v, hv, hvr'⟩ := hnr.get _ a0 ha0
                          have hb : i - len * te.size < news.length := by
                            rcases Nat.lt_or_ge (i - len * te.size) news.length with hh | hh
                            · exact hh
                            · rw [List.getElem?_eq_none hh] at hv; cases hv
                          refine ⟨v, ?_, VR.mono hmono _ _ hvr'⟩
                          simp only [overL, Nat.add_zero, List.getElem?_toArray]
                          rw [List.getElem?_append_right (by simp; omega)]
                          simp only [List.length_take, Array.length_toList, Nat.min_eq_left (show p.base + (o + len * te.size) ≤ cells.size by omega)]
                          rw [List.getElem?_append_left (by omega)]
                          rw [show p.base + o + i - (p.base + (o + len * te.size)) = i - len * te.size by omega]; exact hv
                      · intro j hj1 hj2
                        exact q6 j (by have : p.base + o + 0 ≤ j := hj1; omega) hj2
                · have hlt : c < len + n := by omega
                  obtain ⟨olds, hold, holr, holl⟩ := (s.drew (w.drawn + 1)).cells (P := P) hg hp o (len * te.size) g0
                  have hold' : (Builtin.firstCells te.size len (.slice (some a) len c)).run P w.drew = .ok olds.toArray w.drew := by
                    simp only [Builtin.firstCells]
                    by_cases h0 : 0 < c
                    · rw [ha h0]; exact hold
                    · have : len = 0 := by omega
                      subst this
                      rw [Nat.zero_mul] at holl ⊢
                      have : olds = [] := List.length_eq_zero_iff.1 holl
                      subst this; rfl
                  obtain ⟨spare, hsp, hrun⟩ := append_grow_run (ty := ty) k (base := some a) (sLen := len) (sCap := c) hund kx.und hni' hte hlen hold' hnewsD hlt (by omega) g2 h2 (by omega)
                  have hN := newE_run (sk.drew (w.drawn + 1)) hnew (holr.append hnrD) spare e0 0 0 (fun i _ => by omega) (w' := w.drew.alloc (.cells (olds ++ newsD ++ spare).toArray e0)) rfl rfl rfl (by simp [World.alloc, World.drew, -World.alloc_eq, -World.drew_eq])
                    (fun q hq => by simp only [World.alloc, World.drew]; simp at hq; simp [Array.getElem?_push, Nat.ne_of_lt hq]) (by simp [World.alloc, World.drew, -World.alloc_eq, -World.drew_eq])
                  have hcg := grown_le w (len + n) c e0
                  have hnl' : newsD.length = n * te.size := by rw [hnrD.length, hnl]
                  refine ⟨_, _, _, hrun, Phi.le_add _ hN.2.1, ?_, hN.1⟩
                  refine slice_new (by omega) ?_
                  show grownCap w (len + n) c e0 * te.size = (olds ++ newsD ++ spare).length
                  rw [List.length_append, List.length_append, hnl', hsp, holl, ← Nat.add_mul, ← Nat.add_mul]; congr 1; omega
            | amap es c => cases e
            | siter x y => cases e
            | dead => cases e
    · cases e
  · cases e

end Go.Ev

/-
  A small evaluator of the model's programs: copy, clear, conversions, lengths, iterators over texts.
-/
namespace Go.Ev
open Go Go.RowKit

variable {P : Program} {T : Tab} {B : Nat} {W w : World} {φ : Phi} {h : AHeap}

theorem minE_eq (a b : Nat) : minE a b = Nat.min a b := by
  unfold minE
  cases hb : Nat.ble a b with
  | true => exact (Nat.min_eq_left (ble_le hb)).symm
  | false =>
    have : b ≤ a := by
      rcases Nat.lt_or_ge b a with hh | hh
      · omega
      · rw [Nat.ble_eq_true_of_le hh] at hb; cases hb
    exact (Nat.min_eq_right this).symm

theorem copyE_run (k : TabOk P T) (s : Sim B W φ h w) {t : TypeId} {rest : List TypeId} {d x r : AV} {ho : Option AHeap} {d' x' : Value} (e : copyE T t d x h = some (r, ho)) (hd : VR φ d d') (hx : VR φ x x') (ty : TypeId) :
    Res P B W φ h w (Builtin.copy_ (t :: rest).toArray ty #[d', x']) r ho := by
  replace e := ob_some e; obtain ⟨ti, ht, e⟩ := e
  have kt := k.ty t ti ht
  split at e
  · rename_i e0 hdesc
    replace e := ob_some e; obtain ⟨te, hte, e⟩ := e
    replace e := ck_some e; obtain ⟨h1, e⟩ := e
    replace e := ob_some e; obtain ⟨⟨n, new⟩, hsrc, e⟩ := e
    have h1 := ble_le h1
    have ke := k.ty e0 te hte
    obtain ⟨hlen, hnl, hcells⟩ := sourceE_run (P := P) s hsrc hx h1
    dsimp only at e
    have hsz := ke.size_run (P := P) w
    split at e
    · cases e
      simp only [VR] at hd; subst hd
      obtain ⟨news, hnews, _⟩ := hcells 0 (Nat.zero_le _)
      refine Res.quiet s (v' := .int .i64 0) ?_ (by simp [VR])
      simp [Builtin.copy_, kt.und_run w, hdesc, hlen, hsz, hnews, goInt]
    · rename_i l o len cap
      replace e := ob_some e; obtain ⟨h', hw, e⟩ := e
      cases e
      simp only [VR] at hd
      obtain ⟨p, a, c, hp, rfl, hlc, ha, hcap⟩ := hd
      have hm := minE_eq n len
      rw [hm] at hw ⊢
      obtain ⟨news, hnews, hnr⟩ := hcells (Nat.min n len) (Nat.min_le_left _ _)
      obtain ⟨w', hst, hsim, _⟩ := writeE_run (P := P) s hw hnr hp
      refine ⟨goInt (Nat.min n len), w', φ, ?_, Phi.le_refl φ, by simp [VR, goInt], hsim⟩
      have hst' : (storeCells a news).run P w = .ok () w' := by
        by_cases h0 : 0 < c
        · rw [ha h0]; exact hst
        · have hz : Nat.min n len = 0 := by
            have : Nat.min n len ≤ len := Nat.min_le_right _ _
            omega
          have hn0 : news = [] := by
            have := hnr.length
            rw [hz] at this
            simpa using this
          subst hn0
          simpa [storeCells] using hst
      simp [Builtin.copy_, kt.und_run w, hdesc, hlen, hsz, hnews, hst']
    · cases e
  · cases e

theorem clearE_run (k : TabOk P T) (s : Sim B W φ h w) {t : TypeId} {rest : List TypeId} {x r : AV} {ho : Option AHeap} {x' : Value} (e : clearE T t x h = some (r, ho)) (hx : VR φ x x') (ty : TypeId) :
    Res P B W φ h w (Builtin.clear_ (t :: rest).toArray ty #[x']) r ho := by
  replace e := ob_some e; obtain ⟨ti, ht, e⟩ := e
  have kt := k.ty t ti ht
  split at e
  · rename_i e0 hd
    cases e
    simp only [VR] at hx; subst hx
    exact Res.quiet s (v' := .tuple #[]) (by simp [Builtin.clear_, kt.und_run w]) (by simp only [VR]; exact ⟨[], rfl, VRs.nil⟩)
  · rename_i e0 l o n cap hd
    replace e := ob_some e; obtain ⟨te, hte, e⟩ := e
    replace e := ck_some e; obtain ⟨h1, e⟩ := e
    replace e := ck_some e; obtain ⟨h2, e⟩ := e
    have h1 := ble_le h1
    have h2 := beq_eq h2
    have ke := k.ty e0 te hte
    obtain ⟨i, z, hi, hz, hs, hb, hzr⟩ := zero_cells ke
    have hzl : z.cells.size = te.size := by have := (hzr φ).length; rw [h2] at this; simpa using this
    simp only [VR] at hx
    obtain ⟨p, a, c, hp, rfl, hlc, ha, hcap⟩ := hx
    split at e
    · cases e
      exact Res.quiet s (v' := .tuple #[]) (by simp [Builtin.clear_, kt.und_run w]) (by simp only [VR]; exact ⟨[], rfl, VRs.nil⟩)
    · rename_i hn0
      replace e := ob_some e; obtain ⟨h', hw, e⟩ := e
      cases e
      have hrep : VRs φ (repE te.zero n) ((List.replicate n z.cells.toList).flatten) := (hzr φ).rep n
      obtain ⟨w', hst, hsim, _⟩ := writeE_run (P := P) s hw hrep hp
      have hn0 : n ≠ 0 := hn0
      refine ⟨.tuple #[], w', φ, ?_, Phi.le_refl φ, by simp only [VR]; exact ⟨[], rfl, VRs.nil⟩, hsim⟩
      have hzv : (zeroValue e0).run P w = .ok z w := by simp [zeroValue, typeInfo, hi, hz]
      have hzc : Builtin.zeroCells z.cells n = ((List.replicate n z.cells.toList).flatten).toArray := zeroCells_eq _ _ (by omega)
      have ha := ha (by omega)
      subst ha
      obtain ⟨m, rfl⟩ : ∃ m, n = m + 1 := ⟨n - 1, by omega⟩
      simp [Builtin.clear_, kt.und_run w, hd, hzv, hzc, hst]
  · cases e

theorem unbytesE_R : ∀ {cs : List AV} {bs : List UInt8} {vs : List Value}, unbytesE cs = some bs → VRs φ cs vs → ∃ ns : List Int, vs = ns.map (Value.int .u8) ∧ ns.map (fun n => UInt8.ofNat n.toNat) = bs
  | [], bs, vs, e, hv => by
    cases e; simp only [VRs] at hv; subst hv; exact ⟨[], rfl, rfl⟩
  | a :: cs, bs, vs, e, hv => by
    simp only [VRs] at hv
    obtain ⟨v, r, rfl, h1, h2⟩ := hv
    unfold unbytesE at e
    split at e
    · rename_i heq; cases heq
    · rename_i m r' heq
      cases heq
      replace e := ob_some e; obtain ⟨bs', hb, e⟩ := e
      cases e
      obtain ⟨ns, rfl, hns⟩ := unbytesE_R hb h2
      simp only [VR] at h1; subst h1
      exact ⟨Int.ofNat m :: ns, rfl, by simp [hns]⟩
    · cases e

theorem convE_run (k : TabOk P T) (s : Sim B W φ h w) {src dst : TypeId} {x r : AV} {ho : Option AHeap} {x' : Value} (e : convE T src dst x h = some (r, ho)) (hx : VR φ x x') :
    Res P B W φ h w (convert src dst x') r ho := by
  replace e := ob_some e; obtain ⟨ts, hts, e⟩ := e
  replace e := ob_some e; obtain ⟨td, htd, e⟩ := e
  have ks := k.ty src ts hts
  have kd := k.ty dst td htd
  split at e
  · rename_i k1 k2 k3 n hs hd
    cases e
    simp only [VR] at hx; subst hx
    refine Res.quiet s (v' := .int k2 (k2.wrap n)) ?_ (by simp [VR, wrapE_eq])
    simp [convert, ks.und_run w, kd.und_run w, hs, hd, Conv.intToInt]
  · rename_i u hs hd
    cases e
    simp only [VR] at hx; subst hx
    refine Res.quiet s (v' := .string ⟨u.toArray⟩) ?_ (by simp [VR])
    simp [convert, ks.und_run w, kd.und_run w, hs, hd]
  · rename_i e0 u hs hd
    replace e := ob_some e; obtain ⟨te, hte, e⟩ := e
    have ke := k.ty e0 te hte
    split at e
    · rename_i he
      replace e := ob_some e; obtain ⟨⟨l, h'⟩, hnew, e⟩ := e
      cases e
      simp only [VR] at hx; subst hx
      have hrun := Lib.run_convert_string_bytes (P := P) w src dst e0 ⟨u.toArray⟩ ks.und (by rw [kd.und, hd]) (by rw [ke.und, he])
      have hcs : Lib.bytesCells w e0 ⟨u.toArray⟩ = (u.map (fun b => Value.int .u8 (b.toNat : Int)) ++ List.replicate (grownCap w u.length 0 e0 - u.length) (Value.int .u8 0)).toArray := by
        unfold Lib.bytesCells
        apply Array.ext'
        simp [ByteArray.size]
      have hw1 := Lib.bytesWorld_at_new w e0 ⟨u.toArray⟩
      rw [hcs] at hw1
      have hN := newE_run s hnew (bytesE_R φ u) (List.replicate (grownCap w u.length 0 e0 - u.length) (Value.int .u8 0)) e0 _ _ (fun i hi => by simp at hi ⊢; omega) (w' := Lib.bytesWorld w e0 ⟨u.toArray⟩)
        rfl rfl rfl (Lib.bytesWorld_size _ _ _) (fun q hq => Lib.bytesWorld_at_old _ _ _ _ hq) hw1
      have hcap := grown_le w u.length 0 e0
      refine ⟨_, _, _, hrun, Phi.le_add _ hN.2.1, ?_, hN.1⟩
      have hsz : (⟨u.toArray⟩ : ByteArray).size = u.length := by simp [ByteArray.size]
      rw [hsz]
      refine slice_new hcap ?_
      show grownCap w u.length 0 e0 * 1 = _
      simp; omega
    · cases e
  · rename_i e0 l o len cap hs hd
    replace e := ob_some e; obtain ⟨te, hte, e⟩ := e
    have ke := k.ty e0 te hte
    split at e
    · rename_i he
      simp only [VR] at hx
      obtain ⟨p, a, c, hp, rfl, hlc, ha, hcap⟩ := hx
      unfold rowAt at e
      cases hg : h.get l with
      | none => rw [hg] at e; cases e
      | some ob' =>
        rw [hg] at e
        cases ob' with
        | row cs opn fz wr =>
          replace e := ck_some e; obtain ⟨g0, e⟩ := e
          replace e := ob_some e; obtain ⟨bs, hb, e⟩ := e
          cases e
          obtain ⟨vs, hvs, hvr, hvl⟩ := s.cells (P := P) hg hp o len (ble_le g0)
          obtain ⟨ns, rfl, hns⟩ := unbytesE_R hb hvr
          have hload : (loadCells a len).run P w = .ok (ns.map (Value.int .u8)).toArray w := by
            by_cases h0 : 0 < c
            · rw [ha h0]; exact hvs
            · have : len = 0 := by omega
              subst this
              have : ns = [] := by simpa using hvl
              subst this; rfl
          have h1 := run_convert_bytes_string (P := P) w src dst e0 (some a) len c (by rw [ks.und, hs]) (by rw [ke.und, he]) (by rw [kd.und, hd])
          have h2 := run_bytesToString (P := P) w a len c ns hload
          refine Res.quiet s (h1.trans h2) ?_
          simp only [VR]
          rw [foldl_push_bytes, hns]
          congr 1
          apply ByteArray.ext
          simp [ByteArray.empty, ByteArray.emptyWithCapacity]
          rfl
        | amap es c => cases e
        | siter x y => cases e
        | dead => cases e
    · cases e
  · rename_i e0 hs hd
    replace e := ob_some e; obtain ⟨te, hte, e⟩ := e
    have ke := k.ty e0 te hte
    split at e
    · rename_i he
      cases e
      simp only [VR] at hx; subst hx
      have := run_convert_bytes_nil (P := P) (w := w) src e0 (by rw [ks.und, hs]) (by rw [ke.und, he]) 0 0 dst (by rw [kd.und, hd])
      exact Res.quiet s this (by simp [VR]; rfl)
    · cases e
  · cases e

theorem lenE_run (k : TabOk P T) (s : Sim B W φ h w) {t : TypeId} {x r : AV} {x' : Value} (e : lenE T t x h = some r) (hx : VR φ x x') (ty : TypeId) :
    ∃ v, (Builtin.len_ #[t] ty #[x']).run P w = .ok v w ∧ VR φ r v := by
  replace e := ob_some e; obtain ⟨ti, ht, e⟩ := e
  have kt := k.ty t ti ht
  split at e
  · rename_i u hd; cases e; simp only [VR] at hx; subst hx
    have hsz : (⟨u.toArray⟩ : ByteArray).size = u.length := by simp [ByteArray.size]
    exact ⟨goInt u.length, by simp [Builtin.len_, kt.und_run w, hd, hsz], by simp [VR, goInt]⟩
  · rename_i n el hd; cases e
    exact ⟨goInt n, by simp [Builtin.len_, kt.und_run w, hd], by simp [VR, goInt]⟩
  · rename_i e0 l o n cap hd; cases e; simp only [VR] at hx; obtain ⟨p, a, c, hp, rfl, _⟩ := hx
    exact ⟨goInt n, by simp [Builtin.len_, kt.und_run w, hd], by simp [VR, goInt]⟩
  · rename_i e0 hd; cases e; simp only [VR] at hx; subst hx
    exact ⟨goInt 0, by simp [Builtin.len_, kt.und_run w, hd], by simp [VR, goInt]⟩
  · rename_i a0 hd
    replace e := ob_some e; obtain ⟨ta, hta, e⟩ := e
    have ka := k.ty a0 ta hta
    split at e
    · rename_i n el hda; cases e
      exact ⟨goInt n, by simp [Builtin.len_, kt.und_run w, hd, ka.und_run w, hda], by simp [VR, goInt]⟩
    · cases e
  · rename_i k0 e0 hd; cases e; simp only [VR] at hx; subst hx
    exact ⟨goInt 0, by simp [Builtin.len_, kt.und_run w, hd], by simp [VR, goInt]⟩
  · rename_i k0 e0 l hd
    simp only [VR] at hx; obtain ⟨p, hp, rfl⟩ := hx
    cases hg : h.get l with
    | none => rw [hg] at e; cases e
    | some ob' =>
      rw [hg] at e
      cases ob' with
      | amap es c =>
        cases e
        obtain ⟨entries, hq, hr⟩ := s.obj l _ p hg hp
        have hl : entries.size = es.length := by
          have : ∀ (a : List AE) (b : List MapEntry), ERs φ a b → b.length = a.length := by
            intro a
            induction a with
            | nil => intro b hb; simp only [ERs] at hb; subst hb; rfl
            | cons x xs ih => intro b hb; simp only [ERs] at hb; obtain ⟨y, r, rfl, _, _, _, hb⟩ := hb; simp [ih _ hb]
          simpa using this _ _ hr
        refine ⟨goInt entries.size, ?_, by simp [VR, goInt, hl]⟩
        simp [Builtin.len_, kt.und_run w, hd, getObj, Sem.run, hq]
      | row _ _ _ _ => cases e
      | siter _ _ => cases e
      | dead => cases e
  · cases e

theorem capE_run (k : TabOk P T) {t : TypeId} {x r : AV} {x' : Value} (e : capE T t x = some r) (hx : VR φ x x') (ty : TypeId) (w : World) :
    ∃ v, (Builtin.cap_ #[t] ty #[x']).run P w = .ok v w ∧ VR φ r v := by
  replace e := ob_some e; obtain ⟨ti, ht, e⟩ := e
  have kt := k.ty t ti ht
  split at e
  · rename_i e0 l o n q hd; cases e; simp only [VR] at hx; obtain ⟨p, a, c, hp, rfl, _, _, hc⟩ := hx
    have hc : c = q := hc
    subst hc
    exact ⟨goInt c, by simp [Builtin.cap_, kt.und_run w, hd], by simp [VR, goInt]⟩
  · rename_i e0 hd; cases e; simp only [VR] at hx; subst hx
    exact ⟨goInt 0, by simp [Builtin.cap_, kt.und_run w, hd], by simp [VR, goInt]⟩
  · cases e

end Go.Ev

/-
  A small evaluator of the model's programs: maps, and ranges over texts.
-/
namespace Go.Ev
open Go Go.RowKit

variable {P : Program} {T : Tab} {B : Nat} {W w : World} {φ : Phi} {h : AHeap}

theorem run_forIn_unit (w : World) {α : Type} (f : α → PUnit → Sem (ForInStep PUnit)) : ∀ (l : List α), (∀ x ∈ l, (f x PUnit.unit).run P w = .ok (.yield PUnit.unit) w) →
    (forIn l PUnit.unit f).run P w = .ok PUnit.unit w
  | [], _ => by simp
  | x :: l, hx => by
    simp only [List.forIn_cons, Sem.run_bind, hx x (by simp), Result.andThen_ok]
    exact run_forIn_unit w f l fun y hy => hx y (by simp [hy])

theorem checkKey_run (k : TabOk P T) : ∀ (d : Nat) (t : TypeId) (v : AV) (v' : Value), keyOkE T d t v = true → VR φ v v' → ∀ (em : Bool) (m : Nat) (w : World), (Instr.checkKey em (d + m) t v').run P w = .ok () w
  | 0, _, _, _, e, _, _, _, _ => by cases e
  | d + 1, t, v, v', e, hv, em, m, w => by
    rw [show d + 1 + m = (d + m) + 1 by omega]
    unfold keyOkE at e
    cases ht : T.ty.get t with
    | none => rw [ht] at e; cases e
    | some ti =>
      rw [ht] at e
      have kt := k.ty t ti ht
      dsimp only at e
      split at e
      · rename_i hd; simp only [VR] at hv; subst hv; simp [Instr.checkKey, kt.und_run w, hd]
      · rename_i hd; simp only [VR] at hv; subst hv; simp [Instr.checkKey, kt.und_run w, hd]
      · rename_i hd; simp only [VR] at hv; subst hv; simp [Instr.checkKey, kt.und_run w, hd]
      · rename_i n e0 cs hd
        cases hte : T.ty.get e0 with
        | none => rw [hte] at e; cases e
        | some te =>
          rw [hte] at e
          have ke := k.ty e0 te hte
          simp only [VR] at hv
          obtain ⟨vs, rfl, hvr⟩ := hv
          simp only [Instr.checkKey, Sem.run_bind, kt.und_run w, hd, Result.andThen_ok]
          simp only [Std.Legacy.Range.forIn_eq_forIn_range', Std.Legacy.Range.size, Nat.sub_zero, Nat.add_one_sub_one, Nat.div_one]
          refine (congrArg (fun z => Result.andThen z _) (run_forIn_unit w _ _ fun i hi => ?_)).trans rfl
          have hin : i < n := by simp [List.mem_range'] at hi; omega
          have hall := List.all_eq_true.1 e i (List.mem_range.2 hin)
          cases hp : partE T e0 cs (i * te.size) with
          | none => rw [hp] at hall; cases hall
          | some a =>
            rw [hp] at hall
            obtain ⟨a', ha, har⟩ := part_run k hp hvr w
            have IH := checkKey_run k d e0 a a' hall har em m w
            simp [ke.size_run w, ha, IH]
      · cases e

def foundV (es : List MapEntry) (j : Nat) : Option (Nat × AE) → Option (Nat × Value)
  | none => none
  | some (i, _) => (es[i]?).map fun e => (j + i, e.val)

def leafDesc : TypeDesc → Bool
  | .bool | .int _ | .string => true
  | _ => false

theorem findE_run (k : TabOk P T) {kt : TypeId} {q : AV} {q' : Value} (hq : VR φ q q') {d : Nat} (hok : keyOkE T d kt q = true) (w : World) : ∀ (es : List AE) (es' : List MapEntry) (r : Option (Nat × AE)), findE T kt q es = some r → ERs φ es es' →
    ((∀ j, (Instr.findAsking kt q' es' j).run P w = .ok (foundV es' j r) w) ∧
     (∀ j kd, P.underlying kt = some kd → leafDesc kd = true → Instr.findNow kd q' es' j = some (foundV es' j r)) ∧
     (∀ i a, r = some (i, a) → es[i]? = some a ∧ ∃ e', es'[i]? = some e' ∧ VR φ a.key e'.key ∧ VR φ a.val e'.val ∧ e'.born = a.born))
  | [], es', r, e, hr => by
    cases e
    simp only [ERs] at hr; subst hr
    exact ⟨fun j => by simp [Instr.findAsking, foundV], fun j kd _ _ => by simp [Instr.findNow, foundV], fun i a h => by cases h⟩
  | x :: es, es', r, e, hr => by
    simp only [ERs] at hr
    obtain ⟨e', rest, rfl, h1, h2, h3, hr⟩ := hr
    replace e := ob_some e; obtain ⟨b, hb, e⟩ := e
    have hE : (Op.equal kt q' e'.key).run P w = .ok b w := eqE_run k 12 kt q x.key b q' e'.key hb hq h1 9988 w
    have hS : ∀ kd, P.underlying kt = some kd → leafDesc kd = true → Instr.sameNow kd q' e'.key = some b := by
      intro kd hkd hleaf
      unfold eqE_ at hb
      obtain ⟨ti, ht, hb⟩ := ob_some hb
      have hu := (k.ty kt ti ht).und
      rw [hkd] at hu; cases hu
      cases hd : ti.desc <;> rw [hd] at hleaf hb <;> simp only [leafDesc] at hleaf <;> first | (cases hleaf; done) | skip
      all_goals
        cases hqe : q <;> cases hxe : x.key <;> rw [hqe, hxe] at hb <;> first | (cases hb; done) | skip
      all_goals
        rw [hqe] at hq
        rw [hxe] at h1
        simp only [VR] at hq h1
        rw [hq, h1]
      · cases hb; rfl
      · obtain ⟨hk, hb⟩ := ck_some hb
        cases hb
        have := kindEq_eq hk
        subst this
        simp [Instr.sameNow, eqE_eq]
      · cases hb; simp [Instr.sameNow, strEq_run]
    cases b with
    | true =>
      cases e
      refine ⟨fun j => by simp [Instr.findAsking, hE, foundV], fun j kd hkd hl => by simp [Instr.findNow, hS kd hkd hl, foundV], fun i a h => ?_⟩
      cases h
      exact ⟨rfl, e', rfl, h1, h2, h3⟩
    | false =>
      replace e := ob_some e; obtain ⟨r', hr', e⟩ := e
      obtain ⟨i1, i2, i3⟩ := findE_run k hq hok w es rest r' hr' hr
      cases r' with
      | none =>
        cases e
        refine ⟨fun j => by simp [Instr.findAsking, hE, i1, foundV], fun j kd hkd hl => by simp [Instr.findNow, hS kd hkd hl, i2 (j + 1) kd hkd hl, foundV], fun i a h => by cases h⟩
      | some ia =>
        obtain ⟨i, a⟩ := ia
        cases e
        refine ⟨fun j => ?_, fun j kd hkd hl => ?_, fun i' a' h => ?_⟩
        · simp [Instr.findAsking, hE, i1, foundV, Nat.add_assoc, Nat.add_comm 1 i]
        · simp [Instr.findNow, hS kd hkd hl, i2 (j + 1) kd hkd hl, foundV, Nat.add_assoc, Nat.add_comm 1 i]
        · cases h
          obtain ⟨g1, g2⟩ := i3 i a rfl
          exact ⟨by simpa using g1, by simpa using g2⟩

theorem keyOk_desc {d : Nat} {t : TypeId} {v : AV} (e : keyOkE T d t v = true) : ∃ ti, T.ty.get t = some ti ∧ (leafDesc ti.desc = true ∨ ∃ n e0, ti.desc = .array n e0) := by
  cases d with
  | zero => cases e
  | succ d =>
    unfold keyOkE at e
    cases ht : T.ty.get t with
    | none => rw [ht] at e; cases e
    | some ti =>
      rw [ht] at e
      refine ⟨ti, rfl, ?_⟩
      dsimp only at e
      split at e
      · rename_i hd; left; rw [hd]; rfl
      · rename_i hd; left; rw [hd]; rfl
      · rename_i hd; left; rw [hd]; rfl
      · rename_i hd; right; exact ⟨_, _, hd⟩
      · cases e

theorem findKey_run (k : TabOk P T) {kt : TypeId} {q : AV} {q' : Value} (hq : VR φ q q') {d : Nat} (hok : keyOkE T d kt q = true) {es : List AE} {es' : List MapEntry} {r : Option (Nat × AE)} (e : findE T kt q es = some r) (hr : ERs φ es es') (w : World) :
    (Instr.findKey kt q' es').run P w = .ok (foundV es' 0 r) w ∧
    (∀ i a, r = some (i, a) → es[i]? = some a ∧ ∃ e', es'[i]? = some e' ∧ VR φ a.key e'.key ∧ VR φ a.val e'.val ∧ e'.born = a.born) := by
  obtain ⟨h1, h2, h3⟩ := findE_run k hq hok w es es' r e hr
  refine ⟨?_, h3⟩
  obtain ⟨ti, ht, hd⟩ := keyOk_desc hok
  have kt' := k.ty kt ti ht
  rcases hd with hl | ⟨n, e0, hd⟩
  · have := h2 0 ti.desc kt'.und hl
    simp [Instr.findKey, kt'.und_run w, this]
  · have hA := h1 0
    cases es' with
    | nil =>
      have : r = none := by
        cases es with
        | nil => cases e; rfl
        | cons x xs => simp only [ERs] at hr; obtain ⟨_, _, hh, _⟩ := hr; cases hh
      subst this
      simp [Instr.findKey, kt'.und_run w, Instr.findNow, foundV]
    | cons x xs =>
      have hnow : Instr.findNow ti.desc q' (x :: xs) 0 = none := by
        rw [hd]; simp [Instr.findNow, Instr.sameNow]
      simp only [Instr.findKey, Sem.run_bind, kt'.und_run w, Result.andThen_ok, hnow]
      exact hA

/- the object behind a map -/
theorem Sim.amap (s : Sim B W φ h w) {l : Nat} {es : List AE} {c : Nat} {p : Pl} (e : h.get l = some (.amap es c)) (hp : φ l = some p) :
    ∃ entries, (getObj p.b).run P w = .ok (.map entries c) w ∧ w.heap[p.b]? = some (.map entries c) ∧ ERs φ es entries.toList := by
  obtain ⟨entries, h1, h2⟩ := s.obj l _ p e hp
  exact ⟨entries, by simp [getObj, Sem.run, h1], h1, h2⟩

theorem lookupE_run (k : TabOk P T) (s : Sim B W φ h w) {t : TypeId} {m q r : AV} {ok : Bool} {m' q' : Value} (e : lookupE T t m q ok h = some r) (hm : VR φ m m') (hq : VR φ q q') :
    ∃ v, (Instr.lookup t m' q' ok).run P w = .ok v w ∧ VR φ r v := by
  replace e := ob_some e; obtain ⟨ti, ht, e⟩ := e
  have kt := k.ty t ti ht
  split at e
  · rename_i kk e0 hd
    replace e := ob_some e; obtain ⟨te, hte, e⟩ := e
    replace e := ck_some e; obtain ⟨hok, e⟩ := e
    replace e := ob_some e; obtain ⟨res, hres, e⟩ := e
    have ke := k.ty e0 te hte
    obtain ⟨z, hz, hzr⟩ := ke.zero_run w
    have hzv := hzr φ
    have hck : ∀ em, (Instr.checkKey em 10000 kk q').run P w = .ok () w := fun em => checkKey_run k 12 kk q q' hok hq em 9988 w
    cases e
    have fin : ∀ (rr : Option (Nat × AE)) (found : Option (Nat × Value)), (match rr with | none => found = none | some (_, a) => ∃ i v, found = some (i, v) ∧ VR φ a.val v) →
        ∃ v, (do
          let (v, ok') ← match found with
            | some (_, v) => pure (v, true)
            | none => do pure (← zeroValue e0, false)
          pure (if ok = true then Value.tuple #[v, .bool ok'] else v) : Sem Value).run P w = .ok v w ∧ VR φ (lookRes te.zeroV ok rr) v := by
      intro rr found hf
      cases rr with
      | none =>
        subst hf
        cases ok with
        | true => exact ⟨.tuple #[z, .bool false], by simp [hz], by simp only [lookRes, VR]; exact ⟨[z, .bool false], rfl, VRs.cons hzv (VRs.cons (by simp [VR]) VRs.nil)⟩⟩
        | false => exact ⟨z, by simp [hz], hzv⟩
      | some ia =>
        obtain ⟨i0, a⟩ := ia
        obtain ⟨i, v, rfl, hv⟩ := hf
        cases ok with
        | true => exact ⟨.tuple #[v, .bool true], by simp, by simp only [lookRes, VR]; exact ⟨[v, .bool true], rfl, VRs.cons hv (VRs.cons (by simp [VR]) VRs.nil)⟩⟩
        | false => exact ⟨v, by simp, hv⟩
    cases m <;> simp only at hres <;> first | (cases hres; done) | skip
    · rename_i l
      simp only [VR] at hm
      obtain ⟨p, hp, rfl⟩ := hm
      cases hg : h.get l with
      | none => rw [hg] at hres; cases hres
      | some ob' =>
        rw [hg] at hres
        cases ob' with
        | amap es c =>
          obtain ⟨entries, hget, _, hr⟩ := s.amap (P := P) hg hp
          obtain ⟨hf, hprops⟩ := findKey_run k hq hok hres hr w
          obtain ⟨v, hv, hvr⟩ := fin res (foundV entries.toList 0 res) (by
            cases res with
            | none => rfl
            | some ia =>
              obtain ⟨i, a⟩ := ia
              obtain ⟨_, e', he', _, hv, _⟩ := hprops i a rfl
              exact ⟨0 + i, e'.val, by simp only [foundV, he']; rfl, hv⟩)
          refine ⟨v, ?_, hvr⟩
          rw [← hv]
          simp only [Instr.lookup, Sem.run_bind, kt.und_run w, hd, Result.andThen_ok, hget, Sem.run_pure, hck, hf]
          cases foundV entries.toList 0 res <;> rfl
        | row _ _ _ _ => cases hres
        | siter _ _ => cases hres
        | dead => cases hres
    · simp only [VR] at hm; subst hm
      cases hres
      obtain ⟨v, hv, hvr⟩ := fin none none rfl
      refine ⟨v, ?_, hvr⟩
      rw [← hv]
      have hf : (Instr.findKey kk q' []).run P w = .ok none w := (findKey_run (es := []) (r := none) k hq hok rfl (by simp [ERs]) w).1
      simp only [Instr.lookup, Sem.run_bind, kt.und_run w, hd, Result.andThen_ok, Sem.run_pure, hck, hf]
  · cases e

theorem setAt_modify {φ : Phi} {x : AE} {e' : MapEntry} (hk : VR φ x.key e'.key) (hv : VR φ x.val e'.val) (hb : e'.born = x.born) (f : MapEntry → MapEntry) : ∀ (i : Nat) (es : List AE) (es' : List MapEntry), ERs φ es es' → (∀ y, es'[i]? = some y → f y = e') → ERs φ (setAt es i x) (es'.modify i f)
  | i, [], es', h, _ => by simp only [ERs] at h; subst h; cases i <;> simp [setAt, ERs]
  | 0, a :: es, es', h, hf => by
    simp only [ERs] at h; obtain ⟨y, r, rfl, _, _, _, h⟩ := h
    have := hf y rfl
    simp only [setAt, List.modify_zero_cons, ERs, this]
    exact ⟨_, _, rfl, hk, hv, hb, h⟩
  | i + 1, a :: es, es', h, hf => by
    simp only [ERs] at h; obtain ⟨y, r, rfl, h1, h2, h3, h⟩ := h
    simp only [setAt, List.modify_succ_cons, ERs]
    exact ⟨_, _, rfl, h1, h2, h3, setAt_modify hk hv hb f i es r h fun z hz => hf z (by simpa using hz)⟩

theorem ERs.snoc {φ : Phi} {x : AE} {e' : MapEntry} (hk : VR φ x.key e'.key) (hv : VR φ x.val e'.val) (hb : e'.born = x.born) : ∀ (es : List AE) (es' : List MapEntry), ERs φ es es' → ERs φ (es ++ [x]) (es' ++ [e'])
  | [], es', h => by simp only [ERs] at h; subst h; simp only [List.nil_append, ERs]; exact ⟨_, _, rfl, hk, hv, hb, rfl⟩
  | a :: es, es', h => by
    simp only [ERs] at h; obtain ⟨y, r, rfl, h1, h2, h3, h⟩ := h
    simp only [List.cons_append, ERs]
    exact ⟨_, _, rfl, h1, h2, h3, ERs.snoc hk hv hb es r h⟩

mutual
theorem AV.eqb_eq : ∀ a b : AV, AV.eqb a b = true → a = b
  | .bool a, b, e => by cases b <;> simp [AV.eqb] at e; rw [e]
  | .int k a, b, e => by
    cases b <;> simp [AV.eqb] at e
    rw [kindEq_eq e.1]; rw [eqE_eq] at e; rw [eq_of_beq e.2]
  | .str a, b, e => by
    cases b <;> simp [AV.eqb] at e
    rw [strEq_eq] at e; rw [eq_of_beq e]
  | .ptr a c, b, e => by cases b <;> simp [AV.eqb] at e; rw [e.1, e.2]
  | .nilptr, b, e => by cases b <;> simp [AV.eqb] at e; rfl
  | .slice a c d f, b, e => by
    cases b <;> simp [AV.eqb] at e
    rename_i g
    have : f = g := by
      cases f <;> cases g <;> simp [Cap.eqb] at e <;> simp [e]
    rw [e.1.1.1, e.1.1.2, e.1.2, this]
  | .nilslice, b, e => by cases b <;> simp [AV.eqb] at e; rfl
  | .map a, b, e => by cases b <;> simp [AV.eqb] at e; rw [e]
  | .nilmap, b, e => by cases b <;> simp [AV.eqb] at e; rfl
  | .func f a c, b, e => by
    cases b <;> simp [AV.eqb] at e
    rw [e.1.1, AV.eqbs_eq _ _ e.1.2, AV.eqbs_eq _ _ e.2]
  | .nilFunc, b, e => by cases b <;> simp [AV.eqb] at e; rfl
  | .iface t v, b, e => by cases b <;> simp [AV.eqb] at e; rw [e.1, AV.eqb_eq _ _ e.2]
  | .nilIface, b, e => by cases b <;> simp [AV.eqb] at e; rfl
  | .agg a, b, e => by cases b <;> simp [AV.eqb] at e; rw [AV.eqbs_eq _ _ e]
  | .tuple a, b, e => by cases b <;> simp [AV.eqb] at e; rw [AV.eqbs_eq _ _ e]
theorem AV.eqbs_eq : ∀ a b : List AV, AV.eqbs a b = true → a = b
  | [], b, e => by cases b <;> simp [AV.eqbs] at e; rfl
  | a :: as, b, e => by
    cases b <;> simp [AV.eqbs] at e
    rw [AV.eqb_eq _ _ e.1, AV.eqbs_eq _ _ e.2]
end

theorem plainLeaf_one {φ : Phi} {a : AV} {v u : Value} (hp : plainLeaf a = true) (h1 : VR φ a v) (h2 : VR φ a u) : v = u ∧ ∀ n, Instr.sameBits n v u = true := by
  cases a <;> simp only [plainLeaf] at hp <;> first | (cases hp; done) | skip
  all_goals
    simp only [VR] at h1 h2
    subst h1; subst h2
    exact ⟨rfl, fun n => by cases n <;> simp [Instr.sameBits, strEq_run, strEq_eq]⟩

theorem plainLeaves_one {φ : Phi} : ∀ {as : List AV} {vs us : List Value}, plainLeaves as = true → VRs φ as vs → VRs φ as us → vs = us ∧ ∀ n, (vs.zip us).all (fun (x, y) => Instr.sameBits n x y) = true
  | [], vs, us, _, h1, h2 => by simp only [VRs] at h1 h2; subst h1; subst h2; exact ⟨rfl, fun _ => rfl⟩
  | a :: as, vs, us, hp, h1, h2 => by
    simp only [VRs] at h1 h2
    obtain ⟨v, r, rfl, g1, h1⟩ := h1
    obtain ⟨u, q, rfl, g2, h2⟩ := h2
    unfold plainLeaves at hp
    cases hl : plainLeaf a with
    | false => rw [hl] at hp; cases hp
    | true =>
      rw [hl] at hp
      obtain ⟨e1, e2⟩ := plainLeaf_one hl g1 g2
      obtain ⟨f1, f2⟩ := plainLeaves_one hp h1 h2
      subst e1; subst f1
      exact ⟨rfl, fun n => by simp only [List.zip_cons_cons, List.all_cons, e2 n, f2 n, Bool.and_self]⟩

theorem plainKey_one {φ : Phi} {a : AV} {v u : Value} (hp : plainKey a = true) (h1 : VR φ a v) (h2 : VR φ a u) : v = u ∧ Instr.sameBits 10000 v u = true := by
  cases a
  case agg cs =>
    simp only [VR] at h1 h2
    obtain ⟨vs, rfl, h1⟩ := h1
    obtain ⟨us, rfl, h2⟩ := h2
    obtain ⟨e1, e2⟩ := plainLeaves_one hp h1 h2
    subst e1
    refine ⟨rfl, ?_⟩
    show Instr.sameBits (9999 + 1) _ _ = true
    simp only [Instr.sameBits]
    simpa using e2 9999
  all_goals
    obtain ⟨e1, e2⟩ := plainLeaf_one (by simpa only [plainKey] using hp) h1 h2
    exact ⟨e1, e2 _⟩

theorem setObj_run {w : World} {r : Nat} {es : Array MapEntry} {c : Nat} (o : Obj) (hr : w.heap[r]? = some (.map es c)) : (setObj r o).run P w = .ok () { w with heap := w.heap.setIfInBounds r o } := by
  simp [setObj, Sem.run, hr]

theorem Sim.setMap (s : Sim B W φ h w) {l : Nat} {es es2 : List AE} {c c2 : Nat} {p : Pl} (e : h.get l = some (.amap es c)) (hp : φ l = some p) {entries : Array MapEntry} (hr : ERs φ es2 entries.toList) :
    Sim B W φ (h.put l (.amap es2 c2)) { w with heap := w.heap.setIfInBounds p.b (.map entries c2) } := by
  have hlt := s.lt l p hp
  exact s.turn e rfl hp rfl rfl rfl (by simp) (fun k hk => setB_get _ _ _ _ hk) ⟨entries, by simp [hlt], hr⟩

theorem mapUpdateE_run (k : TabOk P T) (s : Sim B W φ h w) {t : TypeId} {m q v : AV} {m' q' v' : Value} {h' : AHeap} (e : mapUpdateE T t m q v h = some h') (hm : VR φ m m') (hq : VR φ q q') (hv : VR φ v v') :
    ∃ w', (Instr.mapUpdate t m' q' v').run P w = .ok () w' ∧ Sim B W φ h' w' := by
  replace e := ob_some e; obtain ⟨ti, ht, e⟩ := e
  have kt := k.ty t ti ht
  split at e
  · rename_i kk e0 l hd
    simp only [VR] at hm
    obtain ⟨p, hp, rfl⟩ := hm
    cases hg : h.get l with
    | none => rw [hg] at e; cases e
    | some ob' =>
      rw [hg] at e
      cases ob' with
      | amap es c =>
        dsimp only at e
        replace e := ck_some e; obtain ⟨hok, e⟩ := e
        replace e := ob_some e; obtain ⟨r, hf, e⟩ := e
        obtain ⟨entries, hget, hblk, hr⟩ := s.amap (P := P) hg hp
        obtain ⟨hfind, hprops⟩ := findKey_run k hq hok hf hr w
        have hck : (Instr.checkKey false 10000 kk q').run P w = .ok () w := checkKey_run k 12 kk q q' hok hq false 9988 w
        cases r with
        | none =>
          cases e
          refine ⟨{ w with heap := w.heap.setIfInBounds p.b (.map (entries.push { key := q', val := v', born := c }) (c + 1)) }, ?_, s.setMap hg hp (by
            rw [Array.toList_push]; exact ERs.snoc (e' := { key := q', val := v', born := c }) hq hv rfl _ _ hr)⟩
          simp only [Instr.mapUpdate, Sem.run_bind, kt.und_run w, hd, Result.andThen_ok, hget, hck, hfind, foundV]
          exact setObj_run _ hblk
        | some ia =>
          obtain ⟨i, a⟩ := ia
          dsimp only at e
          replace e := ck_some e; obtain ⟨hpk, e⟩ := e
          replace e := ck_some e; obtain ⟨heq, e⟩ := e
          cases e
          have heq := AV.eqb_eq _ _ heq
          obtain ⟨_, e', he', hk', hv', hb'⟩ := hprops i a rfl
          rw [← heq] at hk'
          obtain ⟨hsame, hbits⟩ := plainKey_one hpk hk' hq
          have hei : entries[i]? = some e' := by simpa using he'
          refine ⟨{ w with heap := w.heap.setIfInBounds p.b (.map (entries.modify i fun e => { e with key := q', val := v' }) c) }, ?_, s.setMap hg hp (by
            rw [Array.toList_modify]
            refine setAt_modify (x := { key := q, val := v, born := a.born }) (e' := { e' with key := q', val := v' }) hq hv hb' _ i es entries.toList hr fun y hy => ?_
            rw [he'] at hy; cases hy; rfl)⟩
          simp only [Instr.mapUpdate, Sem.run_bind, kt.und_run w, hd, Result.andThen_ok, hget, hck, hfind, foundV, he', Option.map_some, Nat.zero_add, hei, Option.getD_some, Instr.keyThatStays]
          rw [if_pos hbits]
          simp only [Sem.run_pure, Result.andThen_ok]
          exact setObj_run _ hblk
      | row _ _ _ _ => cases e
      | siter _ _ => cases e
      | dead => cases e
  · cases e

theorem mapEntryE_run (k : TabOk P T) (s : Sim B W φ h w) {t : TypeId} {m q r : AV} {m' q' : Value} {ho : Option AHeap} (e : mapEntryE T t m q h = some (r, ho)) (hm : VR φ m m') (hq : VR φ q q') :
    Res P B W φ h w (Instr.mapEntry t m' q') r ho := by
  replace e := ob_some e; obtain ⟨ti, ht, e⟩ := e
  have kt := k.ty t ti ht
  split at e
  · rename_i kk e0 l hd
    replace e := ob_some e; obtain ⟨te, hte, e⟩ := e
    have ke := k.ty e0 te hte
    simp only [VR] at hm
    obtain ⟨p, hp, rfl⟩ := hm
    cases hg : h.get l with
    | none => rw [hg] at e; cases e
    | some ob' =>
      rw [hg] at e
      cases ob' with
      | amap es c =>
        dsimp only at e
        replace e := ck_some e; obtain ⟨hok, e⟩ := e
        replace e := ob_some e; obtain ⟨r0, hf, e⟩ := e
        obtain ⟨entries, hget, hblk, hr⟩ := s.amap (P := P) hg hp
        obtain ⟨hfind, hprops⟩ := findKey_run k hq hok hf hr w
        have hck : (Instr.checkKey false 10000 kk q').run P w = .ok () w := checkKey_run k 12 kk q q' hok hq false 9988 w
        cases r0 with
        | none =>
          cases e
          obtain ⟨z, hz, hzr⟩ := ke.zero_run w
          refine ⟨.tuple #[z, goInt c], { w with heap := w.heap.setIfInBounds p.b (.map (entries.push { key := q', val := z, born := c }) (c + 1)) }, φ, ?_, Phi.le_refl φ, ?_, s.setMap hg hp (by
            rw [Array.toList_push]; exact ERs.snoc (e' := { key := q', val := z, born := c }) hq (hzr φ) rfl _ _ hr)⟩
          · simp only [Instr.mapEntry, Sem.run_bind, kt.und_run w, hd, Result.andThen_ok, hget, hck, hfind, foundV, hz]
            rw [setObj_run _ hblk]; rfl
          · simp only [VR]; exact ⟨[z, goInt c], rfl, VRs.cons (hzr φ) (VRs.cons (by simp [VR, goInt]) VRs.nil)⟩
        | some ia =>
          obtain ⟨i, a⟩ := ia
          dsimp only at e
          replace e := ck_some e; obtain ⟨hpk, e⟩ := e
          replace e := ck_some e; obtain ⟨heq, e⟩ := e
          cases e
          have heq := AV.eqb_eq _ _ heq
          obtain ⟨_, e', he', hk', hv', hb'⟩ := hprops i a rfl
          rw [← heq] at hk'
          obtain ⟨hsame, hbits⟩ := plainKey_one hpk hk' hq
          have hei : entries[i]? = some e' := by simpa using he'
          refine ⟨.tuple #[e'.val, goInt e'.born], { w with heap := w.heap.setIfInBounds p.b (.map (entries.modify i fun e => { e with key := q' }) c) }, φ, ?_, Phi.le_refl φ, ?_, s.setMap hg hp (by
            rw [Array.toList_modify]
            refine setAt_modify (x := { key := q, val := a.val, born := a.born }) (e' := { e' with key := q' }) hq hv' hb' _ i es entries.toList hr fun y hy => ?_
            rw [he'] at hy; cases hy; rfl)⟩
          · simp only [Instr.mapEntry, Sem.run_bind, kt.und_run w, hd, Result.andThen_ok, hget, hck, hfind, foundV, he', Option.map_some, Nat.zero_add, hei, Option.getD_some, Instr.keyThatStays]
            rw [if_pos hbits]
            simp only [Sem.run_pure, Result.andThen_ok]
            rw [setObj_run _ hblk]; rfl
          · simp only [VR]; exact ⟨[e'.val, goInt e'.born], rfl, VRs.cons hv' (VRs.cons (by simp [VR, goInt, hb']) VRs.nil)⟩
      | row _ _ _ _ => cases e
      | siter _ _ => cases e
      | dead => cases e
  · cases e

theorem bornE_R {φ : Phi} {n : Nat} : ∀ {es : List AE} {es' : List MapEntry} {i : Nat} {a : AE}, bornE n es = some (i, a) → ERs φ es es' → es'.findIdx? (fun e => (e.born : Int) == (n : Int)) = some i ∧ ∃ e', es'[i]? = some e' ∧ VR φ a.key e'.key ∧ e'.born = a.born
  | [], es', i, a, e, _ => by cases e
  | x :: es, es', i, a, e, hr => by
    simp only [ERs] at hr
    obtain ⟨e', rest, rfl, h1, h2, h3, hr⟩ := hr
    unfold bornE at e
    cases hb : Nat.beq x.born n with
    | true =>
      rw [hb] at e
      cases e
      have := beq_eq hb
      refine ⟨by simp [List.findIdx?_cons, h3, this], e', rfl, h1, h3⟩
    | false =>
      rw [hb] at e
      replace e := ob_some e; obtain ⟨⟨j, b⟩, hj, e⟩ := e
      cases e
      have hne : ¬ (x.born = n) := fun hh => by rw [beq_yes hh] at hb; cases hb
      obtain ⟨g1, g2⟩ := bornE_R hj hr
      refine ⟨?_, by simpa using g2⟩
      have hneB : ((e'.born : Int) == (n : Int)) = false := by rw [h3]; simp; omega
      simp [List.findIdx?_cons, hneB, g1]

theorem entryStoreE_run (s : Sim B W φ h w) {t : TypeId} {m st v : AV} {m' st' v' : Value} {h' : AHeap} (e : entryStoreE m st v h = some h') (hm : VR φ m m') (hst : VR φ st st') (hv : VR φ v v') :
    ∃ w', (Instr.entryStore t m' st' v').run P w = .ok () w' ∧ Sim B W φ h' w' := by
  unfold entryStoreE at e
  split at e
  · rename_i l
    replace e := ob_some e; obtain ⟨n, hn, e⟩ := e
    simp only [VR] at hm
    obtain ⟨p, hp, rfl⟩ := hm
    obtain ⟨kd, rfl⟩ := natOf_R hn hst
    cases hg : h.get l with
    | none => rw [hg] at e; cases e
    | some ob' =>
      rw [hg] at e
      cases ob' with
      | amap es c =>
        replace e := ob_some e; obtain ⟨⟨i, a⟩, hb, e⟩ := e
        cases e
        obtain ⟨entries, hget, hblk, hr⟩ := s.amap (P := P) hg hp
        obtain ⟨hfi, e', he', hk', hb'⟩ := bornE_R hb hr
        refine ⟨{ w with heap := w.heap.setIfInBounds p.b (.map (entries.modify i fun e => { e with val := v' }) c) }, ?_, s.setMap hg hp (by
            rw [Array.toList_modify]
            refine setAt_modify (x := { key := a.key, val := v, born := a.born }) (e' := { e' with val := v' }) hk' hv hb' _ i es entries.toList hr fun y hy => ?_
            rw [he'] at hy; cases hy; rfl)⟩
        have hfa : entries.findIdx? (fun e => (e.born : Int) == (n : Int)) = some i := by
          rw [← hfi, ← List.findIdx?_toArray]
        simp only [Instr.entryStore, Sem.run_bind, hget, Result.andThen_ok, asInt, asIntOf_run, Sem.run_pure, hfa]
        exact setObj_run _ hblk
      | row _ _ _ _ => cases e
      | siter _ _ => cases e
      | dead => cases e
  · cases e

end Go.Ev

/-
  A small evaluator of the model's programs: one operation, whichever it is.
-/
namespace Go.Ev
open Go Go.RowKit

variable {P : Program} {T : Tab} {B : Nat} {W w : World} {φ : Phi} {h : AHeap}

/- what an operation's run comes to -/
def Does (P : Program) (o : Oper) (a : Act) (w : World) (v : Value) (w' : World) : Prop :=
  (execOp a.eval o).run P w = .ok (.value v) w' ∨ ((execOp a.eval o).run P w = .ok .skip w' ∧ v = Go.undef)

structure ExtOk (P : Program) (f : FuncId) (n : Nf) : Prop where
  run : ∀ (B : Nat) (W : World) (φ : Phi) (h : AHeap) (w : World) (args : List AV) (args' : List Value) (v : AV) (h' : AHeap), Sim B W φ h w → VRs φ args args' → n args h = some (v, h') →
    ∃ v' w' φ', (callFunc f args'.toArray).run P w = .ok (.value v') w' ∧ φ.le φ' ∧ VR φ' v v' ∧ Sim B W φ' h' w'

theorem evals_arr {env : Env} {a : Act} (k : EnvR φ env a) {xs : Array Operand} {vs : List AV} (e : evals env xs.toList = some vs) : VRs φ vs (xs.map a.eval).toList := by
  have := k.evals e; simpa using this

theorem optE_R {env : Env} {a : Act} (k : EnvR φ env a) {x : Option Operand} {v : Option AV} (e : optE env x = some v) : OptR φ v (x.map a.eval) := by
  cases x with
  | none => cases e; trivial
  | some x =>
    obtain ⟨y, hy, e⟩ := ob_some e
    cases e
    exact k.eval hy

theorem vx_some {r : Option AV} {x : OpX} (e : vx r = some x) : ∃ v, r = some v ∧ x = .val (v, none) := by
  obtain ⟨v, h1, h2⟩ := ob_some e; cases h2; exact ⟨v, h1, rfl⟩
theorem hx_some {r : Option OpR} {x : OpX} (e : hx r = some x) : ∃ y, r = some y ∧ x = .val y := by
  obtain ⟨v, h1, h2⟩ := ob_some e; cases h2; exact ⟨v, h1, rfl⟩
theorem ux_some {r : Option AHeap} {x : OpX} (e : ux r = some x) : ∃ h, r = some h ∧ x = .val (.undef, some h) := by
  obtain ⟨v, h1, h2⟩ := ob_some e; cases h2; exact ⟨v, h1, rfl⟩

theorem nextE_run (s : Sim B W φ h w) {it r : AV} {isS : Bool} {ho : Option AHeap} {it' : Value} (e : nextE it isS h = some (r, ho)) (hi : VR φ it it') (ty : TypeId) :
    Res P B W φ h w (Instr.next it' isS ty) r ho := by
  unfold nextE at e
  split at e
  · rename_i l
    simp only [VR] at hi
    obtain ⟨p, hp, rfl⟩ := hi
    cases hg : h.get l with
    | none => rw [hg] at e; cases e
    | some ob' =>
      rw [hg] at e
      cases ob' with
      | siter u pos =>
        obtain ⟨hbase, hblk⟩ := s.obj l _ p hg hp
        have hget : (getObj p.b).run P w = .ok (.stringIter ⟨u.toArray⟩ pos) w := by simp [getObj, Sem.run, hblk]
        have hsz : (⟨u.toArray⟩ : ByteArray).size = u.length := by simp [ByteArray.size]
        dsimp only at e
        split at e
        · rename_i hn
          obtain ⟨hb, e⟩ := ck_some e
          cases e
          have hb := ble_le hb
          refine Res.quiet s (v' := .tuple #[.bool false]) ?_ (by simp only [VR]; exact ⟨[.bool false], rfl, VRs.cons (by simp [VR]) VRs.nil⟩)
          simp only [Instr.next, hbase, Nat.zero_add, Sem.run_bind, hget, Result.andThen_ok]
          rw [if_neg (by rw [hsz]; omega)]; rfl
        · rename_i b hb
          obtain ⟨hlt, e⟩ := ck_some e
          cases e
          have hlt := blt_lt hlt
          obtain ⟨hpos, hbe⟩ := List.getElem?_eq_some_iff.1 hb
          have hps : pos < (⟨u.toArray⟩ : ByteArray).size := by rw [hsz]; exact hpos
          have hbb : (⟨u.toArray⟩ : ByteArray)[pos]'hps = b := hbe
          have hdec := decode_ascii ⟨u.toArray⟩ pos hps (by rw [hbb]; exact hlt)
          rw [hbb] at hdec
          have hset : (setObj p.b (.stringIter ⟨u.toArray⟩ (pos + 1))).run P w = .ok () { w with heap := w.heap.setIfInBounds p.b (.stringIter ⟨u.toArray⟩ (pos + 1)) } := by simp [setObj, Sem.run, hblk]
          have hltb := s.lt l p hp
          refine ⟨.tuple #[.bool true, goInt pos, .int .i32 b.toNat], { w with heap := w.heap.setIfInBounds p.b (.stringIter ⟨u.toArray⟩ (pos + 1)) }, φ, ?_, Phi.le_refl φ, ?_, ?_⟩
          · simp only [Instr.next, hbase, Nat.zero_add, Sem.run_bind, hget, Result.andThen_ok]
            rw [if_pos hps]
            simp only [hdec, Sem.run_bind, hset, Result.andThen_ok, Sem.run_pure]
          · simp only [VR]
            exact ⟨[.bool true, goInt pos, .int .i32 b.toNat], rfl, VRs.cons (by simp [VR]) (VRs.cons (by simp [VR, goInt]) (VRs.cons (by simp [VR]) VRs.nil))⟩
          · exact s.turn hg rfl hp rfl rfl rfl (by simp) (fun q hq => setB_get _ _ _ _ hq) ⟨hbase, by simp [hltb]⟩
      | row _ _ _ _ => cases e
      | amap _ _ => cases e
      | dead => cases e
  · cases e

theorem newObj_sim (s : Sim B W φ h w) {o : AObj} {l : Nat} {h' : AHeap} (hn : newObjE o h = some (l, h')) (ob' : Obj)
    (ho : ∀ ψ : Phi, ObjR ψ { w with heap := w.heap.push ob' } ⟨w.heap.size, 0, 0⟩ o) :
    Sim B W (φ.add l ⟨w.heap.size, 0, 0⟩) h' { w with heap := w.heap.push ob' } ∧ φ.le (φ.add l ⟨w.heap.size, 0, 0⟩) := by
  obtain ⟨hlt, hn⟩ := ck_some hn
  cases hn
  refine ⟨s.grow (p := ⟨w.heap.size, 0, 0⟩) (blt_lt hlt) rfl rfl rfl (by simp) (fun k hk => by simp [Array.getElem?_push, Nat.ne_of_lt hk]) rfl (ho _), Phi.le_add _ s.fresh⟩

theorem rangeE_run (k : TabOk P T) (s : Sim B W φ h w) {t : TypeId} {x r : AV} {ho : Option AHeap} {x' : Value} (e : rangeE T t x h = some (r, ho)) (hx : VR φ x x') :
    Res P B W φ h w (Instr.range t x') r ho := by
  replace e := ob_some e; obtain ⟨ti, ht, e⟩ := e
  have kt := k.ty t ti ht
  dsimp only at e
  split at e
  · rename_i u hd
    replace e := ob_some e; obtain ⟨⟨l, h'⟩, hn, e⟩ := e
    cases e
    simp only [VR] at hx; subst hx
    obtain ⟨h1, h2⟩ := newObj_sim s hn (.stringIter ⟨u.toArray⟩ 0) (fun ψ => ⟨rfl, by simp⟩)
    refine ⟨.pointer (some ⟨w.heap.size, 0, none⟩), _, _, ?_, h2, ptr_new, h1⟩
    simp [Instr.range, kt.und_run w, hd]
  · cases e

theorem minmaxE_run {mx : Bool} {args : List AV} {args' : List Value} {r : AV} (e : minmaxE mx args = some r) (hr : VRs φ args args') (ats : Array TypeId) (ty : TypeId) (w : World) :
    ∃ v, (match mx with | true => Builtin.max_ ats ty args'.toArray | false => Builtin.min_ ats ty args'.toArray).run P w = .ok v w ∧ VR φ r v := by
  unfold minmaxE at e
  split at e
  · rename_i k a j b
    replace e := ck_some e; obtain ⟨hk, e⟩ := e
    cases e
    have := kindEq_eq hk; subst this
    simp only [VRs, VR] at hr
    obtain ⟨v, r1, rfl, rfl, v2, r2, rfl, rfl, rfl⟩ := hr
    cases mx with
    | true =>
      refine ⟨.int k (if b > a then b else a), by simp [Builtin.max_, Builtin.max2], ?_⟩
      simp only [VR, ltE_eq]
      congr 1
      by_cases hab : a < b
      · simp [hab]
      · simp [hab]
    | false =>
      refine ⟨.int k (if b < a then b else a), by simp [Builtin.min_, Builtin.min2], ?_⟩
      simp only [VR, ltE_eq]
      congr 1
      by_cases hab : a < b
      · have : ¬ b < a := by omega
        simp [hab, this]
      · by_cases hba : b < a
        · simp [hab, hba]
        · have : a = b := by omega
          simp [this]
  · cases e

theorem builtinE_run (k : TabOk P T) (s : Sim B W φ h w) {b : Builtin} {ats : Array TypeId} {args : List AV} {args' : Array Value} {r : AV} {ho : Option AHeap} (e : builtinE T b ats.toList args h = some (r, ho))
    (hr : VRs φ args args'.toList) (ty : TypeId) (cs : Array Bool) : ∃ v' w' φ', (builtin b ats ty cs args').run P w = .ok (.value v') w' ∧ φ.le φ' ∧ VR φ' r v' ∧ Sim B W φ' (AHeap.or ho h) w' := by
  have lift : ∀ (m : Sem Value), builtin b ats ty cs args' = (do pure (.value (← m))) → Res P B W φ h w m r ho → ∃ v' w' φ', (builtin b ats ty cs args').run P w = .ok (.value v') w' ∧ φ.le φ' ∧ VR φ' r v' ∧ Sim B W φ' (AHeap.or ho h) w' := by
    intro m hm ⟨v', w', φ', h1, h2, h3, h4⟩
    exact ⟨v', w', φ', by rw [hm]; simp [h1], h2, h3, h4⟩
  have ea : ∀ l : List Value, args'.toList = l → args' = l.toArray := fun l hl => by rw [← hl]
  have et : ∀ l : List TypeId, ats.toList = l → ats = l.toArray := fun l hl => by rw [← hl]
  unfold builtinE at e
  split at e
  · rename_i t x ht
    replace e := ob_some e; obtain ⟨v, hv, e⟩ := e
    cases e
    simp only [VRs] at hr
    obtain ⟨x', r1, hx', hx, rfl⟩ := hr
    obtain ⟨v', g1, g2⟩ := lenE_run (P := P) k s hv hx ty
    exact lift _ rfl (Res.quiet s (by rw [ea _ hx', et _ ht]; exact g1) g2)
  · rename_i t x ht
    replace e := ob_some e; obtain ⟨v, hv, e⟩ := e
    cases e
    simp only [VRs] at hr
    obtain ⟨x', r1, hx', hx, rfl⟩ := hr
    obtain ⟨v', g1, g2⟩ := capE_run (P := P) k hv hx ty w
    exact lift _ rfl (Res.quiet s (by rw [ea _ hx', et _ ht]; exact g1) g2)
  · rename_i t xt sv x ht
    simp only [VRs] at hr
    obtain ⟨s', r1, hx', hs, x', r2, rfl, hx, rfl⟩ := hr
    have := appendE_run (P := P) k s e hs hx ty
    exact lift _ rfl (by rw [ea _ hx', et _ ht]; exact this)
  · rename_i t rest d x ht
    simp only [VRs] at hr
    obtain ⟨s', r1, hx', hs, x', r2, rfl, hx, rfl⟩ := hr
    have := copyE_run (P := P) (rest := rest) k s e hs hx ty
    exact lift _ rfl (by rw [ea _ hx', et _ ht]; exact this)
  · rename_i t rest x ht
    simp only [VRs] at hr
    obtain ⟨x', r1, hx', hx, rfl⟩ := hr
    have := clearE_run (P := P) (rest := rest) k s e hx ty
    exact lift _ rfl (by rw [ea _ hx', et _ ht]; exact this)
  · replace e := ob_some e; obtain ⟨v, hv, e⟩ := e
    cases e
    obtain ⟨v', g1, g2⟩ := minmaxE_run (P := P) hv hr ats ty w
    exact lift _ rfl (Res.quiet s (by simpa using g1) g2)
  · replace e := ob_some e; obtain ⟨v, hv, e⟩ := e
    cases e
    obtain ⟨v', g1, g2⟩ := minmaxE_run (P := P) hv hr ats ty w
    exact lift _ rfl (Res.quiet s (by simpa using g1) g2)
  · cases e

/- an operation that is no call of a Go function -/
set_option maxHeartbeats 4000000 in
theorem opE_val (k : TabOk P T) (kx : ∀ f n, T.ext.get f = some n → ExtOk P f n) (s : Sim B W φ h w) {o : Oper} {env : Env} {a : Act} (ke : EnvR φ env a) {v : AV} {ho : Option AHeap} (e : opE T env o.op h = some (.val (v, ho))) :
    ∃ v' w' φ', Does P o a w v' w' ∧ φ.le φ' ∧ VR φ' v v' ∧ Sim B W φ' (AHeap.or ho h) w' := by
  have ofRes : ∀ (m : Sem Value), execOp a.eval o = (do pure (.value (← m))) → Res P B W φ h w m v ho → ∃ v' w' φ', Does P o a w v' w' ∧ φ.le φ' ∧ VR φ' v v' ∧ Sim B W φ' (AHeap.or ho h) w' := by
    intro m hm ⟨v', w', φ', h1, h2, h3, h4⟩
    exact ⟨v', w', φ', .inl (by rw [hm]; simp [h1]), h2, h3, h4⟩
  have ofQuiet : ∀ (m : Sem Value) (v' : Value), execOp a.eval o = (do pure (.value (← m))) → ho = none → m.run P w = .ok v' w → VR φ v v' → ∃ v' w' φ', Does P o a w v' w' ∧ φ.le φ' ∧ VR φ' v v' ∧ Sim B W φ' (AHeap.or ho h) w' := by
    intro m v' hm hn h1 h2
    subst hn
    exact ofRes m hm (Res.quiet s h1 h2)
  have ofUnit : ∀ (m : Sem Unit) (w' : World) (h' : AHeap), execOp a.eval o = (do m; pure .skip) → v = .undef → ho = some h' → m.run P w = .ok () w' → Sim B W φ h' w' → ∃ v' w' φ', Does P o a w v' w' ∧ φ.le φ' ∧ VR φ' v v' ∧ Sim B W φ' (AHeap.or ho h) w' := by
    intro m w' h' hm hv hh h1 h2
    subst hv; subst hh
    exact ⟨Go.undef, w', φ, .inr ⟨by rw [hm]; simp [h1], rfl⟩, Phi.le_refl φ, VR.undef, h2⟩
  obtain ⟨dst, op, type, pos, after, guard⟩ := o
  cases op <;> simp only [opE] at e
  case move x =>
    obtain ⟨y, hy, e⟩ := vx_some e; cases e
    exact ofQuiet (pure (a.eval x)) (a.eval x) rfl rfl rfl (ke.eval hy)
  case assign x =>
    obtain ⟨y, hy, e⟩ := vx_some e; cases e
    exact ofQuiet (pure (a.eval x)) (a.eval x) rfl rfl rfl (ke.eval hy)
  case pick c x y =>
    obtain ⟨z, hz, e⟩ := vx_some e; cases e
    obtain ⟨cv, hc, hz⟩ := ob_some hz
    have hcr := ke.eval hc
    split at hz
    · simp only [VR] at hcr
      exact ⟨a.eval x, w, φ, .inl (by simp [execOp, hcr, asBool]), Phi.le_refl φ, ke.eval hz, s⟩
    · simp only [VR] at hcr
      exact ⟨a.eval y, w, φ, .inl (by simp [execOp, hcr, asBool]), Phi.le_refl φ, ke.eval hz, s⟩
    · cases hz
  case alloc t =>
    obtain ⟨y, hy, e⟩ := hx_some e; cases e
    obtain ⟨ti, ht, hy⟩ := ob_some hy
    obtain ⟨_, hy⟩ := ck_some hy
    obtain ⟨_, hy⟩ := ck_some hy
    obtain ⟨⟨l, h'⟩, hn, hy⟩ := ob_some hy
    cases hy
    exact ofRes (Instr.alloc t true (.tuple #[])) rfl (alloc_run k s ht hn)
  case box t x =>
    obtain ⟨y, hy, e⟩ := hx_some e; cases e
    obtain ⟨xv, hx, hy⟩ := ob_some hy
    obtain ⟨_, hy⟩ := ck_some hy
    obtain ⟨⟨l, h'⟩, hn, hy⟩ := ob_some hy
    cases hy
    exact ofRes (Instr.box t (a.eval x)) rfl (box_run s (ke.eval hx) hn t)
  case build t parts =>
    obtain ⟨y, hy, e⟩ := vx_some e; cases e
    obtain ⟨ps, hps, hy⟩ := ob_some hy
    have hp := evalParts_R ke hps
    obtain ⟨v', h1, h2⟩ := buildE_run (P := P) (qs := parts.map fun (i, x) => (i, a.eval x)) k hy (by simpa using hp) w
    exact ofQuiet (Instr.build t (parts.map fun (i, x) => (i, a.eval x))) v' rfl rfl h1 h2
  case buildSlice t len parts =>
    obtain ⟨y, hy, e⟩ := hx_some e; cases e
    obtain ⟨ps, hps, hy⟩ := ob_some hy
    have hp := evalParts_R ke hps
    exact ofRes (Instr.buildSlice t len (parts.map fun (i, x) => (i, a.eval x))) rfl (buildSliceE_run (P := P) (qs := parts.map fun (i, x) => (i, a.eval x)) k s hy (by simpa using hp))
  case load t x =>
    obtain ⟨y, hy, e⟩ := vx_some e; cases e
    obtain ⟨xv, hx, hy⟩ := ob_some hy
    have hxr := ke.eval hx
    split at hy
    · simp only [VR] at hxr
      obtain ⟨p, hp, hxe⟩ := hxr
      obtain ⟨v', h1, h2⟩ := loadE_run (P := P) k s hy hp
      exact ofQuiet (Instr.loadAt t (a.eval x)) v' rfl rfl (by simp [hxe, Instr.loadAt, Instr.sureAddr, h1]) h2
    · cases hy
  case store t x y =>
    obtain ⟨h', hy, e⟩ := ux_some e; cases e
    obtain ⟨xv, hx, hy⟩ := ob_some hy
    obtain ⟨yv, hyv, hy⟩ := ob_some hy
    have hxr := ke.eval hx
    split at hy
    · simp only [VR] at hxr
      obtain ⟨p, hp, hxe⟩ := hxr
      obtain ⟨ti, ht, hy⟩ := ob_some hy
      obtain ⟨hsz, hy⟩ := ck_some hy
      have kt := k.ty t ti ht
      have hyr := ke.eval hyv
      obtain ⟨w', h1, h2, _⟩ := writeE_run (P := P) s hy hyr.cells hp
      have hsize : (a.eval y).cells.size = ti.size := by
        have := hyr.cells.length
        rw [beq_eq hsz] at this
        simpa using this
      refine ofUnit (Instr.storeAt t (a.eval x) (a.eval y)) w' h' rfl rfl rfl ?_ h2
      simp only [hxe, Instr.storeAt, Instr.sureAddr, Sem.run_bind, Sem.run_pure, Result.andThen_ok, storeVar, kt.size_run w, hsize]
      simp only [ne_eq, not_true_eq_false, if_false]
      exact h1
    · cases hy
  case nilCheck x =>
    obtain ⟨y, hy, e⟩ := vx_some e; cases e
    obtain ⟨xv, hx, hy⟩ := ob_some hy
    have hxr := ke.eval hx
    split at hy
    · cases hy
      have hxr' := hxr
      simp only [VR] at hxr
      obtain ⟨p, hp, hxe⟩ := hxr
      refine ⟨a.eval x, w, φ, .inl ?_, Phi.le_refl φ, hxr', s⟩
      simp only [execOp, hxe]
      rfl
    · cases hy
  case binOp op t x y yt =>
    obtain ⟨z, hz, e⟩ := vx_some e; cases e
    obtain ⟨xv, hx, hz⟩ := ob_some hz
    obtain ⟨yv, hy, hz⟩ := ob_some hz
    obtain ⟨v', h1, h2⟩ := binE_run (P := P) k hz (ke.eval hx) (ke.eval hy) w
    exact ofQuiet (do eqGuard op t x y (a.eval x) (a.eval y); binOp op t (a.eval x) (a.eval y)) v' rfl rfl h1 h2
  case unOp op t x =>
    obtain ⟨z, hz, e⟩ := vx_some e; cases e
    obtain ⟨xv, hx, hz⟩ := ob_some hz
    obtain ⟨v', h1, h2⟩ := unE_run (P := P) hz (ke.eval hx) w
    exact ofQuiet (Op.unary op (a.eval x)) v' rfl rfl h1 h2
  case convert sr d x =>
    obtain ⟨y, hy, e⟩ := hx_some e; cases e
    obtain ⟨xv, hx, hy⟩ := ob_some hy
    exact ofRes (convert sr d (a.eval x)) rfl (convE_run (P := P) k s hy (ke.eval hx))
  case sliceToArrayPointer t x =>
    obtain ⟨y, hy, e⟩ := vx_some e; cases e
    obtain ⟨ti, ht, hy⟩ := ob_some hy
    obtain ⟨xv, hx, hy⟩ := ob_some hy
    have kt := k.ty t ti ht
    have hxr := ke.eval hx
    split at hy
    · rename_i n e0 l o len cap hd
      obtain ⟨h1, hy⟩ := ck_some hy
      obtain ⟨h2, hy⟩ := ck_some hy
      cases hy
      have h1 := ble_le h1
      have h2 := ble_le h2
      simp only [VR] at hxr
      obtain ⟨p, ad, c, hp, hxe, hlc, ha, _⟩ := hxr
      have ha := ha (by omega)
      subst ha
      refine ofQuiet (Instr.arrayAt t (a.eval x)) (.pointer (some ⟨p.b, p.base + o, none⟩)) rfl rfl ?_ (by simp only [VR]; exact ⟨p, hp, rfl⟩)
      have : ¬ len < n := by omega
      simp [hxe, Instr.arrayAt, kt.und_run w, hd, this]
    · cases hy
  case makeInterface t x =>
    obtain ⟨y, hy, e⟩ := vx_some e; cases e
    obtain ⟨ti, ht, hy⟩ := ob_some hy
    obtain ⟨xv, hx, hy⟩ := ob_some hy
    have kt := k.ty t ti ht
    have hxr := ke.eval hx
    split at hy
    · cases hy
    · rename_i hni
      cases hy
      refine ofQuiet (Instr.makeInterface t (a.eval x)) (.iface t (a.eval x)) rfl rfl ?_ (by simp only [VR]; exact ⟨_, rfl, hxr⟩)
      simp only [Instr.makeInterface, Sem.run_bind, kt.und_run w, Result.andThen_ok]
      cases hd : ti.desc <;> first | rfl | exact absurd hd (hni _)
  case makeFunc fn first captured =>
    obtain ⟨y, hy, e⟩ := vx_some e; cases e
    obtain ⟨f', hf, hy⟩ := ob_some hy
    obtain ⟨c', hc, hy⟩ := ob_some hy
    cases hy
    refine ofQuiet (Instr.makeFunc fn (first.map a.eval) (captured.map a.eval)) (.func fn (first.map a.eval) (captured.map a.eval)) rfl rfl rfl ?_
    simp only [VR]
    exact ⟨(first.map a.eval).toList, (captured.map a.eval).toList, rfl, evals_arr ke hf, evals_arr ke hc⟩
  case makeMap t r =>
    obtain ⟨y, hy, e⟩ := hx_some e; cases e
    split at hy
    · obtain ⟨⟨l, h'⟩, hn, hy⟩ := ob_some hy
      cases hy
      obtain ⟨h1, h2⟩ := newObj_sim s hn (.map #[] 0) (fun ψ => ⟨#[], by simp, by simp [ERs]⟩)
      refine ofRes (Instr.makeMap t none) rfl ⟨.map (some w.heap.size), _, _, ?_, h2, ?_, h1⟩
      · simp [Instr.makeMap]
      · simp only [VR]; exact ⟨_, Phi.add_same _ _ _, rfl⟩
    · cases hy
  case makeSlice t l c =>
    obtain ⟨y, hy, e⟩ := hx_some e; cases e
    obtain ⟨lv, hl, hy⟩ := ob_some hy
    obtain ⟨cv, hc, hy⟩ := ob_some hy
    exact ofRes (Instr.makeSlice t (a.eval l) (a.eval c)) rfl (makeSliceE_run (P := P) k s hy (ke.eval hl) (ke.eval hc))
  case slice t x lo hi mx =>
    obtain ⟨y, hy, e⟩ := vx_some e; cases e
    obtain ⟨xv, hx, hy⟩ := ob_some hy
    obtain ⟨lv, hl, hy⟩ := ob_some hy
    obtain ⟨gv, hg, hy⟩ := ob_some hy
    obtain ⟨mv, hm, hy⟩ := ob_some hy
    obtain ⟨v', h1, h2⟩ := sliceE_run (P := P) k hy (ke.eval hx) (optE_R ke hl) (optE_R ke hg) (optE_R ke hm) w
    exact ofQuiet (Instr.sliceAt t (a.eval x) (lo.map a.eval) (hi.map a.eval) (mx.map a.eval)) v' rfl rfl h1 h2
  case fieldAddr t x f =>
    obtain ⟨y, hy, e⟩ := vx_some e; cases e
    obtain ⟨xv, hx, hy⟩ := ob_some hy
    obtain ⟨v', h1, h2⟩ := fieldAddrE_run (P := P) k hy (ke.eval hx) w
    exact ofQuiet (Instr.fieldAt t (a.eval x) f) v' rfl rfl h1 h2
  case field t x f =>
    obtain ⟨y, hy, e⟩ := vx_some e; cases e
    obtain ⟨xv, hx, hy⟩ := ob_some hy
    obtain ⟨v', h1, h2⟩ := fieldE_run (P := P) k hy (ke.eval hx) w
    exact ofQuiet (Instr.field t (a.eval x) f) v' rfl rfl h1 h2
  case indexAddr t x i =>
    obtain ⟨y, hy, e⟩ := vx_some e; cases e
    obtain ⟨xv, hx, hy⟩ := ob_some hy
    obtain ⟨iv, hi, hy⟩ := ob_some hy
    obtain ⟨v', h1, h2⟩ := indexAddrE_run (P := P) k hy (ke.eval hx) (ke.eval hi) w
    exact ofQuiet (Instr.indexAt t (a.eval x) (a.eval i)) v' rfl rfl h1 h2
  case index t x i =>
    obtain ⟨y, hy, e⟩ := vx_some e; cases e
    obtain ⟨xv, hx, hy⟩ := ob_some hy
    obtain ⟨iv, hi, hy⟩ := ob_some hy
    obtain ⟨v', h1, h2⟩ := indexE_run (P := P) k hy (ke.eval hx) (ke.eval hi) w
    exact ofQuiet (Instr.index t (a.eval x) (a.eval i)) v' rfl rfl h1 h2
  case lookup t m q ok =>
    obtain ⟨y, hy, e⟩ := vx_some e; cases e
    obtain ⟨mv, hm, hy⟩ := ob_some hy
    obtain ⟨qv, hq, hy⟩ := ob_some hy
    obtain ⟨v', h1, h2⟩ := lookupE_run (P := P) k s hy (ke.eval hm) (ke.eval hq)
    exact ofQuiet (Instr.lookup t (a.eval m) (a.eval q) ok) v' rfl rfl h1 h2
  case mapUpdate t m q x =>
    obtain ⟨h', hy, e⟩ := ux_some e; cases e
    obtain ⟨mv, hm, hy⟩ := ob_some hy
    obtain ⟨qv, hq, hy⟩ := ob_some hy
    obtain ⟨xv, hx, hy⟩ := ob_some hy
    obtain ⟨w', h1, h2⟩ := mapUpdateE_run (P := P) k s hy (ke.eval hm) (ke.eval hq) (ke.eval hx)
    exact ofUnit (Instr.mapUpdate t (a.eval m) (a.eval q) (a.eval x)) w' h' rfl rfl rfl h1 h2
  case mapEntry t m q =>
    obtain ⟨y, hy, e⟩ := hx_some e; cases e
    obtain ⟨mv, hm, hy⟩ := ob_some hy
    obtain ⟨qv, hq, hy⟩ := ob_some hy
    exact ofRes (Instr.mapEntry t (a.eval m) (a.eval q)) rfl (mapEntryE_run (P := P) k s hy (ke.eval hm) (ke.eval hq))
  case entryStore t m q x =>
    obtain ⟨h', hy, e⟩ := ux_some e; cases e
    obtain ⟨mv, hm, hy⟩ := ob_some hy
    obtain ⟨qv, hq, hy⟩ := ob_some hy
    obtain ⟨xv, hx, hy⟩ := ob_some hy
    obtain ⟨w', h1, h2⟩ := entryStoreE_run (P := P) (t := t) s hy (ke.eval hm) (ke.eval hq) (ke.eval hx)
    exact ofUnit (Instr.entryStore t (a.eval m) (a.eval q) (a.eval x)) w' h' rfl rfl rfl h1 h2
  case range t x =>
    obtain ⟨y, hy, e⟩ := hx_some e; cases e
    obtain ⟨xv, hx, hy⟩ := ob_some hy
    exact ofRes (Instr.range t (a.eval x)) rfl (rangeE_run (P := P) k s hy (ke.eval hx))
  case next it isS =>
    obtain ⟨y, hy, e⟩ := hx_some e; cases e
    obtain ⟨xv, hx, hy⟩ := ob_some hy
    exact ofRes (Instr.next (a.eval it) isS type) rfl (nextE_run (P := P) s hy (ke.eval hx) type)
  case extract t i =>
    obtain ⟨y, hy, e⟩ := vx_some e; cases e
    obtain ⟨xv, hx, hy⟩ := ob_some hy
    have hxr := ke.eval hx
    split at hy
    · simp only [VR] at hxr
      obtain ⟨vs, hxe, hvr⟩ := hxr
      obtain ⟨v', hv', hr'⟩ := hvr.get i _ hy
      exact ofQuiet (Instr.extract (a.eval t) i) v' rfl rfl (by simp [hxe, Instr.extract, hv']) hr'
    · cases hy
  case call c =>
    obtain ⟨callee, cargs, ats⟩ := c
    cases callee with
    | builtin b =>
      obtain ⟨y, hy, e⟩ := hx_some e; cases e
      obtain ⟨as, has, hy⟩ := ob_some hy
      obtain ⟨v', w', φ', h1, h2, h3, h4⟩ := builtinE_run (P := P) k s hy (evals_arr ke has) type (cargs.map fun | .const _ => true | _ => false)
      exact ⟨v', w', φ', .inl h1, h2, h3, h4⟩
    | value f =>
      replace e := ob_some e; obtain ⟨fv, hf, e⟩ := e
      replace e := ob_some e; obtain ⟨as, has, e⟩ := e
      split at e
      · rename_i g first captured
        have hfr := ke.eval hf
        simp only [VR] at hfr
        obtain ⟨f', c', hfe, hf1, hf2⟩ := hfr
        cases hx : T.ext.get g with
        | none => rw [hx] at e; cases e
        | some n =>
          rw [hx] at e
          obtain ⟨⟨v0, h0⟩, hn, e⟩ := ob_some e
          cases e
          have hall : VRs φ (first ++ (as ++ captured)) (f' ++ ((cargs.map a.eval).toList ++ c')) := hf1.append ((evals_arr ke has).append hf2)
          obtain ⟨v', w', φ', h1, h2, h3, h4⟩ := (kx g n hx).run B W φ h w _ _ _ _ s hall hn
          refine ⟨v', w', φ', .inl ?_, h2, h3, h4⟩
          simp only [execOp, resolve, hfe, Deferred.ofValue, pure_bind, invoke]
          rw [← h1]
          congr 2
          apply Array.ext'
          simp
      · cases e
    | invoke r m => cases e
  all_goals (cases e; done)

end Go.Ev

/-
  A small evaluator of the model's programs: regions.
-/
namespace Go.Ev
open Go Go.RowKit

variable {P : Program} {T : Tab} {B : Nat} {W w : World} {φ : Phi} {h : AHeap}

def GlobOk (φ : Phi) (n : Nat) : Prop := ∀ g, g < n → ∃ p, φ g = some p ∧ p.b = g ∧ p.base = 0
theorem GlobOk.mono {φ ψ : Phi} {n : Nat} (hle : φ.le ψ) (k : GlobOk φ n) : GlobOk ψ n := fun g hg => let ⟨p, h1, h2⟩ := k g hg; ⟨p, hle _ _ h1, h2⟩

/- how a call of a Go function ends -/
def Ends (B : Nat) (W : World) (φ : Phi) (v : AV) (h : AHeap) : Ending → World → Prop := fun e w' => ∃ v' φ', e = .returned v' ∧ φ.le φ' ∧ VR φ' v v' ∧ Sim B W φ' h w'

structure CallOk (P : Program) (T : Tab) (cf : CallF) : Prop where
  run : ∀ f args h v h', cf f args h = some (v, h') → (∀ (as : Array Value) (w : World), (callFunc f as).run P w = .ok (.enter f as) w) ∧
    ∀ (B : Nat) (W : World) (φ : Phi) (w : World) (args' : List Value), Sim B W φ h w → VRs φ args args' → GlobOk φ T.glob → Calls P f args'.toArray w (Ends B W φ v h')

structure PurOk (P : Program) (T : Tab) (f : FuncId) (p : Pf) : Prop where
  enter : ∀ (as : Array Value) (w : World), (callFunc f as).run P w = .ok (.enter f as) w
  run : ∀ args h v, p args h = some v → ∀ (B : Nat) (W : World) (φ : Phi) (w : World) (args' : List Value), Sim B W φ h w → VRs φ args args' → GlobOk φ T.glob → Calls P f args'.toArray w (Ends B W φ v h)

structure AllOk (P : Program) (T : Tab) : Prop where
  pur : ∀ f p, T.pur.get f = some p → PurOk P T f p
  tab : TabOk P T
  ext : ∀ f n, T.ext.get f = some n → ExtOk P f n

theorem opE_call (_k : TabOk P T) {o : Oper} {env : Env} {a : Act} (ke : EnvR φ env a) {f : FuncId} {args : List AV} (e : opE T env o.op h = some (.call f args)) :
    ∃ args' : List Value, execOp a.eval o = callFunc f args'.toArray ∧ VRs φ args args' := by
  obtain ⟨dst, op, type, pos, after, guard⟩ := o
  cases op <;> simp only [opE] at e
  case call c =>
    obtain ⟨callee, cargs, ats⟩ := c
    cases callee with
    | builtin b => obtain ⟨y, _, e⟩ := hx_some e; cases e
    | value f =>
      replace e := ob_some e; obtain ⟨fv, hf, e⟩ := e
      replace e := ob_some e; obtain ⟨as, has, e⟩ := e
      split at e
      · rename_i g first captured
        have hfr := ke.eval hf
        simp only [VR] at hfr
        obtain ⟨f', c', hfe, hf1, hf2⟩ := hfr
        cases hx : T.ext.get g with
        | some n => rw [hx] at e; obtain ⟨_, _, e⟩ := ob_some e; cases e
        | none =>
          rw [hx] at e
          cases e
          refine ⟨f' ++ ((cargs.map a.eval).toList ++ c'), ?_, hf1.append ((evals_arr ke has).append hf2)⟩
          simp only [execOp, resolve, hfe, Deferred.ofValue, pure_bind, invoke]
          congr 1
          apply Array.ext'
          simp
      · cases e
    | invoke r m => cases e
  all_goals first
    | (obtain ⟨_, _, e⟩ := vx_some e; cases e; done)
    | (obtain ⟨_, _, e⟩ := hx_some e; cases e; done)
    | (obtain ⟨_, _, e⟩ := ux_some e; cases e; done)
    | (cases e; done)

theorem opStep (k : AllOk P T) {cf : CallF} (kc : CallOk P T cf) (s : Sim B W φ h w) {o : Oper} {env : Env} {a : Act} (ke : EnvR φ env a) (kg : GlobOk φ T.glob) {v : AV} {ho : Option AHeap} (e : doE T cf env o.op h = some (v, ho))
    {K : Act → World → Prop} {Q : Exit → Act → World → Prop} (hK : ∀ φ' v' w', φ.le φ' → VR φ' v v' → Sim B W φ' (AHeap.or ho h) w' → K (a.put o.dst v') w') : o.wp P a w K Q := by
  unfold doE at e
  rw [opF_eq] at e
  cases hop : opE T env o.op h with
  | none => rw [hop] at e; cases e
  | some x =>
    rw [hop] at e
    cases x with
    | val r =>
      obtain ⟨v0, h0⟩ := r
      cases e
      obtain ⟨v', w', φ', hd, hle, hv, hs⟩ := opE_val k.tab k.ext s ke hop
      unfold Oper.wp
      rcases hd with hd | ⟨hd, rfl⟩
      · rw [hd, Oper.upon_value]; exact hK φ' v' w' hle hv hs
      · rw [hd, Oper.upon_skip]; exact hK φ' _ w' hle hv hs
    | call f args =>
      dsimp only at e
      obtain ⟨args', he, hr⟩ := opE_call (P := P) k.tab ke hop
      cases hp : T.pur.get f with
      | some p =>
        rw [hp] at e
        dsimp only at e
        replace e := ob_some e; obtain ⟨v0, hc, e⟩ := e
        cases e
        have kp := k.pur f p hp
        unfold Oper.wp
        rw [he, kp.enter, Oper.upon_enter]
        refine (kp.run args h _ hc B W φ w args' s hr kg).mono ?_
        rintro e w' ⟨v', φ', rfl, hle, hv, hs⟩
        exact hK φ' v' w' hle hv hs
      | none =>
      rw [hp] at e
      dsimp only at e
      replace e := ob_some e; obtain ⟨⟨v0, h0⟩, hc, e⟩ := e
      cases e
      obtain ⟨h1, h2⟩ := kc.run f args h _ h0 hc
      unfold Oper.wp
      rw [he, h1, Oper.upon_enter]
      refine (h2 B W φ w args' s hr kg).mono ?_
      rintro e w' ⟨v', φ', rfl, hle, hv, hs⟩
      exact hK φ' v' w' hle hv hs

theorem wantE_R {ops : Array Oper} {env : Env} {a : Act} (ke : EnvR φ env a) (o : Oper) (hk : knownE ops.toList env o = true) : wantE ops.toList env o = Region.wanted o (yielded ops a.tmps) := by
  unfold knownE at hk
  unfold wantE Region.wanted
  cases hg : o.guard with
  | none => rfl
  | some g =>
    obtain ⟨j, want⟩ := g
    rw [hg] at hk
    simp only at hk ⊢
    have key : yieldE ops.toList env j = yielded ops a.tmps j := by
      unfold yieldE yielded
      simp only [Array.getElem?_toList] at hk ⊢
      cases hj : ops[j]? with
      | none => rfl
      | some o =>
        rw [hj] at hk
        simp only [Option.bind_some] at hk ⊢
        cases hd : o.dst with
        | none => rfl
        | some d =>
          rw [hd] at hk
          simp only [Option.bind_some] at hk ⊢
          cases hb : Nat.blt d env.size with
          | false =>
            have hge : ¬ d < env.size := fun hlt => by
              have : Nat.blt d env.size = true := Nat.ble_eq_true_of_le hlt
              rw [this] at hb; cases hb
            have : a.tmps[d]? = none := Array.getElem?_eq_none (by rw [ke.size]; exact Nat.le_of_not_lt hge)
            rw [this]
          | true =>
            have hlt := blt_lt hb
            have hd' : d < a.tmps.size := by rw [ke.size]; exact hlt
            have e2 : a.tmps[d]? = some a.tmps[d] := by simp [hd']
            rw [e2]
            have e1 : a.tmps.getD d Go.undef = a.tmps[d] := by simp [Array.getD, hd']
            cases hq : env.get d with
            | none => rw [hb, hq] at hk; cases hk
            | some y =>
              have hv := ke.val d y hq
              rw [e1] at hv
              generalize a.tmps[d] = x at *
              cases x
              case bool b =>
                have := hv.inv_bool
                rw [this]
              all_goals
                cases y <;> first | rfl | (simp [VR] at hv; done)
    rw [key]
    cases yielded ops a.tmps j with
    | none => rfl
    | some b => cases b <;> cases want <;> rfl

/- a region whose order is fixed -/
theorem opsE_sound (k : AllOk P T) {cf : CallF} (kc : CallOk P T cf) {ops : Array Oper} {Q : Exit → Act → World → Prop} : ∀ (l : List Oper) (env : Env) (h : AHeap) (env' : Env) (h' : AHeap), opsE T cf ops.toList l env h = some (env', h') →
    ∀ (φ : Phi) (a : Act) (w : World), EnvR φ env a → Sim B W φ h w → GlobOk φ T.glob → a.defers = [] →
    (∀ φ' a' w', φ.le φ' → EnvR φ' env' a' → a'.defers = [] → Sim B W φ' h' w' → Q .normal a' w') → wpList P ops Q l a w
  | [], env, h, env', h', e, φ, a, w, ke, s, kg, hd, hQ => by
    cases e
    exact hQ φ a w (Phi.le_refl φ) ke hd s
  | o :: rest, env, h, env', h', e, φ, a, w, ke, s, kg, hd, hQ => by
    unfold opsE at e
    unfold wpList
    obtain ⟨hkn, e⟩ := ck_some e
    rw [← wantE_R ke o hkn]
    cases hw : wantE ops.toList env o with
    | true =>
      rw [hw] at e
      dsimp only at e
      replace e := ob_some e; obtain ⟨⟨v, ho⟩, hdo, e⟩ := e
      replace e : opsE T cf ops.toList rest (env.put o.dst v) (AHeap.or ho h) = some (env', h') := by cases ho <;> exact e
      rw [if_pos rfl]
      refine .inl (opStep k kc s ke kg hdo fun φ1 v' w1 hle hv hs => ?_)
      refine opsE_sound k kc rest _ _ _ _ e φ1 (a.put o.dst v') w1 ((ke.mono hle).put o.dst hv) hs (kg.mono hle) ?_ fun φ' a' w' hle' ke' hd' hs' => hQ φ' a' w' (Phi.le_trans hle hle') ke' hd' hs'
      cases o.dst <;> simpa [Act.put] using hd
    | false =>
      rw [hw] at e
      dsimp only at e
      rw [if_neg (by simp)]
      refine opsE_sound k kc rest _ _ _ _ e φ (a.put o.dst Go.undef) w (ke.put o.dst VR.undef) s kg ?_ hQ
      cases o.dst <;> simpa [Act.put] using hd

end Go.Ev

/-
  A small evaluator of the model's programs: regions whose order is open: what is run.
-/
namespace Go.Ev
open Go Go.RowKit
noncomputable section

structure Rec where
  wanted : Bool
  env : Env
  pre : AHeap
  v : AV
  post : Option AHeap

/- in the text's order: what each operation saw and yielded -/
def traceE (T : Tab) (cf : CallF) (ops : List Oper) : List Oper → Env → AHeap → Option (List Rec × Env × AHeap)
  | [], env, h => some ([], env, h)
  | o :: rest, env, h => ck (knownE ops env o) <|
    match wantE ops env o with
    | true => ob (doE T cf env o.op h) fun (v, h') =>
      match h' with
      | some h1 => ob (traceE T cf ops rest (env.put o.dst v) h1) fun (rs, x) => some ({ wanted := true, env := env, pre := h, v := v, post := some h1 } :: rs, x)
      | none => ob (traceE T cf ops rest (env.put o.dst v) h) fun (rs, x) => some ({ wanted := true, env := env, pre := h, v := v, post := none } :: rs, x)
    | false => ob (traceE T cf ops rest (env.put o.dst .undef) h) fun (rs, x) => some ({ wanted := false, env := env, pre := h, v := .undef, post := none } :: rs, x)

def traceR (T : Tab) (cf : CallF) (ops : List Oper) (l : List Oper) : Env → AHeap → Option (List Rec × Env × AHeap) :=
  List.rec (motive := fun _ => Env → AHeap → Option (List Rec × Env × AHeap)) (fun env h => some ([], env, h))
    (fun o _ rc env h => Bool.rec (motive := fun _ => Option (List Rec × Env × AHeap)) none (Bool.casesOn (motive := fun _ => Option (List Rec × Env × AHeap)) (wantE ops env o)
      (ob (rc (env.put o.dst .undef) h) fun (rs, x) => some ({ wanted := false, env := env, pre := h, v := .undef, post := none } :: rs, x))
      (match doE T cf env o.op h with
      | none => none
      | some (v, none) => ob (rc (env.put o.dst v) h) fun (rs, x) => some ({ wanted := true, env := env, pre := h, v := v, post := none } :: rs, x)
      | some (v, some h1) => ob (rc (env.put o.dst v) h1) fun (rs, x) => some ({ wanted := true, env := env, pre := h, v := v, post := some h1 } :: rs, x))) (knownE ops env o)) l

theorem traceR_eq (T : Tab) (cf : CallF) (ops : List Oper) : ∀ (l : List Oper) (env : Env) (h : AHeap), traceR T cf ops l env h = traceE T cf ops l env h
  | [], _, _ => rfl
  | o :: rest, env, h => by
    have ih := traceR_eq T cf ops rest
    show Bool.rec (motive := fun _ => Option (List Rec × Env × AHeap)) none (Bool.casesOn (motive := fun _ => Option (List Rec × Env × AHeap)) (wantE ops env o)
      (ob (traceR T cf ops rest (env.put o.dst .undef) h) fun (rs, x) => some ({ wanted := false, env := env, pre := h, v := .undef, post := none } :: rs, x))
      (match doE T cf env o.op h with
      | none => none
      | some (v, none) => ob (traceR T cf ops rest (env.put o.dst v) h) fun (rs, x) => some ({ wanted := true, env := env, pre := h, v := v, post := none } :: rs, x)
      | some (v, some h1) => ob (traceR T cf ops rest (env.put o.dst v) h1) fun (rs, x) => some ({ wanted := true, env := env, pre := h, v := v, post := some h1 } :: rs, x))) (knownE ops env o) = _
    unfold traceE
    cases knownE ops env o with
    | false => rfl
    | true =>
    dsimp only [ck]
    cases wantE ops env o with
    | false => dsimp only; rw [ih]
    | true =>
      cases doE T cf env o.op h with
      | none => rfl
      | some x =>
        obtain ⟨v, h'⟩ := x
        cases h' with
        | none => dsimp only [ob]; rw [ih]
        | some h1 => dsimp only [ob]; rw [ih]

/- which operations each one must follow, as bits -/
def edgeBits (acc : List Nat) (s : Nat) (e : Edge) : Nat :=
  match Region.binds .any e with
  | true => Nat.lor s (Nat.lor (2 ^ e.on) (acc.getD e.on 0))
  | false => s

def beforeE (acc : List Nat) : List Oper → List Nat
  | [] => acc
  | o :: rest => beforeE (acc ++ [o.after.toList.foldl (edgeBits acc) 0]) rest

def bitE (b : List Nat) (j i : Nat) : Bool := (b.getD j 0).testBit i

def operandTmps : List Operand → List Nat
  | [] => []
  | .tmp t :: r => t :: operandTmps r
  | _ :: r => operandTmps r

def guardTmps (ops : List Oper) (o : Oper) : List Nat :=
  match o.guard with
  | some (g, _) => match ops[g]? with
    | some x => x.dst.toList
    | none => []
  | none => []

def namesE (ops : List Oper) (o : Oper) : List Nat := o.dst.toList ++ (operandTmps o.op.operands.toList ++ guardTmps ops o)

def withIdx {α : Type} (i : Nat) : List α → List (Nat × α)
  | [] => []
  | a :: r => (i, a) :: withIdx (i + 1) r

/- whoever writes what an operation names stands in a fixed order to it -/
def tmpsOkE (ops : List Oper) (b : List Nat) : Bool :=
  let ix := withIdx 0 ops
  ix.all fun (j, o) => let ns := namesE ops o
    ix.all fun (i, p) =>
    match p.dst with
    | some d => !(ns.any (Nat.beq d)) || Nat.beq i j || (match Nat.blt i j with | true => bitE b j i | false => bitE b i j)
    | none => true

/- edges lead back -/
def edgesOkE (ops : List Oper) : Bool :=
  (withIdx 0 ops).all fun (j, o) => o.after.toList.all (fun e => !Region.binds .any e || Nat.blt e.on j)

def effsE (i : Nat) : List Rec → List (Nat × AHeap)
  | [] => []
  | r :: rest => match r.post with
    | some h => (i, h) :: effsE (i + 1) rest
    | none => effsE (i + 1) rest

/- the effects, in the text's order, follow one another -/
def chainE (b : List Nat) : List (Nat × AHeap) → Bool
  | (i, _) :: rest => (rest.all fun (j, _) => bitE b j i) && chainE b rest
  | [] => true

def okAt (T : Tab) (cf : CallF) (o : Oper) (r : Rec) (h : AHeap) : Bool :=
  match doE T cf r.env o.op h with
  | some (v, none) => AV.eqb v r.v
  | _ => false

/- an operation that is no effect answers alike in each memory that it may meet -/
def stableE (T : Tab) (cf : CallF) (b : List Nat) (effs : List (Nat × AHeap)) (h0 : AHeap) (j : Nat) (o : Oper) (r : Rec) : Bool :=
  match r.wanted, r.post with
  | true, none =>
    (effs.any (fun (e, _) => bitE b j e) || (effs.all (fun (e, _) => Nat.blt j e) || okAt T cf o r h0)) &&
    effs.all fun (i, h) => effs.any (fun (e, _) => match Nat.ble e i with | true => bitE b e j | false => bitE b j e) ||
      ((Nat.blt i j && effs.all (fun (e, _) => Nat.ble e i || Nat.blt j e)) || okAt T cf o r h)
  | _, _ => true

def allStableE (T : Tab) (cf : CallF) (b : List Nat) (effs : List (Nat × AHeap)) (h0 : AHeap) : Nat → List Oper → List Rec → Bool
  | j, o :: os, r :: rs => stableE T cf b effs h0 j o r && allStableE T cf b effs h0 (j + 1) os rs
  | _, _, _ => true

def drawE (T : Tab) (cf : CallF) (ops : List Oper) (env : Env) (h : AHeap) : Option (Env × AHeap) :=
  ob (traceR T cf ops ops env h) fun (rs, env', h') =>
    let b := beforeE [] ops
    let effs := effsE 0 rs
    ck (edgesOkE ops) <| ck (tmpsOkE ops b) <| ck (chainE b effs) <| ck (allStableE T cf b effs h 0 ops rs) <| some (env', h')

/- ---------------------------------------------------------------- what the checks say -/
theorem withIdx_get {α : Type} : ∀ (l : List α) (k i : Nat), (withIdx k l)[i]? = l[i]?.map fun a => (k + i, a)
  | [], k, i => by simp [withIdx]
  | a :: r, k, 0 => by simp [withIdx]
  | a :: r, k, i + 1 => by
    simp only [withIdx, List.getElem?_cons_succ]
    rw [withIdx_get r (k + 1) i]
    congr 1; funext x; congr 1; omega

theorem withIdx_all {α : Type} {l : List α} {p : Nat × α → Bool} (h : (withIdx 0 l).all p = true) {i : Nat} {a : α} (e : l[i]? = some a) : p (i, a) = true := by
  rw [List.all_eq_true] at h
  refine h _ (List.mem_of_getElem? (i := i) ?_)
  rw [withIdx_get, e]; simp

/- a set of operations that holds what its members must follow -/
def Closed (ops : List Oper) (L : Nat → Prop) : Prop := ∀ j o, ops[j]? = some o → L j → ∀ e ∈ o.after.toList, Region.binds .any e = true → L e.on

theorem testBit_lor (a b i : Nat) : (Nat.lor a b).testBit i = (a.testBit i || b.testBit i) := Nat.testBit_or a b i

theorem edgeBits_spec {acc : List Nat} {R : Nat → Prop} : ∀ (l : List Edge) (s : Nat), (∀ i, s.testBit i = true → R i) →
    (∀ e ∈ l, Region.binds .any e = true → R e.on ∧ ∀ i, bitE acc e.on i = true → R i) → ∀ i, (l.foldl (edgeBits acc) s).testBit i = true → R i
  | [], s, h, _, i, hi => h i hi
  | e :: l, s, h, hl, i, hi => by
    refine edgeBits_spec l (edgeBits acc s e) ?_ (fun e' he' => hl e' (by simp [he'])) i hi
    intro i hi
    unfold edgeBits at hi
    cases hb : Region.binds .any e with
    | false => rw [hb] at hi; exact h i hi
    | true =>
      rw [hb] at hi
      obtain ⟨h1, h2⟩ := hl e (by simp) hb
      simp only [testBit_lor, Bool.or_eq_true] at hi
      rcases hi with hi | hi | hi
      · exact h i hi
      · rw [Nat.testBit_two_pow] at hi
        have : e.on = i := by simpa using hi
        exact this ▸ h1
      · exact h2 i hi

theorem beforeE_spec {ops : List Oper} {L : Nat → Prop} (hL : Closed ops L) : ∀ (rest : List Oper) (acc : List Nat), (∀ i, rest[i]? = ops[acc.length + i]?) →
    (∀ j i, bitE acc j i = true → L j → L i) → ∀ j i, bitE (beforeE acc rest) j i = true → L j → L i
  | [], acc, _, h, j, i, hb, hj => h j i hb hj
  | o :: rest, acc, hr, h, j, i, hb, hj => by
    refine beforeE_spec hL rest (acc ++ [o.after.toList.foldl (edgeBits acc) 0]) ?_ ?_ j i hb hj
    · intro i
      have := hr (i + 1)
      simp only [List.getElem?_cons_succ] at this
      rw [this]; congr 1; simp; omega
    · intro j i hb hj
      unfold bitE at hb
      rcases Nat.lt_trichotomy j acc.length with hlt | heq | hgt
      · refine h j i ?_ hj
        unfold bitE
        rw [List.getD_eq_getElem?_getD, List.getElem?_append_left hlt, ← List.getD_eq_getElem?_getD] at hb
        exact hb
      · subst heq
        rw [List.getD_eq_getElem?_getD, List.getElem?_append_right (Nat.le_refl _)] at hb
        simp only [Nat.sub_self, List.getElem?_cons_zero, Option.getD_some] at hb
        have h0 := hr 0
        simp only [List.getElem?_cons_zero, Nat.add_zero] at h0
        refine edgeBits_spec (R := L) _ 0 (by simp) ?_ i hb
        intro e he hbi
        have hon := hL acc.length o h0.symm hj e he hbi
        exact ⟨hon, fun i hi => h e.on i hi hon⟩
      · rw [List.getD_eq_getElem?_getD, List.getElem?_eq_none (by simp; omega)] at hb
        simp at hb

theorem bit_closed {ops : List Oper} {L : Nat → Prop} (hL : Closed ops L) {j i : Nat} (hb : bitE (beforeE [] ops) j i = true) (hj : L j) : L i :=
  beforeE_spec hL ops [] (by simp) (by simp [bitE]) j i hb hj

end
end Go.Ev

/-
  A small evaluator of the model's programs: regions whose order is open: proof.
-/
namespace Go.Ev
open Go Go.RowKit

variable {P : Program} {T : Tab} {B : Nat} {W w : World} {φ : Phi} {h : AHeap}

/- the last of what was written -/
def last {α : Type} (f : Nat → Option α) : Nat → α → α
  | 0, x => x
  | n + 1, x => (f n).getD (last f n x)

theorem last_congr {α : Type} {f g : Nat → Option α} {x : α} : ∀ n, (∀ k, k < n → f k = g k) → last f n x = last g n x
  | 0, _ => rfl
  | n + 1, h => by unfold last; rw [h n (by omega), last_congr n fun k hk => h k (by omega)]

theorem last_cut {α : Type} {f : Nat → Option α} {x : α} {j : Nat} : ∀ n, j ≤ n → (∀ k, j ≤ k → k < n → f k = none) → last f n x = last f j x
  | 0, hj, _ => by have : j = 0 := by omega
                   rw [this]
  | n + 1, hj, h => by
    rcases Nat.lt_or_ge n j with hlt | hge
    · have : j = n + 1 := by omega
      rw [this]
    · have e : last f (n + 1) x = last f n x := by show (f n).getD _ = _; rw [h n hge (by omega)]; rfl
      rw [e]; exact last_cut n hge fun k h1 h2 => h k h1 (by omega)

theorem last_at {α : Type} {f : Nat → Option α} {x y : α} {j n : Nat} (hj : j < n) (hf : f j = some y) (h : ∀ k, j < k → k < n → f k = none) : last f n x = y := by
  rw [last_cut (j := j + 1) n hj fun k h1 h2 => h k h1 h2]
  unfold last; rw [hf]; rfl

theorem last_cases {α : Type} (f : Nat → Option α) (x : α) : ∀ n, (last f n x = x ∧ ∀ k, k < n → f k = none) ∨ ∃ i y, i < n ∧ f i = some y ∧ last f n x = y ∧ ∀ k, i < k → k < n → f k = none
  | 0 => .inl ⟨rfl, fun k hk => absurd hk (Nat.not_lt_zero k)⟩
  | n + 1 => by
    cases hf : f n with
    | some y => exact .inr ⟨n, y, by omega, hf, by unfold last; rw [hf]; rfl, fun k h1 h2 => by omega⟩
    | none =>
      have e : last f (n + 1) x = last f n x := by show (f n).getD _ = _; rw [hf]; rfl
      rw [e]
      rcases last_cases f x n with ⟨h1, h2⟩ | ⟨i, y, h1, h2, h3, h4⟩
      · refine .inl ⟨h1, fun k hk => ?_⟩
        rcases Nat.lt_or_ge k n with hlt | hge
        · exact h2 k hlt
        · have : k = n := by omega
          rw [this]; exact hf
      · refine .inr ⟨i, y, by omega, h2, h3, fun k hk hk' => ?_⟩
        rcases Nat.lt_or_ge k n with hlt | hge
        · exact h4 k hk hlt
        · have : k = n := by omega
          rw [this]; exact hf

/- ---------------------------------------------------------------- operands -/
theorem evals_congr {e e' : Env} : ∀ {l : List Operand}, (∀ x ∈ l, e.eval x = e'.eval x) → evals e l = evals e' l
  | [], _ => rfl
  | x :: xs, h => by unfold evals; rw [h x (by simp), evals_congr fun y hy => h y (by simp [hy])]
theorem evalParts_congr {e e' : Env} : ∀ {l : List (Nat × Operand)}, (∀ x ∈ l, e.eval x.2 = e'.eval x.2) → evalParts e l = evalParts e' l
  | [], _ => rfl
  | (i, x) :: xs, h => by unfold evalParts; rw [h (i, x) (by simp), evalParts_congr fun y hy => h y (by simp [hy])]
theorem optE_congr {e e' : Env} {o : Option Operand} (h : ∀ x, o = some x → e.eval x = e'.eval x) : optE e o = optE e' o := by
  cases o with
  | none => rfl
  | some x => unfold optE; dsimp only; rw [h x rfl]

theorem opE_congr (T : Tab) {e e' : Env} {op : Op} (hx : ∀ x ∈ op.operands, e.eval x = e'.eval x) (h : AHeap) : opE T e op h = opE T e' op h := by
  cases op <;> simp only [Op.operands] at hx <;> simp only [opE]
  case build t ps => rw [evalParts_congr fun x hm => hx x.2 (by simp only [List.mem_toArray, List.mem_map]; exact ⟨x, hm, rfl⟩)]
  case buildSlice t n ps => rw [evalParts_congr fun x hm => hx x.2 (by simp only [List.mem_toArray, List.mem_map]; exact ⟨x, hm, rfl⟩)]
  case makeFunc fn first captured =>
    rw [evals_congr (l := first.toList) fun x hm => hx x (by simp_all), evals_congr (l := captured.toList) fun x hm => hx x (by simp_all)]
  case call c =>
    have ha : evals e c.args.toList = evals e' c.args.toList := evals_congr fun x hm => hx x (by simp [Call.operands]; right; simpa using hm)
    cases hc : c.callee with
    | builtin b => simp only [ha]
    | value f =>
      have hf : e.eval f = e'.eval f := hx f (by simp [Call.operands, hc])
      simp only [ha, hf]
    | invoke r m => rfl
  case slice t x lo hi mx =>
    have h1 : e.eval x = e'.eval x := hx x (by simp)
    have h2 : optE e lo = optE e' lo := optE_congr fun y hy => hx y (by subst hy; simp)
    have h3 : optE e hi = optE e' hi := optE_congr fun y hy => hx y (by subst hy; simp)
    have h4 : optE e mx = optE e' mx := optE_congr fun y hy => hx y (by subst hy; simp)
    rw [h1, h2, h3, h4]
  all_goals (first | rfl | (simp_all; done))

theorem mem_operandTmps {t : Nat} : ∀ {l : List Operand}, .tmp t ∈ l → t ∈ operandTmps l
  | [], h => by cases h
  | x :: xs, h => by
    cases x <;> simp only [operandTmps, List.mem_cons] at h ⊢
    case tmp u =>
      rcases h with h | h
      · cases h; exact .inl rfl
      · exact .inr (mem_operandTmps h)
    all_goals (rcases h with h | h; · cases h
               exact mem_operandTmps h)

theorem doE_congr (T : Tab) (cf : CallF) {ops : List Oper} {o : Oper} {e e' : Env} (hg : e.glob = e'.glob) (hn : ∀ t ∈ namesE ops o, e.get t = e'.get t) (h : AHeap) : doE T cf e o.op h = doE T cf e' o.op h := by
  unfold doE
  rw [opF_eq, opF_eq, opE_congr T (e := e) (e' := e') fun x hx => ?_]
  cases x with
  | tmp t => 
    show e.get t = e'.get t
    rw [hn t]
    unfold namesE
    simp only [List.mem_append]
    exact .inr (.inl (mem_operandTmps (by simpa using hx)))
  | const v => rfl
  | global g => unfold Env.eval; rw [hg]
  | func f => rfl

theorem wantE_congr {ops : List Oper} {o : Oper} {e e' : Env} (hs : e.size = e'.size) (hn : ∀ t ∈ namesE ops o, e.get t = e'.get t) : wantE ops e o = wantE ops e' o := by
  unfold wantE
  cases hg : o.guard with
  | none => rfl
  | some g =>
    obtain ⟨j, want⟩ := g
    have : yieldE ops e j = yieldE ops e' j := by
      unfold yieldE
      cases hj : ops[j]? with
      | none => rfl
      | some p =>
        cases hd : p.dst with
        | none => simp only [hd]
        | some d =>
          simp only [hd]
          rw [hs, hn d]
          unfold namesE guardTmps
          simp [hg, hj, hd]
    simp only [this]

theorem knownE_congr {ops : List Oper} {o : Oper} {e e' : Env} (hs : e.size = e'.size) (hn : ∀ t ∈ namesE ops o, e.get t = e'.get t) : knownE ops e o = knownE ops e' o := by
  unfold knownE
  cases hg : o.guard with
  | none => rfl
  | some g =>
    obtain ⟨j, want⟩ := g
    cases hj : ops[j]? with
    | none => simp only [hj]
    | some p =>
      cases hd : p.dst with
      | none => simp only [hj, hd]
      | some d =>
        simp only [hj, hd]
        rw [hs, hn d]
        unfold namesE guardTmps
        simp [hg, hj, hd]

/- ---------------------------------------------------------------- the trace -/
theorem trace_spec {cf : CallF} {ops : List Oper} : ∀ (l : List Oper) (env : Env) (h : AHeap) (rs : List Rec) (env' : Env) (h' : AHeap), traceE T cf ops l env h = some (rs, env', h') →
    ∃ S : Nat → Env × AHeap, S 0 = (env, h) ∧ S l.length = (env', h') ∧ rs.length = l.length ∧ ∀ i o, l[i]? = some o → ∃ r, rs[i]? = some r ∧ r.env = (S i).1 ∧ r.pre = (S i).2 ∧
      (knownE ops r.env o = true ∧ wantE ops r.env o = r.wanted) ∧ (r.wanted = true → doE T cf r.env o.op r.pre = some (r.v, r.post)) ∧ (r.wanted = false → r.v = .undef ∧ r.post = none) ∧ S (i + 1) = (r.env.put o.dst r.v, AHeap.or r.post r.pre)
  | [], env, h, rs, env', h', e => by
    cases e
    exact ⟨fun _ => (env, h), rfl, rfl, rfl, fun i o hi => by simp at hi⟩
  | o :: rest, env, h, rs, env', h', e => by
    unfold traceE at e
    obtain ⟨hkn, e⟩ := ck_some e
    cases hw : wantE ops env o with
    | true =>
      rw [hw] at e
      dsimp only at e
      replace e := ob_some e; obtain ⟨⟨v, ho⟩, hdo, e⟩ := e
      replace e : (ob (traceE T cf ops rest (env.put o.dst v) (AHeap.or ho h)) fun (rs, x) => some ({ wanted := true, env := env, pre := h, v := v, post := ho } :: rs, x)) = some (rs, env', h') := by cases ho <;> exact e
      replace e := ob_some e; obtain ⟨⟨rs1, env1, h1⟩, ht, e⟩ := e
      cases e
      obtain ⟨S, s0, sn, hl, hs⟩ := trace_spec rest _ _ _ _ _ ht
      refine ⟨fun i => match i with | 0 => (env, h) | i + 1 => S i, rfl, by simpa using sn, by simp [hl], fun i p hi => ?_⟩
      cases i with
      | zero =>
        simp only [List.getElem?_cons_zero, Option.some.injEq] at hi
        subst hi
        exact ⟨{ wanted := true, env := env, pre := h, v := v, post := ho }, rfl, rfl, rfl, ⟨hkn, hw⟩, fun _ => hdo, fun x => (by cases x), s0⟩
      | succ i => simpa using hs i p (by simpa using hi)
    | false =>
      rw [hw] at e
      dsimp only at e
      replace e := ob_some e; obtain ⟨⟨rs1, env1, h1⟩, ht, e⟩ := e
      cases e
      obtain ⟨S, s0, sn, hl, hs⟩ := trace_spec rest _ _ _ _ _ ht
      refine ⟨fun i => match i with | 0 => (env, h) | i + 1 => S i, rfl, by simpa using sn, by simp [hl], fun i p hi => ?_⟩
      cases i with
      | zero =>
        simp only [List.getElem?_cons_zero, Option.some.injEq] at hi
        subst hi
        exact ⟨{ wanted := false, env := env, pre := h, v := .undef, post := none }, rfl, rfl, rfl, ⟨hkn, hw⟩, fun x => (by cases x), fun _ => ⟨rfl, rfl⟩, s0⟩
      | succ i => simpa using hs i p (by simpa using hi)

def wv (ops : List Oper) (rs : List Rec) (size t k : Nat) : Option (Option AV) :=
  match ops[k]?, rs[k]? with
  | some o, some r => if o.dst = some t ∧ t < size then some (some r.v) else none
  | _, _ => none
def hv (rs : List Rec) (k : Nat) : Option AHeap :=
  match rs[k]? with
  | some r => r.post
  | none => none

theorem Env.put_size (e : Env) (d : Option Nat) (v : AV) : (e.put d v).size = e.size ∧ (e.put d v).glob = e.glob := by
  rw [Env.put_eq]
  cases d with
  | none => exact ⟨rfl, rfl⟩
  | some d => dsimp only; cases Nat.blt d e.size <;> exact ⟨rfl, rfl⟩

theorem Env.get_put {e : Env} (hr : e.size ≤ PT.room) (d : Option Nat) (v : AV) (t : Nat) : (e.put d v).get t = if d = some t ∧ t < e.size then some v else e.get t := by
  rw [Env.put_eq]
  cases d with
  | none => simp
  | some d =>
    dsimp only
    cases hb : Nat.blt d e.size with
    | false =>
      have hge : ¬ d < e.size := fun hlt => by
        have : Nat.blt d e.size = true := Nat.ble_eq_true_of_le hlt
        rw [this] at hb; cases hb
      rw [if_neg]
      rintro ⟨h1, h2⟩; cases h1; exact hge h2
    | true =>
      have hlt := blt_lt hb
      have hd : d < PT.room := Nat.lt_of_lt_of_le hlt hr
      simp only [Env.get, PT.get_set _ _ _ _ hd]
      by_cases ht : t = d
      · subst ht; rw [if_pos rfl, if_pos ⟨rfl, hlt⟩]
      · rw [if_neg ht, if_neg]; rintro ⟨h1, _⟩; exact ht (Option.some.inj h1).symm

/- what the trace's states are -/
structure Traced (T : Tab) (cf : CallF) (ops : List Oper) (env : Env) (h : AHeap) (rs : List Rec) (env' : Env) (h' : AHeap) : Prop where
  len : rs.length = ops.length
  at_ : ∀ (i : Nat) (o : Oper), ops[i]? = some o → ∃ r, rs[i]? = some r ∧ (knownE ops r.env o = true ∧ wantE ops r.env o = r.wanted) ∧ (r.wanted = true → doE T cf r.env o.op r.pre = some (r.v, r.post)) ∧ (r.wanted = false → r.v = .undef ∧ r.post = none) ∧
    r.env.size = env.size ∧ r.env.glob = env.glob ∧ (∀ t, r.env.get t = last (wv ops rs env.size t) i (env.get t)) ∧ r.pre = last (hv rs) i h
  fin : env'.size = env.size ∧ env'.glob = env.glob ∧ (∀ t, env'.get t = last (wv ops rs env.size t) ops.length (env.get t)) ∧ h' = last (hv rs) ops.length h

theorem traced {cf : CallF} {ops : List Oper} {env : Env} {h : AHeap} {rs : List Rec} {env' : Env} {h' : AHeap} (hr : env.size ≤ PT.room) (e : traceE T cf ops ops env h = some (rs, env', h')) : Traced T cf ops env h rs env' h' := by
  obtain ⟨S, s0, sn, hl, hs⟩ := trace_spec ops env h rs env' h' e
  have key : ∀ i, i ≤ ops.length → (S i).1.size = env.size ∧ (S i).1.glob = env.glob ∧ (∀ t, (S i).1.get t = last (wv ops rs env.size t) i (env.get t)) ∧ (S i).2 = last (hv rs) i h := by
    intro i
    induction i with
    | zero => intro _; rw [s0]; exact ⟨rfl, rfl, fun _ => rfl, rfl⟩
    | succ i ih =>
      intro hi
      obtain ⟨h1, h2, h3, h4⟩ := ih (by omega)
      have ho : ops[i]? = some ops[i] := by simp
      obtain ⟨r, hr1, hr2, hr3, _, _, _, hst⟩ := hs i _ ho
      rw [hst]
      refine ⟨by rw [(Env.put_size _ _ _).1, hr2]; exact h1, by rw [(Env.put_size _ _ _).2, hr2]; exact h2, fun t => ?_, ?_⟩
      · show (r.env.put _ r.v).get t = _
        rw [Env.get_put (by rw [hr2, h1]; exact hr), hr2, h1]
        unfold last wv
        rw [ho, hr1]
        dsimp only
        by_cases hc : ops[i].dst = some t ∧ t < env.size
        · rw [if_pos hc, if_pos hc]; rfl
        · rw [if_neg hc, if_neg hc]; exact h3 t
      · show AHeap.or r.post r.pre = _
        rw [hr3]
        unfold last hv
        rw [hr1]
        dsimp only
        cases r.post with
        | none => exact h4
        | some _ => rfl
  refine ⟨hl, fun i o hi => ?_, ?_⟩
  · obtain ⟨r, h1, h2, h3, h4, h5, h6, _⟩ := hs i o hi
    have hlt : i < ops.length := (List.getElem?_eq_some_iff.1 hi).1
    obtain ⟨k1, k2, k3, k4⟩ := key i (by omega)
    exact ⟨r, h1, h4, h5, h6, by rw [h2]; exact k1, by rw [h2]; exact k2, fun t => by rw [h2]; exact k3 t, by rw [h3]; exact k4⟩
  · have := key ops.length (Nat.le_refl _)
    rw [sn] at this
    exact this

theorem mem_effs : ∀ (rs : List Rec) (k i : Nat) (hp : AHeap), (i, hp) ∈ effsE k rs ↔ ∃ n r, i = k + n ∧ rs[n]? = some r ∧ r.post = some hp
  | [], k, i, hp => by simp [effsE]
  | r :: rs, k, i, hp => by
    have ih := mem_effs rs (k + 1) i hp
    have tail : (∃ n r', i = (k + 1) + n ∧ rs[n]? = some r' ∧ r'.post = some hp) ↔ ∃ n r', i = k + (n + 1) ∧ (r :: rs)[n + 1]? = some r' ∧ r'.post = some hp := by
      constructor
      · rintro ⟨n, r', h1, h2, h3⟩; exact ⟨n, r', by omega, by simpa using h2, h3⟩
      · rintro ⟨n, r', h1, h2, h3⟩; exact ⟨n, r', by omega, by simpa using h2, h3⟩
    unfold effsE
    cases hq : r.post with
    | none =>
      dsimp only
      rw [ih, tail]
      constructor
      · rintro ⟨n, r', h⟩; exact ⟨n + 1, r', h⟩
      · rintro ⟨n, r', h1, h2, h3⟩
        cases n with
        | zero => simp at h2; subst h2; rw [hq] at h3; cases h3
        | succ n => exact ⟨n, r', h1, h2, h3⟩
    | some hp0 =>
      dsimp only
      rw [List.mem_cons, ih, tail]
      constructor
      · rintro (h | ⟨n, r', h⟩)
        · cases h; exact ⟨0, r, rfl, rfl, hq⟩
        · exact ⟨n + 1, r', h⟩
      · rintro ⟨n, r', h1, h2, h3⟩
        cases n with
        | zero => simp at h2; subst h2; rw [hq] at h3; cases h3; left; rw [h1]; rfl
        | succ n => exact .inr ⟨n, r', h1, h2, h3⟩

theorem mem_effs0 {rs : List Rec} {i : Nat} {hp : AHeap} : (i, hp) ∈ effsE 0 rs ↔ hv rs i = some hp := by
  rw [mem_effs]
  unfold hv
  constructor
  · rintro ⟨n, r, h1, h2, h3⟩
    have : i = n := by omega
    subst this; rw [h2]; exact h3
  · intro h
    cases hr : rs[i]? with
    | none => rw [hr] at h; cases h
    | some r => rw [hr] at h; exact ⟨i, r, by omega, hr, h⟩

theorem effs_sorted : ∀ (rs : List Rec) (k : Nat), (effsE k rs).Pairwise (fun a b => a.1 < b.1)
  | [], k => by simp [effsE]
  | r :: rs, k => by
    unfold effsE
    cases r.post with
    | none => exact effs_sorted rs (k + 1)
    | some hp =>
      dsimp only
      rw [List.pairwise_cons]
      refine ⟨fun x hx => ?_, effs_sorted rs (k + 1)⟩
      obtain ⟨n, _, h1, _⟩ := (mem_effs rs (k + 1) x.1 x.2).1 hx
      show k < x.1
      omega

theorem chain_spec {b : List Nat} : ∀ (l : List (Nat × AHeap)), l.Pairwise (fun a b => a.1 < b.1) → chainE b l = true → ∀ i hp j hq, (i, hp) ∈ l → (j, hq) ∈ l → i < j → bitE b j i = true
  | [], _, _, i, hp, j, hq, h1, _, _ => by cases h1
  | (k, x) :: rest, hs, hc, i, hp, j, hq, h1, h2, hlt => by
    unfold chainE at hc
    simp only [Bool.and_eq_true, List.all_eq_true] at hc
    rw [List.pairwise_cons] at hs
    rcases List.mem_cons.1 h2 with h2' | h2'
    · cases h2'
      rcases List.mem_cons.1 h1 with h1' | h1'
      · cases h1'; omega
      · have := hs.1 _ h1'; omega
    · rcases List.mem_cons.1 h1 with h1' | h1'
      · cases h1'; exact hc.1 _ h2'
      · exact chain_spec rest hs.2 hc.2 i hp j hq h1' h2' hlt

theorem stable_spec {cf : CallF} {b : List Nat} {effs : List (Nat × AHeap)} {h0 : AHeap} : ∀ (os : List Oper) (rs : List Rec) (k : Nat), allStableE T cf b effs h0 k os rs = true →
    ∀ (i : Nat) (o : Oper) (r : Rec), os[i]? = some o → rs[i]? = some r → stableE T cf b effs h0 (k + i) o r = true
  | [], _, _, _, i, o, r, h1, _ => by simp at h1
  | _ :: _, [], _, _, i, o, r, _, h2 => by simp at h2
  | o' :: os, r' :: rs, k, h, i, o, r, h1, h2 => by
    unfold allStableE at h
    simp only [Bool.and_eq_true] at h
    cases i with
    | zero => simp at h1 h2; subst h1; subst h2; exact h.1
    | succ i =>
      have := stable_spec os rs (k + 1) h.2 i o r (by simpa using h1) (by simpa using h2)
      have e : k + (i + 1) = k + 1 + i := by omega
      rw [e]; exact this

theorem PT.exists_of (f : Nat → Option AV) : ∀ n, n ≤ PT.room → ∃ pt : PT AV, ∀ t, pt.get t = if t < n then f t else none
  | 0, _ => ⟨.nil, fun t => by simp [PT.get_nil]⟩
  | n + 1, h => by
    obtain ⟨pt, hp⟩ := PT.exists_of f n (by omega)
    refine ⟨pt.set n (f n), fun t => ?_⟩
    rw [PT.get_set _ _ _ _ (by omega)]
    by_cases ht : t = n
    · subst ht; rw [if_pos rfl, if_pos (by omega)]
    · rw [if_neg ht, hp t]
      by_cases hlt : t < n
      · rw [if_pos hlt, if_pos (by omega)]
      · rw [if_neg hlt, if_neg (by omega)]

theorem wpAny_inv {ops : Array Oper} {Q : Exit → Act → World → Prop} (I : Array Bool → Act → World → Prop)
    (h0 : ∀ l a w, I l a w → Region.ready .any ops l = [] → Q .normal a w)
    (hs : ∀ l a w, I l a w → l.size = ops.size)
    (h1 : ∀ l a w, I l a w → ∀ i ∈ Region.ready .any ops l, wpOp P ops Q i (I (l.setIfInBounds i true)) a w) :
    ∀ (fuel : Nat) (l : Array Bool) (a : Act) (w : World), ((List.range ops.size).filter fun i => !l.getD i true).length ≤ fuel → I l a w → wpAny P .any ops Q fuel l a w := by
  have none_ready : ∀ l : Array Bool, ((List.range ops.size).filter fun i => !l.getD i true).length = 0 → Region.ready .any ops l = [] := by
    intro l hl
    cases hr : Region.ready .any ops l with
    | nil => rfl
    | cons j r =>
      have hj : j ∈ Region.ready .any ops l := by rw [hr]; simp
      obtain ⟨hj1, o, ho, _⟩ := mem_ready.1 hj
      have hlt : j < ops.size := (Array.getElem?_eq_some_iff.1 ho).1
      have : j ∈ (List.range ops.size).filter fun i => !l.getD i true := by
        rw [List.mem_filter, List.mem_range]; exact ⟨hlt, by rw [hj1]; rfl⟩
      rw [List.length_eq_zero_iff] at hl
      rw [hl] at this; cases this
  intro fuel
  induction fuel with
  | zero =>
    intro l a w hl hI
    have := none_ready l (by omega)
    exact ⟨this, h0 l a w hI this⟩
  | succ n ih =>
    intro l a w hl hI
    refine ⟨h0 l a w hI, fun i hi => ?_⟩
    refine wpOp_mono (fun a' w' hI' => ih _ a' w' ?_ hI') (h1 l a w hI i hi)
    obtain ⟨hi1, o, ho, _⟩ := mem_ready.1 hi
    have hlt : i < ops.size := (Array.getElem?_eq_some_iff.1 ho).1
    have hm : i ∈ (List.range ops.size).filter fun i => !l.getD i true := by
      rw [List.mem_filter, List.mem_range]; exact ⟨hlt, by rw [hi1]; rfl⟩
    have he : ((List.range ops.size).filter fun j => !(l.setIfInBounds i true).getD j true) = ((List.range ops.size).filter fun j => !l.getD j true).filter fun j => j != i := by
      rw [List.filter_filter]
      apply List.filter_congr
      intro j hj
      by_cases hji : j = i
      · subst hji
        have : (l.setIfInBounds j true).getD j true = true := by
          have := hs l a w hI
          simp [Array.getD, this, hlt]
        rw [this]; simp
      · rw [getD_set_ne true (Ne.symm hji)]
        have : (j != i) = true := by simpa using hji
        rw [this]; simp
    rw [he]
    have := List.length_filter_lt_length_iff_exists.2 (⟨i, hm, by simp⟩ : ∃ x ∈ (List.range ops.size).filter fun j => !l.getD j true, ¬ (x != i) = true)
    omega

end Go.Ev
