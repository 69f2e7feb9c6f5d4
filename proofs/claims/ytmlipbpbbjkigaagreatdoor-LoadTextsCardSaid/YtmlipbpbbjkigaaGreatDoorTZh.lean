/- Parts: what can be read of them, as data. Written by gen_zh.py. -/
import Derived.Test.YtmlipbpbbjkigaaGreatDoorTZg
import Derived.Test.YtmlipbpbbjkigaaGreatDoorEvd
set_option linter.unusedVariables false
set_option linter.unusedSimpArgs false
namespace Go.Proofs.YtmlipbpbbjkigaaGreatDoor
open Go Go.Ev Go.Proofs Go.RowKit Go.ChangeShapes
set_option maxRecDepth 100000
noncomputable section

def fsOf (d : TypeDesc) : Array Field := match d with
  | .struct fs => fs
  | _ => #[]
theorem u3 : Tryz.prog.underlying 3 = some (.int .i64) := by kernel_rfl
theorem u5 : Tryz.prog.underlying 5 = some (.int .u8) := by kernel_rfl
theorem u9 : Tryz.prog.underlying 9 = some .string := by kernel_rfl
theorem u23 : Tryz.prog.underlying 23 = some (.struct (fsOf Tryz.t22.desc)) := by kernel_rfl
theorem u24 : Tryz.prog.underlying 24 = some (.slice 33) := by kernel_rfl
theorem u25 : Tryz.prog.underlying 25 = some (.slice 37) := by kernel_rfl
theorem u27 : Tryz.prog.underlying 27 = some (.struct (fsOf Tryz.t26.desc)) := by kernel_rfl
theorem u31 : Tryz.prog.underlying 31 = some (.array 32 5) := by kernel_rfl
theorem u33 : Tryz.prog.underlying 33 = some (.struct (fsOf Tryz.t32.desc)) := by kernel_rfl
theorem u35 : Tryz.prog.underlying 35 = some (.struct (fsOf Tryz.t34.desc)) := by kernel_rfl
theorem u37 : Tryz.prog.underlying 37 = some (.struct (fsOf Tryz.t36.desc)) := by kernel_rfl

variable {W : World} {H : Type} {enc : TypeId × Value → H} {base : Nat} {sp : Nat → Bool} {held : Bool}

/- a list of values that stand for these, entry by entry -/
theorem plain_of {avs : List AV} {vs : List Value} (hl : vs.length = avs.length) (h : ∀ (i : Nat) (a : AV), avs[i]? = some a → ∃ v, vs[i]? = some v ∧ ∀ φ, VR φ a v) : PlainRs avs vs := fun _ =>
  VRs.of_get hl fun i a e => let ⟨v, h1, h2⟩ := h i a e; ⟨v, h1, h2 _⟩

theorem read_in {n : Nat} {cs : List Value} {y : DataW H × List MemPlace} (h : DataW.trod enc Tryz.prog W base sp held n 33 cs = some y) (hw : Sized Tryz.prog 33 y.1) : ∃ x : InD, x.path.length ≤ reachBytes ∧ PlainRs (inC x) cs := by
  have hlen := read_len (k := 33) h u33 (by kernel_rfl)
  obtain ⟨m0, y0, h0, w0⟩ := read_field (i := 0) (t' := 9) (o := 0) (k := 1) h u33 (by kernel_rfl) (by kernel_rfl) hw
  obtain ⟨m1, y1, h1, w1⟩ := read_field (i := 1) (t' := 31) (o := 1) (k := 32) h u33 (by kernel_rfl) (by kernel_rfl) hw
  obtain ⟨s, e0, l0⟩ := read_string u9 h0 w0
  obtain ⟨f, e1⟩ := read_bytes u31 u5 (by kernel_rfl) h1
  refine ⟨⟨s, f⟩, l0, plain_of (by rw [hlen]; rfl) fun i a ha => ?_⟩
  cases i with
  | zero =>
    simp only [inC, List.getElem?_cons_zero, Option.some.injEq] at ha
    subst ha
    exact ⟨_, e0, fun φ => by simp [VR]⟩
  | succ i =>
    simp only [inC, List.getElem?_cons_succ] at ha
    rw [bytesE_get] at ha
    obtain ⟨b, hb, rfl⟩ := Option.map_eq_some_iff.1 ha
    have hi : i < 32 := (List.getElem?_eq_some_iff.1 hb).1
    have e2 : ∀ i, i < 32 → (idL f)[i]? = some (f i) := fun i hi => by
      match i, hi with
      | 0, _ => rfl
      | 1, _ => rfl
      | 2, _ => rfl
      | 3, _ => rfl
      | 4, _ => rfl
      | 5, _ => rfl
      | 6, _ => rfl
      | 7, _ => rfl
      | 8, _ => rfl
      | 9, _ => rfl
      | 10, _ => rfl
      | 11, _ => rfl
      | 12, _ => rfl
      | 13, _ => rfl
      | 14, _ => rfl
      | 15, _ => rfl
      | 16, _ => rfl
      | 17, _ => rfl
      | 18, _ => rfl
      | 19, _ => rfl
      | 20, _ => rfl
      | 21, _ => rfl
      | 22, _ => rfl
      | 23, _ => rfl
      | 24, _ => rfl
      | 25, _ => rfl
      | 26, _ => rfl
      | 27, _ => rfl
      | 28, _ => rfl
      | 29, _ => rfl
      | 30, _ => rfl
      | 31, _ => rfl
      | n + 32, hn => exact absurd hn (by omega)
    rw [e2 i hi] at hb
    cases hb
    refine ⟨.int .u8 (.ofNat (f i).toNat), ?_, fun φ => by simp [VR]⟩
    rw [Nat.add_comm]; exact e1 i hi

structure DepOk (x : DepD) : Prop where
  path : x.path.length ≤ reachBytes
  dir : x.dir.length ≤ reachBytes
  kind : inR x.kind
theorem read_dep {n : Nat} {cs : List Value} {y : DataW H × List MemPlace} (h : DataW.trod enc Tryz.prog W base sp held n 37 cs = some y) (hw : Sized Tryz.prog 37 y.1) : ∃ x : DepD, DepOk x ∧ PlainRs (depC x) cs := by
  have hlen := read_len (k := 3) h u37 (by kernel_rfl)
  obtain ⟨m0, y0, h0, w0⟩ := read_field (i := 0) (t' := 9) (o := 0) (k := 1) h u37 (by kernel_rfl) (by kernel_rfl) hw
  obtain ⟨m1, y1, h1, w1⟩ := read_field (i := 1) (t' := 35) (o := 1) (k := 2) h u37 (by kernel_rfl) (by kernel_rfl) hw
  obtain ⟨m2, y2, h2, w2⟩ := read_field (i := 0) (t' := 3) (o := 0) (k := 1) h1 u35 (by kernel_rfl) (by kernel_rfl) w1
  obtain ⟨m3, y3, h3, w3⟩ := read_field (i := 1) (t' := 9) (o := 1) (k := 1) h1 u35 (by kernel_rfl) (by kernel_rfl) w1
  obtain ⟨s, e0, l0⟩ := read_string u9 h0 w0
  obtain ⟨z, e2, l2⟩ := read_int u3 h2
  obtain ⟨d, e3, l3⟩ := read_string u9 h3 w3
  rw [List.getElem?_take, if_pos (by decide), List.getElem?_drop] at e2 e3
  refine ⟨⟨s, z, d⟩, ⟨l0, l3, wf_i64 l2⟩, plain_of (by rw [hlen]; rfl) fun i a ha => ?_⟩
  match i, ha with
  | 0, ha => cases ha; exact ⟨_, e0, fun φ => by simp [VR]⟩
  | 1, ha => cases ha; exact ⟨_, e2, fun φ => by simp [VR]⟩
  | 2, ha => cases ha; exact ⟨_, e3, fun φ => by simp [VR]⟩
  | n + 3, ha => simp [depC] at ha

/- a slice's row in a world -/
def RowIn (W : World) (pl : Pl) (cs : List AV) : Prop := ∃ cells el fr, W.heap[pl.b]? = some (.cells cells el fr) ∧ cells.size = pl.n ∧ pl.base + cs.length ≤ pl.n ∧ PlainRow cells pl.base cs
theorem RowIn.obj {pl : Pl} {cs : List AV} (h : RowIn W pl cs) (φ : Phi) (o : Option Cap) (opn : Bool) : ObjR φ W pl (rwV o cs opn pl.n) ∧ pl.b < W.heap.size := by
  obtain ⟨cells, el, fr, h1, h2, h3, h4⟩ := h
  refine ⟨?_, ?_⟩
  · cases o with
    | none => trivial
    | some c => exact ⟨cells, el, fr.1, fr.2, h1, h2, h3, fun i a ha => let ⟨v, g1, g2⟩ := h4 i a ha; ⟨v, g1, g2 φ⟩, fun i hi1 hi2 => by omega⟩
  · exact (Array.getElem?_eq_some_iff.1 h1).1

def SliceIn (v : Value) (n : Nat) (o : Option Cap) (pl : Pl) : Prop := (o = none → n = 0 ∧ v = .slice none 0 0) ∧ ∀ c, o = some c → ∃ a cap, c = .ex cap ∧ v = .slice (some a) n cap ∧ n ≤ cap ∧ (0 < cap → a = ⟨pl.b, pl.base, none⟩)
theorem SliceIn.vr {v : Value} {n : Nat} {o : Option Cap} {pl : Pl} (h : SliceIn v n o pl) {φ : Phi} {l : Nat} (hp : φ l = some pl) : VR φ (slV l n o) v := by
  cases o with
  | none => obtain ⟨_, rfl⟩ := h.1 rfl; simp [slV, VR]
  | some c =>
    obtain ⟨a, cap, rfl, rfl, h1, h2⟩ := h.2 c rfl
    simp only [slV, VR]
    exact ⟨pl, a, cap, hp, rfl, h1, fun h => by simpa using h2 h, rfl⟩

/- a part that can be read -/
structure ReadPart (W : World) (v : Value) (p : PartD) (of oe od : Option Cap) (pf pe pd : Pl) : Prop where
  val : ∃ sf se sd : Value, v = .agg #[.string ⟨p.dir.toArray⟩, .int .i64 p.kind, .string ⟨p.name.toArray⟩, sf, se, sd, .int .i64 p.fault] ∧ SliceIn sf p.files.length of pf ∧ SliceIn se p.embeds.length oe pe ∧ SliceIn sd p.deps.length od pd
  good : Good p of oe od
  nums : Nums p
  rf : RowIn W pf (rowOf inC p.files)
  re : RowIn W pe (rowOf inC p.embeds)
  rd : RowIn W pd (rowOf depC p.deps)

theorem read_part {n : Nat} {v : Value} {y : DataW H × List MemPlace} (h : DataW.trod enc Tryz.prog W 0 (fun _ => true) true n 27 v.cells.toList = some y) (hw : Sized Tryz.prog 27 y.1) (h0 : ∃ c el fr, W.heap[0]? = some (.cells c el fr)) :
    ∃ p of oe od pf pe pd, ReadPart W v p of oe od pf pe pd := by
  obtain ⟨cs, hcs⟩ : ∃ cs, v.cells.toList = cs := ⟨_, rfl⟩
  rw [hcs] at h
  have hlen := read_len (k := 7) h u27 (by kernel_rfl)
  obtain ⟨m0, y0, h0', w0⟩ := read_field (i := 0) (t' := 23) (o := 0) (k := 2) h u27 (by kernel_rfl) (by kernel_rfl) hw
  obtain ⟨m1, y1, h1, w1⟩ := read_field (i := 1) (t' := 9) (o := 2) (k := 1) h u27 (by kernel_rfl) (by kernel_rfl) hw
  obtain ⟨m2, y2, h2, w2⟩ := read_field (i := 2) (t' := 24) (o := 3) (k := 1) h u27 (by kernel_rfl) (by kernel_rfl) hw
  obtain ⟨m3, y3, h3, w3⟩ := read_field (i := 3) (t' := 24) (o := 4) (k := 1) h u27 (by kernel_rfl) (by kernel_rfl) hw
  obtain ⟨m4, y4, h4, w4⟩ := read_field (i := 4) (t' := 25) (o := 5) (k := 1) h u27 (by kernel_rfl) (by kernel_rfl) hw
  obtain ⟨m5, y5, h5, w5⟩ := read_field (i := 5) (t' := 3) (o := 6) (k := 1) h u27 (by kernel_rfl) (by kernel_rfl) hw
  obtain ⟨m6, y6, h6, w6⟩ := read_field (i := 0) (t' := 9) (o := 0) (k := 1) h0' u23 (by kernel_rfl) (by kernel_rfl) w0
  obtain ⟨m7, y7, h7, w7⟩ := read_field (i := 1) (t' := 3) (o := 1) (k := 1) h0' u23 (by kernel_rfl) (by kernel_rfl) w0
  obtain ⟨nm, e1, l1⟩ := read_string u9 h1 w1
  obtain ⟨ft, e5, l5⟩ := read_int u3 h5
  obtain ⟨dir, e6, l6⟩ := read_string u9 h6 w6
  obtain ⟨kd, e7, l7⟩ := read_int u3 h7
  simp only [List.drop_zero] at e6 e7
  rw [List.getElem?_take, if_pos (by decide)] at e6 e7
  obtain ⟨c0, c1, c2, c3, c4, c5, c6, rfl⟩ : ∃ c0 c1 c2 c3 c4 c5 c6, cs = [c0, c1, c2, c3, c4, c5, c6] := by
    match cs, hlen with
    | [c0, c1, c2, c3, c4, c5, c6], _ => exact ⟨_, _, _, _, _, _, _, rfl⟩
  simp only [List.getElem?_cons_zero, List.getElem?_cons_succ, Option.some.injEq] at e1 e5 e6 e7
  subst e1; subst e5; subst e6; subst e7
  simp only [List.drop_succ_cons, List.drop_zero, List.take_succ_cons, List.take_zero] at h2 h3 h4
  obtain ⟨fs, of, pf, a1, a2, a3, a4, a5⟩ := read_slice (α := InD) (f := inC) (rd := fun x => x.path.length ≤ reachBytes) (k := 33) (by decide) inC_len u24 (by kernel_rfl) (fun m cs y h hw => read_in h hw) h2 w2 (Nat.le_of_ble_eq_true (by kernel_rfl)) h0
  obtain ⟨es, oe, pe, b1, b2, b3, b4, b5⟩ := read_slice (α := InD) (f := inC) (rd := fun x => x.path.length ≤ reachBytes) (k := 33) (by decide) inC_len u24 (by kernel_rfl) (fun m cs y h hw => read_in h hw) h3 w3 (Nat.le_of_ble_eq_true (by kernel_rfl)) h0
  obtain ⟨ds, od, pd, d1, d2, d3, d4, d5⟩ := read_slice (α := DepD) (f := depC) (rd := DepOk) (k := 3) (by decide) depC_len u25 (by kernel_rfl) (fun m cs y h hw => read_dep h hw) h4 w4 (Nat.le_of_ble_eq_true (by kernel_rfl)) h0
  have hr : reachBytes ≤ 281474976710656 := by decide
  have cap : ∀ {o : Option Cap} {n : Nat} {v : Value} {pl : Pl}, (∀ c, o = some c → ∃ a cap, c = .ex cap ∧ v = .slice (some a) n cap ∧ n ≤ cap ∧ cap ≤ maxLen ∧ (0 < cap → a = ⟨pl.b, pl.base, none⟩)) → ∀ c, o = some c → ∃ k, c = .ex k ∧ n ≤ k := fun h c hc => by
    obtain ⟨_, cap, h1, _, h2, _⟩ := h c hc; exact ⟨cap, h1, h2⟩
  refine ⟨⟨dir, kd, nm, fs, es, ds, ft⟩, of, oe, od, pf, pe, pd, ⟨c3, c4, c5, ?_, ⟨fun h => ⟨by rw [(a1 h).1]; rfl, (a1 h).2⟩, fun c hc => ?_⟩, ⟨fun h => ⟨by rw [(b1 h).1]; rfl, (b1 h).2⟩, fun c hc => ?_⟩, ⟨fun h => ⟨by rw [(d1 h).1]; rfl, (d1 h).2⟩, fun c hc => ?_⟩⟩,
    ⟨fun h => (a1 h).1, fun h => (b1 h).1, fun h => (d1 h).1, cap a2, cap b2, Nat.le_trans l1 hr, Nat.le_trans l6 hr, fun x hx => Nat.le_trans (a4 x hx) hr, fun x hx => Nat.le_trans (b4 x hx) hr, fun x hx => ?_, Nat.le_trans d5 hr⟩,
    ⟨wf_i64 l7, wf_i64 l5, fun x hx => (d4 x hx).kind⟩, a3, b3, d3⟩
  · exact value_agg hcs (by simp)
  · obtain ⟨a, cap, h1, h2, h3, _, h4⟩ := a2 c hc; exact ⟨a, cap, h1, h2, h3, h4⟩
  · obtain ⟨a, cap, h1, h2, h3, _, h4⟩ := b2 c hc; exact ⟨a, cap, h1, h2, h3, h4⟩
  · obtain ⟨a, cap, h1, h2, h3, _, h4⟩ := d2 c hc; exact ⟨a, cap, h1, h2, h3, h4⟩
  · have h1 := (d4 x hx).path
    have h2 := (d4 x hx).dir
    have h3 : reachBytes ≤ 140737488355328 := by decide
    omega

theorem ReadPart.vr {v : Value} {p : PartD} {of oe od : Option Cap} {pf pe pd : Pl} (r : ReadPart W v p of oe od pf pe pd) {φ : Phi} {lf le ld : Nat} (h1 : φ lf = some pf) (h2 : φ le = some pe) (h3 : φ ld = some pd) :
    VR φ (.agg (partC p lf le ld of oe od)) v := by
  obtain ⟨sf, se, sd, rfl, g1, g2, g3⟩ := r.val
  unfold partC
  simp only [VR]
  refine ⟨_, rfl, VRs.cons (by simp [VR]) (VRs.cons (by simp [VR]) (VRs.cons (by simp [VR]) (VRs.cons (g1.vr h1) (VRs.cons (g2.vr h2) (VRs.cons (g3.vr h3) (VRs.cons (by simp [VR]) VRs.nil))))))⟩
end
end Go.Proofs.YtmlipbpbbjkigaaGreatDoor
