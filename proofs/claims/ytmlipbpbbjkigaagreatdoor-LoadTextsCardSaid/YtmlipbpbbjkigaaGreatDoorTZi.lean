/- The tables in a world that meets the row's condition; the row. Written by gen_zi.py. -/
import Derived.Test.YtmlipbpbbjkigaaGreatDoorTZh
import Derived.Test.YtmlipbpbbjkigaaGreatDoorRows
import Derived.ProofKit
import Derived.LaidMore
import Derived.OpenShut
import Derived.Stop.Joined
import Derived.Lay
import Derived.MakeChecks
set_option linter.unusedVariables false
set_option linter.unusedSimpArgs false
namespace Go.Proofs.YtmlipbpbbjkigaaGreatDoor
open Go Go.Ev Go.Proofs Go.RowKit Go.ChangeShapes Go.WideShapes Go.ChangeAt
set_option maxRecDepth 100000

def wordsL : List (List UInt8) := [[99, 97, 115, 101], [99, 104, 97, 110], [99, 111, 110, 115, 116], [100, 101, 102, 97, 117, 108, 116], [100, 101, 102, 101, 114], [101, 108, 115, 101], [102, 111, 114], [102, 117, 110, 99], [103, 111], [103, 111, 116, 111], [105, 102], [105, 109, 112, 111, 114, 116], [105, 110, 116, 101, 114, 102, 97, 99, 101], [109, 97, 112], [112, 97, 99, 107, 97, 103, 101], [114, 97, 110, 103, 101], [115, 101, 108, 101, 99, 116], [115, 116, 114, 117, 99, 116], [115, 119, 105, 116, 99, 104], [116, 121, 112, 101], [118, 97, 114]]
def othersL : List (List UInt8) := [[98, 114, 101, 97, 107], [99, 111, 110, 116, 105, 110, 117, 101], [102, 97, 108, 108, 116, 104, 114, 111, 117, 103, 104], [114, 101, 116, 117, 114, 110]]
def shaL : List Int := [1116352408, 1899447441, 3049323471, 3921009573, 961987163, 1508970993, 2453635748, 2870763221, 3624381080, 310598401, 607225278, 1426881987, 1925078388, 2162078206, 2614888103, 3248222580, 3835390401, 4022224774, 264347078, 604807628, 770255983, 1249150122, 1555081692, 1996064986, 2554220882, 2821834349, 2952996808, 3210313671, 3336571891, 3584528711, 113926993, 338241895, 666307205, 773529912, 1294757372, 1396182291, 1695183700, 1986661051, 2177026350, 2456956037, 2730485921, 2820302411, 3259730800, 3345764771, 3516065817, 3600352804, 4094571909, 275423344, 430227734, 506948616, 659060556, 883997877, 958139571, 1322822218, 1537002063, 1747873779, 1955562222, 2024104815, 2227730452, 2361852424, 2428436474, 2756734187, 3204031479, 3329325298]
theorem row4_eq : row4 = .row [.slice 15 0 wordsL.length (.ex wordsL.length)] false 0 false := by kernel_rfl
theorem row5_eq : row5 = .row [.slice 16 0 othersL.length (.ex othersL.length)] false 0 false := by kernel_rfl
theorem row11_eq : row11 = .row (shaL.map fun z => .int .u32 z) false 0 false := by kernel_rfl
theorem row15_eq : row15 = .row (wordsL.map .str) false 0 false := by kernel_rfl
theorem row16_eq : row16 = .row (othersL.map .str) false 0 false := by kernel_rfl
theorem words_eq : (Rows.laid_seiche_golex_words : DataW Unit) = .slice (wordsL.map fun s => .lit (.string s)) [] := by kernel_rfl
theorem others_eq : (Rows.laid_seiche_golex_others : DataW Unit) = .slice (othersL.map fun s => .lit (.string s)) [] := by kernel_rfl
theorem sha_eq : (Rows.laid_seiche_sha_table : DataW Unit) = .agg (shaL.map fun z => .lit (.int .u32 z)) := by kernel_rfl

def laidR : List (String × DataW Unit) := Rows.loadTextsRow.laid
noncomputable def heap0L : List AObj := [.dead, .dead, .dead, .dead, row4, row5, .dead, .dead, .dead, .dead, .dead, row11, .dead, .dead, .dead, row15, row16]
theorem heap0_get : ∀ l, heap0.get l = heap0L[l]?
  | 0 => by kernel_rfl
  | 1 => by kernel_rfl
  | 2 => by kernel_rfl
  | 3 => by kernel_rfl
  | 4 => by kernel_rfl
  | 5 => by kernel_rfl
  | 6 => by kernel_rfl
  | 7 => by kernel_rfl
  | 8 => by kernel_rfl
  | 9 => by kernel_rfl
  | 10 => by kernel_rfl
  | 11 => by kernel_rfl
  | 12 => by kernel_rfl
  | 13 => by kernel_rfl
  | 14 => by kernel_rfl
  | 15 => by kernel_rfl
  | 16 => by kernel_rfl
  | n + 17 => by rw [heap0_none (n + 17) (show 17 ≤ n + 17 by omega), List.getElem?_eq_none (show heap0L.length ≤ n + 17 by show 17 ≤ n + 17; omega)]

/- where the tables lie -/
structure TablesIn (W : World) (p4 p5 p11 p15 p16 : Pl) : Prop where
  size : 14 < W.heap.size
  zero : ∃ c el fr, W.heap[0]? = some (.cells c el fr)
  b4 : p4.b = 4 ∧ p4.base = 0
  b5 : p5.b = 5 ∧ p5.base = 0
  b11 : p11.b = 11 ∧ p11.base = 0
  o4 : ∀ φ : Phi, φ 15 = some p15 → ObjR φ W p4 row4
  o5 : ∀ φ : Phi, φ 16 = some p16 → ObjR φ W p5 row5
  o11 : ∀ φ : Phi, ObjR φ W p11 row11
  o15 : ∀ φ : Phi, ObjR φ W p15 row15 ∧ p15.b < W.heap.size
  o16 : ∀ φ : Phi, ObjR φ W p16 row16 ∧ p16.b < W.heap.size

theorem mem_row {g n i : Nat} (h : i < n) : MemPlace.cell g i ∈ MemPlace.row ⟨g, 0, none⟩ n := by
  unfold MemPlace.row
  rw [List.mem_map]
  exact ⟨i, List.mem_range.2 h, by simp⟩

theorem slice_obj {W : World} {g t e l : Nat} {n : String} {ss : List (List UInt8)} {ps : List MemPlace} (hps : ∀ b off, MemPlace.cell b off ∈ ps → ∃ c t, W.heap[b]? = some (.cells c t (0, 0)))
    (hl : DataW.LaidVars Tryz.prog W laidR ps) (hm : (n, DataW.slice (ss.map fun s => .lit (.string s)) []) ∈ laidR) (hg : Tryz.prog.globalNamed n = some g) (htg : (Tryz.prog.globals[g]?).map (·.type) = some t)
    (ht : Tryz.prog.underlying t = some (.slice e)) (he : Tryz.prog.underlying e = some .string) (hce : Tryz.prog.cellsOf e = 1) (hne : 0 < ss.length) :
    ∃ pg pr : Pl, (pg.b = g ∧ pg.base = 0) ∧ (∀ φ : Phi, φ l = some pr → ObjR φ W pg (.row [.slice l 0 ss.length (.ex ss.length)] false 0 false)) ∧ ∀ φ : Phi, ObjR φ W pr (.row (ss.map .str) false 0 false) ∧ pr.b < W.heap.size := by
  obtain ⟨g', t', cs, fuel, p, h1, h2, h3, h4, h5⟩ := laid_split hl hm
  obtain rfl := Option.some.inj (hg.symm.trans h1)
  obtain rfl := Option.some.inj (htg.symm.trans h2)
  have hone : ∃ v, cs.toList = [v] := by
    rcases DataW.trod_slice ht h4 with ⟨hv, _⟩ | ⟨a, len, cap, _, _, _, _, hv, _⟩
    · exact ⟨_, hv⟩
    · exact ⟨_, hv⟩
  obtain ⟨v, hv⟩ := hone
  rw [hv] at h4
  obtain ⟨b, o, cells, el, fr, rfl, hb, hsz, hcell, hmem⟩ := laid_strs ht he hce hne h4
  obtain ⟨el0, fr0, hgb⟩ := var_block h1 h3
  have hcs : cs = #[.slice (some ⟨b, o, none⟩) ss.length ss.length] := by cases cs; simp_all
  subst hcs
  have z1 := hps g 0 (h5 _ (List.mem_append_left _ (mem_row (by simp))))
  obtain ⟨c1, t1, z1⟩ := z1
  rw [hgb] at z1; cases z1
  have z2 := hps b o (h5 _ (List.mem_append_right _ hmem))
  obtain ⟨c2, t2, z2⟩ := z2
  rw [hb] at z2; cases z2
  refine ⟨⟨g, 0, 1⟩, ⟨b, o, cells.size⟩, ⟨rfl, rfl⟩, fun φ hφ => ⟨_, _, _, _, hgb, rfl, by simp, fun i a ha => ?_, fun i h1 h2 => by omega⟩, fun φ => ⟨⟨_, _, _, _, hb, rfl, by simpa using hsz, fun i a ha => ?_, fun i h1 h2 => by omega⟩, (Array.getElem?_eq_some_iff.1 hb).1⟩⟩
  · cases i with
    | zero =>
      cases ha
      exact ⟨_, rfl, by simp only [VR]; exact ⟨_, _, _, hφ, rfl, Nat.le_refl _, fun _ => rfl, rfl⟩⟩
    | succ i => simp at ha
  · rw [List.getElem?_map] at ha
    obtain ⟨s, hs, rfl⟩ := Option.map_eq_some_iff.1 ha
    exact ⟨_, hcell i s hs, by simp [VR]⟩

theorem tables_in {W : World} (h : laidMetH Tryz.prog laidR W) : ∃ p4 p5 p11 p15 p16, TablesIn W p4 p5 p11 p15 p16 := by
  rw [MakeChecks.laidMetH_plain _ _ _ (by kernel_rfl)] at h
  obtain ⟨ps, hl, _, hps⟩ := h
  have hps' : ∀ b off, MemPlace.cell b off ∈ ps → ∃ c t, W.heap[b]? = some (.cells c t (0, 0)) := fun b off hm => (hps b off hm).1
  obtain ⟨p4, p15, b4, o4, o15⟩ := slice_obj (l := 15) (e := 9) (t := 56) (ss := wordsL) hps' hl (by rw [← words_eq]; unfold laidR Rows.loadTextsRow; simp only [List.mem_cons, true_or, or_true]) (n := "seiche/golex.words") (by kernel_rfl) (by kernel_rfl) (by kernel_rfl) u9 (by kernel_rfl) (by decide)
  obtain ⟨p5, p16, b5, o5, o16⟩ := slice_obj (l := 16) (e := 9) (t := 56) (ss := othersL) hps' hl (by rw [← others_eq]; unfold laidR Rows.loadTextsRow; simp only [List.mem_cons, true_or, or_true]) (n := "seiche/golex.others") (by kernel_rfl) (by kernel_rfl) (by kernel_rfl) u9 (by kernel_rfl) (by decide)
  -- the table of numbers
  obtain ⟨g, t, cs, fuel, p, h1, h2, h3, h4, h5⟩ := laid_split (n := "seiche/sha.table") (d := Rows.laid_seiche_sha_table) hl (by unfold laidR Rows.loadTextsRow; simp only [List.mem_cons, true_or, or_true])
  obtain rfl := Option.some.inj ((show Tryz.prog.globalNamed "seiche/sha.table" = some 11 by kernel_rfl).symm.trans h1)
  obtain rfl := Option.some.inj ((show (Tryz.prog.globals[11]?).map (·.type) = some 347 by kernel_rfl).symm.trans h2)
  rw [sha_eq] at h4
  have hints := laid_ints (m := 64) (e := 244) (by kernel_rfl) (by kernel_rfl) (by kernel_rfl) h4
  have hcl : cs.size = 64 := by
    obtain ⟨xs, m, _, _, hl, _, _⟩ := DataW.trod_array (n := 64) (e := 244) (by kernel_rfl) h4
    have hc : Tryz.prog.cellsOf 347 = 64 := by kernel_rfl
    rw [hc] at hl; simpa using hl
  obtain ⟨el, fr, hb⟩ := var_block h1 h3
  obtain ⟨c1, t1, z1⟩ := hps' 11 0 (h5 _ (List.mem_append_left _ (mem_row (by omega))))
  rw [hb] at z1; cases z1
  -- the first and the last variable
  obtain ⟨g0, t0, cs0, fuel0, p0, k1, _, k3, _, _⟩ := laid_split (n := "seiche/suffix.systems") (d := Rows.laid_seiche_suffix_systems) hl (by unfold laidR Rows.loadTextsRow; simp only [List.mem_cons, true_or, or_true])
  obtain rfl := Option.some.inj ((show Tryz.prog.globalNamed "seiche/suffix.systems" = some 0 by kernel_rfl).symm.trans k1)
  obtain ⟨el0, fr0, hb0⟩ := var_block k1 k3
  obtain ⟨g1, t1', cs1, fuel1, p1, q1, _, q3, _, _⟩ := laid_split (n := "math/bits.deBruijn64tab") (d := Rows.laid_math_bits_deBruijn64tab) hl (by unfold laidR Rows.loadTextsRow; simp only [List.mem_cons, true_or, or_true])
  obtain rfl := Option.some.inj ((show Tryz.prog.globalNamed "math/bits.deBruijn64tab" = some 14 by kernel_rfl).symm.trans q1)
  obtain ⟨el1, fr1, hb1⟩ := var_block q1 q3
  refine ⟨p4, p5, ⟨11, 0, 64⟩, p15, p16, (Array.getElem?_eq_some_iff.1 hb1).1, ⟨_, _, _, hb0⟩, b4, b5, ⟨rfl, rfl⟩, fun φ hφ => by rw [row4_eq]; exact o4 φ hφ, fun φ hφ => by rw [row5_eq]; exact o5 φ hφ, fun φ => ?_, fun φ => by rw [row15_eq]; exact o15 φ, fun φ => by rw [row16_eq]; exact o16 φ⟩
  rw [row11_eq]
  refine ⟨_, _, _, _, hb, hcl, by simp [shaL], fun i a ha => ?_, fun i h1 h2 => by omega⟩
  rw [List.getElem?_map] at ha
  obtain ⟨z, hz, rfl⟩ := Option.map_eq_some_iff.1 ha
  refine ⟨.int .u32 z, ?_, by simp [VR]⟩
  have := hints i z hz
  rw [Nat.zero_add]; simpa using this
end Go.Proofs.YtmlipbpbbjkigaaGreatDoor
