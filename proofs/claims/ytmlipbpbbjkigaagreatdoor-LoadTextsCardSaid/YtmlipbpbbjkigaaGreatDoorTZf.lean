/- Two parts have one text just if they are alike. -/
import Derived.Test.YtmlipbpbbjkigaaGreatDoorTZe
set_option linter.unusedVariables false
set_option linter.unusedSimpArgs false
namespace Go.Proofs.YtmlipbpbbjkigaaGreatDoor
open Go Go.Ev Go.Proofs
set_option maxRecDepth 100000

def inR (n : Int) : Prop := -9223372036854775808 ≤ n ∧ n < 9223372036854775808
theorem byteR_nat {n : Int} {m : Nat} (h : wrapE .u64 n = Int.ofNat m) (hm : m < 18446744073709551616) (k : Nat) : (byteR n k).toNat = m / 256 ^ k % 256 := by
  unfold byteR
  rw [h, divs_nat m hm]
  have e : (Int.ofNat (m / 256 ^ k)).tmod 256 = Int.ofNat (m / 256 ^ k % 256) := rfl
  rw [e]
  show (UInt8.ofNat (m / 256 ^ k % 256 % 256)).toNat = _
  simp [UInt8.toNat_ofNat']
theorem num_inj {a b : Int} (ha : inR a) (hb : inR b) (h : numL a = numL b) : a = b := by
  rw [num_eq, num_eq] at h
  have wa : wrapE .u64 a = Int.ofNat (lowE .u64 a) := rfl
  have wb : wrapE .u64 b = Int.ofNat (lowE .u64 b) := rfl
  have la : lowE .u64 a < 18446744073709551616 := by
    cases a with
    | ofNat m => exact Nat.mod_lt _ (by decide)
    | negSucc m => show 18446744073709551616 - 1 - m % 18446744073709551616 < _; omega
  have lb : lowE .u64 b < 18446744073709551616 := by
    cases b with
    | ofNat m => exact Nat.mod_lt _ (by decide)
    | negSucc m => show 18446744073709551616 - 1 - m % 18446744073709551616 < _; omega
  have key : ∀ k, byteR a k = byteR b k → lowE .u64 a / 256 ^ k % 256 = lowE .u64 b / 256 ^ k % 256 := fun k e => by
    rw [← byteR_nat wa la k, ← byteR_nat wb lb k, e]
  unfold numR at h
  simp only [List.cons.injEq, and_true] at h
  obtain ⟨h7, h6, h5, h4, h3, h2, h1, h0⟩ := h
  have k0 := key 0 h0
  have k1 := key 1 h1
  have k2 := key 2 h2
  have k3 := key 3 h3
  have k4 := key 4 h4
  have k5 := key 5 h5
  have k6 := key 6 h6
  have k7 := key 7 h7
  have hl : lowE .u64 a = lowE .u64 b := by
    generalize lowE .u64 a = x at *
    generalize lowE .u64 b = y at *
    simp only [Nat.reducePow] at k0 k1 k2 k3 k4 k5 k6 k7
    omega
  unfold inR at ha hb
  cases a with
  | ofNat m =>
    cases b with
    | ofNat n =>
      have hl' : m % 18446744073709551616 = n % 18446744073709551616 := hl
      have : m = n := by simp only [Int.ofNat_eq_natCast] at ha hb; omega
      rw [this]
    | negSucc n =>
      have hl' : m % 18446744073709551616 = 18446744073709551616 - 1 - n % 18446744073709551616 := hl
      simp only [Int.ofNat_eq_natCast, Int.negSucc_eq] at ha hb; omega
  | negSucc m =>
    cases b with
    | ofNat n =>
      have hl' : 18446744073709551616 - 1 - m % 18446744073709551616 = n % 18446744073709551616 := hl
      simp only [Int.ofNat_eq_natCast, Int.negSucc_eq] at ha hb; omega
    | negSucc n =>
      have hl' : 18446744073709551616 - 1 - m % 18446744073709551616 = 18446744073709551616 - 1 - n % 18446744073709551616 := hl
      have : m = n := by simp only [Int.negSucc_eq] at ha hb; omega
      rw [this]
theorem len_inR {n : Nat} (h : n < 9223372036854775808) : inR (.ofNat n) := by unfold inR; simp only [Int.ofNat_eq_natCast]; omega
theorem parts_inj : ∀ {ss ts : List (List UInt8)}, (∀ s ∈ ss, s.length < 9223372036854775808) → (∀ s ∈ ts, s.length < 9223372036854775808) → ss.length = ts.length → joinParts ss = joinParts ts → ss = ts
  | [], [], _, _, _, _ => rfl
  | [], _ :: _, _, _, h, _ => by simp at h
  | _ :: _, [], _, _, h, _ => by simp at h
  | s :: ss, t :: ts, hs, ht, hl, e => by
    have e' : numL (.ofNat s.length) ++ (s ++ joinParts ss) = numL (.ofNat t.length) ++ (t ++ joinParts ts) := e
    have h1 := List.append_inj e' rfl
    have h2 := Int.ofNat.inj (num_inj (len_inR (hs s (by simp))) (len_inR (ht t (by simp))) h1.1)
    have h3 := List.append_inj h1.2 h2
    rw [h3.1, parts_inj (fun x hx => hs x (by simp [hx])) (fun x hx => ht x (by simp [hx])) (by simpa using hl) h3.2]
theorem join_inj {ss ts : List (List UInt8)} (hs : (joinL ss).length < 9223372036854775808) (ht : (joinL ts).length < 9223372036854775808) (e : joinL ss = joinL ts) : ss = ts := by
  have h1 := List.append_inj (show numL (.ofNat ss.length) ++ joinParts ss = numL (.ofNat ts.length) ++ joinParts ts from e) rfl
  have ls := szL_len ss
  have lt := szL_len ts
  have es := joinL_len ss
  have et := joinL_len ts
  have h2 := Int.ofNat.inj (num_inj (len_inR (by omega)) (len_inR (by omega)) h1.1)
  exact parts_inj (fun s h => Nat.lt_of_le_of_lt (mem_join h) hs) (fun s h => Nat.lt_of_le_of_lt (mem_join h) ht) h2 h1.2

theorem wordsIn_inj : ∀ {xs ys : List InD}, wordsOf wIn xs = wordsOf wIn ys → xs.map wIn = ys.map wIn
  | [], [], _ => rfl
  | [], _ :: _, h => by simp [wordsOf, wIn] at h
  | _ :: _, [], h => by simp [wordsOf, wIn] at h
  | x :: xs, y :: ys, h => by
    have := List.append_inj (show wIn x ++ wordsOf wIn xs = wIn y ++ wordsOf wIn ys from h) rfl
    rw [List.map_cons, List.map_cons, this.1, wordsIn_inj this.2]
theorem wordsDep_inj : ∀ {xs ys : List DepD}, (∀ x ∈ xs, inR x.kind) → (∀ x ∈ ys, inR x.kind) → wordsOf wDep xs = wordsOf wDep ys → xs = ys
  | [], [], _, _, _ => rfl
  | [], _ :: _, _, _, h => by simp [wordsOf, wDep] at h
  | _ :: _, [], _, _, h => by simp [wordsOf, wDep] at h
  | x :: xs, y :: ys, hx, hy, h => by
    have := List.append_inj (show wDep x ++ wordsOf wDep xs = wDep y ++ wordsOf wDep ys from h) rfl
    rw [wordsDep_inj (fun a ha => hx a (by simp [ha])) (fun a ha => hy a (by simp [ha])) this.2]
    have e := this.1
    have kx := hx x (by simp)
    have ky := hy y (by simp)
    cases x; cases y
    simp only [wDep, List.cons.injEq, and_true] at e
    obtain ⟨rfl, e2, rfl⟩ := e
    have e3 := num_inj kx ky e2
    dsimp only at e3
    rw [e3]

structure Nums (p : PartD) : Prop where
  kind : inR p.kind
  fault : inR p.fault
  deps : ∀ x ∈ p.deps, inR x.kind
theorem text_inj {p q : PartD} (hp : (textL p).length ≤ 1099511627776) (hq : (textL q).length ≤ 1099511627776) (np : Nums p) (nq : Nums q) (e : textL p = textL q) : AlikeP p q := by
  have h1 := join_inj (ss := partW p) (ts := partW q) (by unfold textL at hp; omega) (by unfold textL at hq; omega) e
  unfold partW at h1
  simp only [List.cons.injEq, and_true] at h1
  obtain ⟨e1, e2, e3, e4, e5, e6, e7⟩ := h1
  have b : ∀ (r : PartD), (textL r).length ≤ 1099511627776 → ∀ w ∈ partW r, w.length < 9223372036854775808 := fun r hr w hw => by
    have := mem_join (ws := partW r) hw
    unfold textL at hr; omega
  exact ⟨e1, num_inj np.kind nq.kind e2, e3,
    wordsIn_inj (join_inj (b p hp (inputsL p.files) (by simp [partW])) (b q hq (inputsL q.files) (by simp [partW])) e5),
    wordsIn_inj (join_inj (b p hp (inputsL p.embeds) (by simp [partW])) (b q hq (inputsL q.embeds) (by simp [partW])) e6),
    wordsDep_inj np.deps nq.deps (join_inj (b p hp (depsL p.deps) (by simp [partW])) (b q hq (depsL q.deps) (by simp [partW])) e7),
    num_inj np.fault nq.fault e4⟩

/- how long a text may be -/
theorem szL_most {ws : List (List UInt8)} {m : Nat} (h : ∀ w ∈ ws, w.length ≤ m) : szL ws ≤ ws.length * (8 + m) := by
  induction ws with
  | nil => simp [szL]
  | cons w ws ih =>
    have h1 := h w (by simp)
    have h2 := ih fun x hx => h x (by simp [hx])
    simp only [szL, List.length_cons, Nat.succ_mul]; omega
theorem sumI_mem {l : List InD} {x : InD} (h : x ∈ l) : x.path.length ≤ sumI l := by
  induction l with
  | nil => cases h
  | cons a l ih =>
    rcases List.mem_cons.1 h with rfl | h
    · simp [sumI]
    · have := ih h; simp [sumI]; omega
theorem sumD_mem {l : List DepD} {x : DepD} (h : x ∈ l) : x.path.length + x.dir.length ≤ sumD l := by
  induction l with
  | nil => cases h
  | cons a l ih =>
    rcases List.mem_cons.1 h with rfl | h
    · simp [sumD]
    · have := ih h; simp [sumD]; omega
theorem mem_words {α : Type} {f : α → List (List UInt8)} {l : List α} {w : List UInt8} (h : w ∈ wordsOf f l) : ∃ x ∈ l, w ∈ f x := by
  rw [wordsOf_map] at h
  simp only [List.mem_flatten, List.mem_map] at h
  obtain ⟨_, ⟨x, hx, rfl⟩, hw⟩ := h
  exact ⟨x, hx, hw⟩
theorem inputsL_most {l : List InD} (hl : l.length ≤ 20) (h : sumI l ≤ 4096) : (inputsL l).length ≤ 1000000 := by
  unfold inputsL
  rw [joinL_len]
  have h1 := szL_most (ws := wordsOf wIn l) (m := 4128) fun w hw => by
    obtain ⟨x, hx, hw⟩ := mem_words hw
    have := sumI_mem hx
    simp only [wIn, List.mem_cons, List.not_mem_nil, or_false] at hw
    rcases hw with rfl | rfl
    · omega
    · rw [idL_len]; omega
  rw [wordsOf_len (f := wIn) (k := 2) (fun _ => rfl)] at h1
  omega
theorem depsL_most {l : List DepD} (hl : l.length ≤ 20) (h : sumD l ≤ 4096) : (depsL l).length ≤ 1000000 := by
  unfold depsL
  rw [joinL_len]
  have h1 := szL_most (ws := wordsOf wDep l) (m := 4128) fun w hw => by
    obtain ⟨x, hx, hw⟩ := mem_words hw
    have := sumD_mem hx
    simp only [wDep, List.mem_cons, List.not_mem_nil, or_false] at hw
    rcases hw with rfl | rfl | rfl
    · omega
    · rw [numL_len]; omega
    · omega
  rw [wordsOf_len (f := wDep) (k := 3) (fun _ => rfl)] at h1
  omega
theorem text_most {p : PartD} (hf : p.files.length ≤ 20) (he : p.embeds.length ≤ 20) (hd : p.deps.length ≤ 20) (h : sizeP p ≤ 4096) : (textL p).length ≤ 100000000 := by
  unfold sizeP at h
  unfold textL
  rw [joinL_len]
  have a1 := inputsL_most hf (by omega)
  have a2 := inputsL_most he (by omega)
  have a3 := depsL_most hd (by omega)
  have h1 := szL_most (ws := partW p) (m := 1000000) fun w hw => by
    simp only [partW, List.mem_cons, List.not_mem_nil, or_false] at hw
    rcases hw with rfl | rfl | rfl | rfl | rfl | rfl | rfl
    · omega
    · rw [numL_len]; omega
    · omega
    · rw [numL_len]; omega
    · exact a1
    · exact a2
    · exact a3
  have : (partW p).length = 7 := rfl
  omega
theorem small_of {p : PartD} {m : Nat} (hf : p.files.length ≤ 20) (he : p.embeds.length ≤ 20) (hd : p.deps.length ≤ 20) (h : sizeP p ≤ 4096) (hm : 100000000 ≤ m) : Small p m :=
  ⟨by omega, by omega, by omega, Nat.le_trans (text_most hf he hd h) hm⟩
theorem law_plain {p q : PartD} (sp : Small p 1099511627776) (sq : Small q 1099511627776) (np : Nums p) (nq : Nums q) : decide (textL p = textL q) = alikeB p q := by
  by_cases h : AlikeP p q
  · rw [alikeB_t h]; exact decide_eq_true h.text
  · rw [alikeB_f h]; exact decide_eq_false fun e => h (text_inj sp.text sq.text np nq e)
end Go.Proofs.YtmlipbpbbjkigaaGreatDoor
