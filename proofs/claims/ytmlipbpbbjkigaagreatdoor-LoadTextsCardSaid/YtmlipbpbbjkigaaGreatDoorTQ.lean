/- Two ways to a number's text, and that it tells the number. -/
import Derived.Test.YtmlipbpbbjkigaaGreatDoorTP
set_option linter.unusedVariables false
set_option linter.unusedSimpArgs false
namespace Go.Proofs.YtmlipbpbbjkigaaGreatDoor
open Go Go.Ev Go.Proofs

theorem wrap_nat (m : Nat) (h : m < 18446744073709551616) : wrapE .u64 (Int.ofNat m) = Int.ofNat m := by
  show backE .u64 (m % 18446744073709551616) = _
  rw [Nat.mod_eq_of_lt h]; rfl
theorem wrap_form (n : Int) : ∃ m, m < 18446744073709551616 ∧ wrapE .u64 n = Int.ofNat m := by
  refine ⟨lowE .u64 n, ?_, rfl⟩
  cases n with
  | ofNat m => exact Nat.mod_lt _ (by decide)
  | negSucc m => show 18446744073709551616 - 1 - m % 18446744073709551616 < _; omega
theorem divs_nat (m : Nat) (h : m < 18446744073709551616) : ∀ k, divs (Int.ofNat m) k = Int.ofNat (m / 256 ^ k)
  | 0 => by simp [divs]
  | k + 1 => by
    unfold divs
    rw [divs_nat m h k]
    have e : (Int.ofNat (m / 256 ^ k)).tdiv 256 = Int.ofNat (m / 256 ^ k / 256) := rfl
    rw [e, Nat.div_div_eq_div_mul, ← Nat.pow_succ, wrap_nat]
    exact Nat.lt_of_le_of_lt (Nat.div_le_self _ _) h
theorem byte_eq (n : Int) (k : Nat) : byteAt n (8 * k) = byteR n k := by
  obtain ⟨m, hm, e⟩ := wrap_form n
  unfold byteAt byteR
  rw [e, divs_nat m hm]
  have e1 : (Int.ofNat m).fdiv (Int.ofNat (2 ^ (8 * k))) = Int.ofNat (m / 2 ^ (8 * k)) := by
    have h2 : (0 : Int) ≤ Int.ofNat (2 ^ (8 * k)) := Int.natCast_nonneg _
    rw [Int.fdiv_eq_ediv_of_nonneg (Int.ofNat m) h2]; rfl
  have e2 : (Int.ofNat (m / 256 ^ k)).tmod 256 = Int.ofNat (m / 256 ^ k % 256) := rfl
  rw [e1, e2]
  have e3 : 256 ^ k = 2 ^ (8 * k) := by rw [Nat.pow_mul]
  rw [e3]
  show UInt8.ofNat (m / 2 ^ (8 * k) % 256) = UInt8.ofNat (m / 2 ^ (8 * k) % 256 % 256)
  rw [Nat.mod_mod]
theorem num_eq (n : Int) : numL n = numR n := by
  unfold numL numR
  rw [← byte_eq n 7, ← byte_eq n 6, ← byte_eq n 5, ← byte_eq n 4, ← byte_eq n 3, ← byte_eq n 2, ← byte_eq n 1, ← byte_eq n 0]
end Go.Proofs.YtmlipbpbbjkigaaGreatDoor
