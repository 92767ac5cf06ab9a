/-
  Plain facts on a word's lowest bit. No program in sight.
-/
import Derived.Test.YtkcdcogmnplhjaaDoorPl
namespace Go.Proofs.YtkcdcogmnplhjaaDoor
open Go
set_option linter.unusedSimpArgs false
set_option linter.unusedVariables false
set_option linter.unnecessarySimpa false
theorem odd_part : ∀ n : Nat, n ≠ 0 → ∃ k m, n = 2 ^ k * (2 * m + 1) := by
  intro n
  induction n using Nat.strongRecOn with
  | _ n ih =>
    intro h
    rcases Nat.mod_two_eq_zero_or_one n with h1 | h1
    · obtain ⟨k, m, e⟩ := ih (n / 2) (by omega) (by omega)
      exact ⟨k + 1, m, by rw [Nat.pow_succ, Nat.mul_comm (2 ^ k), Nat.mul_assoc, ← e]; omega⟩
    · exact ⟨0, n / 2, by omega⟩
theorem low_bit (k m j : Nat) : (2 ^ k * (2 * m + 1)).testBit j = if j < k then false else (2 * m + 1).testBit (j - k) := by
  have := Nat.testBit_two_pow_mul_add (2 * m + 1) (b := 0) (i := k) (Nat.two_pow_pos k) j
  simpa using this
theorem low_pred (k m j : Nat) : (2 ^ k * (2 * m + 1) - 1).testBit j = if j < k then true else (2 * m).testBit (j - k) := by
  have hp := Nat.two_pow_pos k
  have e : 2 ^ k * (2 * m + 1) - 1 = 2 ^ k * (2 * m) + (2 ^ k - 1) := by rw [Nat.mul_add]; omega
  rw [e, Nat.testBit_two_pow_mul_add _ (by omega)]
  split
  · rw [Nat.testBit_two_pow_sub_one]; simpa
  · rfl
theorem odd_bits (m i : Nat) : (2 * m).testBit i = ((2 * m + 1).testBit i && decide (i ≠ 0)) := by
  cases i with
  | zero => simp
  | succ i => rw [Nat.testBit_succ, Nat.testBit_succ, show 2 * m / 2 = m by omega, show (2 * m + 1) / 2 = m by omega]; simp

/-- The lowest bit that is set. -/
theorem lowest (y : BitVec 64) (h : y ≠ 0#64) : ∃ k, k < 64 ∧ y.getLsbD k = true ∧ y &&& -y = 1#64 <<< k ∧ ∀ j, (y &&& (y - 1#64)).getLsbD j = (y.getLsbD j && decide (j ≠ k)) := by
  have h0 : y.toNat ≠ 0 := fun h' => h (BitVec.eq_of_toNat_eq h')
  obtain ⟨k, m, e⟩ := odd_part _ h0
  have hlt := y.isLt
  have hbit : ∀ j, y.getLsbD j = if j < k then false else (2 * m + 1).testBit (j - k) := fun j => by rw [BitVec.getLsbD, e, low_bit]
  have hp : (y - 1#64).toNat = y.toNat - 1 := by
    rw [BitVec.toNat_sub, BitVec.toNat_ofNat]
    show (18446744073709551616 - 1 + y.toNat) % 18446744073709551616 = _
    rw [show 18446744073709551616 - 1 + y.toNat = 18446744073709551616 + (y.toNat - 1) by omega, Nat.add_mod_left, Nat.mod_eq_of_lt (by omega)]
  have hpred : ∀ j, (y - 1#64).getLsbD j = if j < k then true else (2 * m).testBit (j - k) := fun j => by rw [BitVec.getLsbD, hp, e, low_pred]
  have hk1 : y.getLsbD k = true := by rw [hbit]; simp
  have hk : k < 64 := by
    rcases Nat.lt_or_ge k 64 with h | h
    · exact h
    · rw [BitVec.getLsbD_of_ge _ _ h] at hk1; cases hk1
  refine ⟨k, hk, hk1, ?_, fun j => ?_⟩
  · apply BitVec.eq_of_getLsbD_eq
    intro j hj
    have e2 : -y = ~~~(y - 1#64) := by rw [BitVec.not_sub_one_eq_not_add_one, ← BitVec.neg_eq_not_add]
    rw [e2, BitVec.getLsbD_and, BitVec.getLsbD_not, hbit, hpred, BitVec.getLsbD_shiftLeft]
    by_cases h1 : j < k
    · simp [h1]
    · by_cases h2 : j = k
      · subst h2; simp [hj]
      · have h3 : j - k ≠ 0 := by omega
        rw [if_neg h1, if_neg h1, odd_bits]
        simp [h1, h3, hj]
  · rw [BitVec.getLsbD_and, hbit, hpred]
    by_cases h1 : j < k
    · simp [h1]
    · by_cases h2 : j = k
      · subst h2; simp
      · have h3 : j - k ≠ 0 := by omega
        rw [if_neg h1, if_neg h1, odd_bits]
        simp [h2, h3]
theorem syn_clear (y z : BitVec 64) (k : Nat) (hk : y.getLsbD k = true) (hz : ∀ j, z.getLsbD j = (y.getLsbD j && decide (j ≠ k))) (b : Nat) : syn y b = if k < b then syn z b ^^^ colT k else syn z b := by
  induction b with
  | zero => simp [syn]
  | succ b ih =>
    unfold syn
    rw [hz b, ih]
    by_cases h1 : b = k
    · subst h1; simp [hk]
    · by_cases h2 : k < b
      · rw [if_pos h2, if_pos (show k < b + 1 by omega)]
        cases y.getLsbD b
        · simp
        · simp [h1, Nat.xor_assoc, Nat.xor_comm (colT b)]
      · rw [if_neg h2, if_neg (show ¬ k < b + 1 by omega)]
        simp [h1]
theorem syn_zero (b : Nat) : syn 0#64 b = 0 := by
  induction b with
  | zero => rfl
  | succ b ih => simp [syn, ih]
end Go.Proofs.YtkcdcogmnplhjaaDoor
