/-
  Plain facts on the code words: columns, syndromes. No program in sight.
-/
import Derived.Test.YtkcdcogmnplhjaaDoorV
namespace Go.Proofs.YtkcdcogmnplhjaaDoor
open Go
set_option linter.unusedSimpArgs false
set_option linter.unusedVariables false
set_option linter.unnecessarySimpa false
def pcR (x : Nat) : Nat := if h : x = 0 then 0 else 1 + pcR (x &&& (x - 1))
termination_by x
decreasing_by
  have : x &&& (x-1) ≤ x - 1 := Nat.and_le_right
  omega
theorem and_dec (y : BitVec 64) (h : y ≠ 0#64) : (y &&& (y - 1#64)).toNat = y.toNat &&& (y.toNat - 1) := by
  have h0 : y.toNat ≠ 0 := fun h' => h (BitVec.eq_of_toNat_eq h')
  have := y.isLt
  simp
  rw [show 18446744073709551615 + y.toNat = 18446744073709551616 + (y.toNat - 1) by omega, Nat.add_mod_left, Nat.mod_eq_of_lt (by omega)]
theorem pcR_step (y : BitVec 64) (h : y ≠ 0#64) : pcR y.toNat = 1 + pcR (y &&& (y - 1#64)).toNat := by
  have h0 : y.toNat ≠ 0 := fun h' => h (BitVec.eq_of_toNat_eq h')
  rw [and_dec y h]
  conv => lhs; unfold pcR
  rw [dif_neg h0]
theorem dec_lt (y : BitVec 64) (h : y ≠ 0#64) : (y &&& (y - 1#64)).toNat < y.toNat := by
  have h0 : y.toNat ≠ 0 := fun h' => h (BitVec.eq_of_toNat_eq h')
  rw [and_dec y h]
  have : y.toNat &&& (y.toNat-1) ≤ y.toNat - 1 := Nat.and_le_right
  omega
theorem pcR_two (n : Nat) : pcR (2 * n) = pcR n := by
  induction n using Nat.strongRecOn with
  | _ n ih =>
    by_cases h : n = 0
    · subst h; rfl
    · conv => lhs; unfold pcR
      conv => rhs; unfold pcR
      rw [dif_neg (by omega), dif_neg h]
      have e : 2 * n &&& (2 * n - 1) = 2 * (n &&& (n - 1)) := by
        apply Nat.eq_of_testBit_eq
        intro i
        cases i with
        | zero => simp
        | succ i =>
          rw [Nat.testBit_succ, Nat.testBit_succ, Nat.and_div_two, Nat.mul_div_cancel_left _ (by decide), Nat.mul_div_cancel_left _ (by decide), show (2 * n - 1) / 2 = n - 1 by omega]
      rw [e, ih _ (by have : n &&& (n-1) ≤ n - 1 := Nat.and_le_right; omega)]
theorem pcR_odd (n : Nat) : pcR (2 * n + 1) = 1 + pcR n := by
  conv => lhs; unfold pcR
  rw [dif_neg (by omega)]
  have e : (2 * n + 1) &&& (2 * n + 1 - 1) = 2 * n := by
    apply Nat.eq_of_testBit_eq
    intro i
    cases i with
    | zero => simp
    | succ i =>
      rw [Nat.testBit_succ, Nat.testBit_succ, Nat.and_div_two, show (2 * n + 1) / 2 = n by omega, show (2 * n + 1 - 1) / 2 = n by omega, Nat.mul_div_cancel_left _ (by decide), Nat.and_self]
  rw [e, pcR_two]
theorem pcR_zero : pcR 0 = 0 := by unfold pcR; rfl
theorem pcR_le (k : Nat) : ∀ x, x < 2 ^ k → pcR x ≤ k := by
  induction k with
  | zero => intro x h; have : x = 0 := by omega
            subst this; rw [pcR_zero]; omega
  | succ k ih =>
    intro x h
    have h2 : x / 2 < 2 ^ k := by rw [Nat.pow_succ] at h; omega
    have := ih _ h2
    rcases Nat.mod_two_eq_zero_or_one x with h1 | h1
    · rw [show x = 2 * (x / 2) by omega, pcR_two]; omega
    · rw [show x = 2 * (x / 2) + 1 by omega, pcR_odd]; omega
def pcB : Nat → Nat → Nat
  | 0, _ => 0
  | k + 1, x => x % 2 + pcB k (x / 2)
theorem pcR_pcB (k : Nat) : ∀ x, x < 2 ^ k → pcR x = pcB k x := by
  induction k with
  | zero => intro x h; have : x = 0 := by omega
            subst this; rw [pcR_zero]; rfl
  | succ k ih =>
    intro x h
    have h2 : x / 2 < 2 ^ k := by rw [Nat.pow_succ] at h; omega
    have := ih _ h2
    unfold pcB
    rcases Nat.mod_two_eq_zero_or_one x with h1 | h1
    · rw [show pcR x = pcR (2 * (x / 2)) by congr 1; omega, pcR_two, this]; omega
    · rw [show pcR x = pcR (2 * (x / 2) + 1) by congr 1; omega, pcR_odd, this]; omega
def cols : List Nat := [7, 11, 13, 14, 19, 21, 22, 25, 26, 28, 35, 37, 38, 41, 42, 44, 49, 50, 52, 56, 67, 69, 70, 73, 74, 76, 81, 82, 84, 88, 97, 98, 1, 2, 4, 8, 16, 32, 64]
def colT (b : Nat) : Nat := cols.getD b 0
def cnt : Nat → Nat
  | 0 => 0
  | n + 1 => cnt n + if pcB 7 n = 3 then 1 else 0
theorem cnt_col : ∀ n < 128, pcB 7 n = 3 → cnt n < 32 → colT (cnt n) = n := by decide +kernel
theorem cnt_end : cnt 128 = 35 := by decide +kernel
theorem colT_lt (b : Nat) : colT b < 128 := by
  unfold colT
  rcases Nat.lt_or_ge b 39 with h | h
  · revert b; decide +kernel
  · rw [List.getD_eq_getElem?_getD, List.getElem?_eq_none (by simpa [cols] using h)]; decide
/-- The syndrome of the bits below b. -/
def syn (w : BitVec 64) : Nat → Nat
  | 0 => 0
  | b + 1 => if w.getLsbD b then syn w b ^^^ colT b else syn w b
theorem syn_lt (w : BitVec 64) (b : Nat) : syn w b < 128 := by
  induction b with
  | zero => simp [syn]
  | succ b ih =>
    unfold syn
    split
    · exact Nat.xor_lt_two_pow (n := 7) ih (colT_lt b)
    · exact ih
def fnd (s : Nat) : Nat → Option Nat
  | 0 => none
  | n + 1 => match fnd s n with
    | some k => some k
    | none => if colT n = s then some n else none
theorem fnd_some {s n k : Nat} (h : fnd s n = some k) (j : Nat) : fnd s (n + j) = some k := by
  induction j with
  | zero => exact h
  | succ j ih => rw [← Nat.add_assoc, fnd, ih]
theorem fnd_hit {s n : Nat} (h : fnd s n = none) (hc : colT n = s) (m : Nat) (hm : n < m) : fnd s m = some n := by
  obtain ⟨j, rfl⟩ := Nat.exists_eq_add_of_le (show n + 1 ≤ m by omega)
  refine fnd_some ?_ j
  rw [fnd, h]; simp [hc]
theorem fnd_miss {s n : Nat} (h : fnd s n = none) (hc : colT n ≠ s) : fnd s (n + 1) = none := by
  rw [fnd, h]; simp [hc]
end Go.Proofs.YtkcdcogmnplhjaaDoor
