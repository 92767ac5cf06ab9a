/-
  What simp does not look into on a walk, and whole numbers in the form in which the walks keep them: bn x (unsigned), sn x (signed) of a bit vector x. Generic in the program.
-/
import Derived.Test.YtkcdcogmnplhjaaDoorT
namespace Go.Proofs.YtkcdcogmnplhjaaDoor
open Go
set_option linter.unusedSimpArgs false
set_option linter.unusedVariables false
set_option linter.unnecessarySimpa false
/-! What 'simp' does not look into -/
section congr
variable {P : Program} {G : Glob} {m : Nat} {os : Array Oper} {K : Value → List Blk → Prop} {A B : St → Prop} {s s' : St}
@[congr] theorem swpE_c {c : Code} {Q : Exit → St → Prop} (h : s = s') : swpE P G m c Q s = swpE P G m c Q s' := by rw [h]
@[congr] theorem opsE_c {E : St → Prop} {l : List Oper} (h : s = s') : opsE P G os E l s = opsE P G os E l s' := by rw [h]
@[congr] theorem drawE_c {E : St → Prop} (h : s = s') : drawE P G os E s = drawE P G os E s' := by rw [h]
@[congr] theorem condP_c {t t' : Option Value} (h : t = t') : condP t A B s = condP t' A B s := by rw [h]
@[congr] theorem guardE_c {t t' : Option Value} {b : Bool} (h : t = t') : guardE t b A B s = guardE t' b A B s := by rw [h]
@[congr] theorem goV_c {x x' : Option Value} {h : List Blk} (hx : x = x') : goV x K h = goV x' K h := by rw [hx]
@[congr] theorem goH_c {x x' : Option (List Blk)} (hx : x = x') : goH x K = goH x' K := by rw [hx]
@[congr] theorem goF_c {x x' : Option Value} {o : Oper} (hx : x = x') : goF P s o x K = goF P s o x' K := by rw [hx]
@[congr] theorem pickP_c {c c' a b : Option Value} {h : List Blk} (hx : c = c') : pickP c a b K h = pickP c' a b K h := by rw [hx]
@[congr] theorem CC_c {f : Nat} {as as' : List Value} {h h' : List Blk} (ha : as = as') (hh : h = h') : CC P G f as h K = CC P G f as' h' K := by rw [ha, hh]
@[congr] theorem loopP_c {W : (Exit → St → Prop) → St → Prop} {Q : Exit → St → Prop} (h : s = s') : loopP m W Q s = loopP m W Q s' := by rw [h]
@[congr] theorem retK_c {r r' : Value} {h h' : List Blk} (hr : r = r') (hh : h = h') : retK m K r h = retK m K r' h' := by rw [hr, hh]
@[congr] theorem opsK_c {d : Option Nat} {t t' : List (Option Value)} (h : t = t') : opsK A d t = opsK A d t' := by rw [h]
@[congr] theorem thn_c {next : St → Prop} {Q : Exit → St → Prop} {e e' : Exit} (he : e = e') (h : s = s') : thn next Q e s = thn next Q e' s' := by rw [he, h]
@[congr] theorem blk_c {i : Nat} {Q : Exit → St → Prop} {e e' : Exit} (he : e = e') (h : s = s') : blk i Q e s = blk i Q e' s' := by rw [he, h]
@[congr] theorem scp_c {Q : Exit → St → Prop} {e e' : Exit} (he : e = e') (h : s = s') : scp Q e s = scp Q e' s' := by rw [he, h]
end congr

/-! Whole numbers -/
def bn {n : Nat} (x : BitVec n) : Int := (x.toNat : Int)
def sn {n : Nat} (x : BitVec n) : Int := x.toInt
section bn
variable {n : Nat} (a b : BitVec n)
theorem bn_def : bn a = (a.toNat : Int) := rfl
theorem bn_nn : 0 ≤ bn a := by unfold bn; omega
theorem bn_up : bn a < 2 ^ n := by unfold bn; have := a.isLt; exact_mod_cast this
@[simp] theorem bn_nn' : (0 ≤ bn a) = True := eq_true (bn_nn a)
@[simp] theorem bn_neg' : (bn a < 0) = False := eq_false (by have := bn_nn a; omega)
@[simp] theorem bn_toNat : (bn a).toNat = a.toNat := by simp [bn]
@[simp] theorem bn_inj : (bn a = bn b) = (a = b) := by
  unfold bn; exact propext ⟨fun h => BitVec.eq_of_toNat_eq (by omega), fun h => by rw [h]⟩
@[simp] theorem bn_beq : (bn a == bn b) = (a == b) := by rw [Bool.eq_iff_iff, beq_iff_eq, beq_iff_eq, bn_inj]
@[simp] theorem bn_lt : (bn a < bn b) = (a < b) := by unfold bn; rw [BitVec.lt_def]; exact propext (by omega)
@[simp] theorem bn_le : (bn a ≤ bn b) = (a ≤ b) := by unfold bn; rw [BitVec.le_def]; exact propext (by omega)
theorem lit_nat (k : Nat) (h : k < 2 ^ n) : (BitVec.ofNat n k).toNat = k := by rw [BitVec.toNat_ofNat, Nat.mod_eq_of_lt h]
@[simp] theorem bn_lit (k : Nat) (h : k < 2 ^ n) : bn (BitVec.ofNat n (no_index (OfNat.ofNat k))) = (OfNat.ofNat k : Int) := by
  unfold bn; rw [show (OfNat.ofNat k : Nat) = k from rfl, lit_nat k h]; rfl
@[simp] theorem bn_eq_lit (k : Nat) (h : k < 2 ^ n) : (bn a = (no_index (OfNat.ofNat k) : Int)) = (a = BitVec.ofNat n k) := by
  unfold bn
  refine propext ⟨fun e => BitVec.eq_of_toNat_eq ?_, fun e => ?_⟩
  · rw [lit_nat k h]; exact Int.ofNat_inj.1 e
  · rw [e, lit_nat k h]; rfl
@[simp] theorem bn_eq_zero : (bn a = 0) = (a = 0#n) := by
  unfold bn
  exact propext ⟨fun e => BitVec.eq_of_toNat_eq (by simp; omega), fun e => by rw [e]; simp⟩
@[simp] theorem bn_eq_one (h : 1 < 2 ^ n) : (bn a = 1) = (a = 1#n) := by
  unfold bn
  exact propext ⟨fun e => BitVec.eq_of_toNat_eq (by rw [lit_nat 1 h]; omega), fun e => by rw [e, lit_nat 1 h]; rfl⟩
@[simp] theorem bn_beq_lit (k : Nat) (h : k < 2 ^ n) : (bn a == (no_index (OfNat.ofNat k) : Int)) = (a == BitVec.ofNat n k) := by
  rw [Bool.eq_iff_iff, beq_iff_eq, beq_iff_eq, bn_eq_lit a k h]
@[simp] theorem bn_beq_zero : (bn a == 0) = (a == 0#n) := by rw [Bool.eq_iff_iff, beq_iff_eq, beq_iff_eq, bn_eq_zero]
@[simp] theorem bn_beq_one (h : 1 < 2 ^ n) : (bn a == 1) = (a == 1#n) := by rw [Bool.eq_iff_iff, beq_iff_eq, beq_iff_eq, bn_eq_one a h]
@[simp] theorem bn_lt_lit (k : Nat) (h : k < 2 ^ n) : (bn a < (no_index (OfNat.ofNat k) : Int)) = (a < BitVec.ofNat n k) := by
  unfold bn; rw [BitVec.lt_def, lit_nat k h]; exact propext (by rw [show (OfNat.ofNat k : Int) = ((k : Nat) : Int) from rfl]; omega)
@[simp] theorem bn_le_lit (k : Nat) (h : k < 2 ^ n) : (bn a ≤ (no_index (OfNat.ofNat k) : Int)) = (a ≤ BitVec.ofNat n k) := by
  unfold bn; rw [BitVec.le_def, lit_nat k h]; exact propext (by rw [show (OfNat.ofNat k : Int) = ((k : Nat) : Int) from rfl]; omega)
@[simp] theorem lit_lt_bn (k : Nat) (h : k < 2 ^ n) : ((no_index (OfNat.ofNat k) : Int) < bn a) = (BitVec.ofNat n k < a) := by
  unfold bn; rw [BitVec.lt_def, lit_nat k h]; exact propext (by rw [show (OfNat.ofNat k : Int) = ((k : Nat) : Int) from rfl]; omega)
@[simp] theorem lit_le_bn (k : Nat) (h : k < 2 ^ n) : ((no_index (OfNat.ofNat k) : Int) ≤ bn a) = (BitVec.ofNat n k ≤ a) := by
  unfold bn; rw [BitVec.le_def, lit_nat k h]; exact propext (by rw [show (OfNat.ofNat k : Int) = ((k : Nat) : Int) from rfl]; omega)
@[simp] theorem zero_lt_bn : (0 < bn a) = (0#n < a) := by unfold bn; rw [BitVec.lt_def]; exact propext (by simp)
@[simp] theorem one_le_bn : (1 ≤ bn a) = (0#n < a) := by unfold bn; rw [BitVec.lt_def]; exact propext (by simp; omega)
@[simp] theorem bn_le_one (h : 1 < 2 ^ n) : (bn a ≤ 1) = (a ≤ 1#n) := by
  unfold bn; rw [BitVec.le_def, lit_nat 1 h]; exact propext (by omega)
@[simp] theorem bn_tdiv : Int.tdiv (bn a) (bn b) = bn (a / b) := by unfold bn; rw [BitVec.toNat_udiv]; rfl
@[simp] theorem bn_tmod : Int.tmod (bn a) (bn b) = bn (a % b) := by unfold bn; rw [BitVec.toNat_umod]; rfl
@[simp] theorem bn_tmod_lit (k : Nat) (h : k < 2 ^ n) : Int.tmod (bn a) (no_index (OfNat.ofNat k) : Int) = bn (a % BitVec.ofNat n k) := by
  unfold bn; rw [BitVec.toNat_umod, lit_nat k h]; rfl
@[simp] theorem bn_tdiv_lit (k : Nat) (h : k < 2 ^ n) : Int.tdiv (bn a) (no_index (OfNat.ofNat k) : Int) = bn (a / BitVec.ofNat n k) := by
  unfold bn; rw [BitVec.toNat_udiv, lit_nat k h]; rfl
@[simp] theorem ofInt_bn (m : Nat) : BitVec.ofInt m (bn a) = BitVec.setWidth m a := by
  unfold bn; rw [BitVec.ofInt_natCast]; apply BitVec.eq_of_toNat_eq; simp
@[simp] theorem ofInt_sn (m : Nat) : BitVec.ofInt m (sn a) = BitVec.signExtend m a := rfl
@[simp] theorem sn_inj : (sn a = sn b) = (a = b) := by
  unfold sn; exact propext ⟨fun h => BitVec.eq_of_toInt_eq h, fun h => by rw [h]⟩
@[simp] theorem sn_beq : (sn a == sn b) = (a == b) := by rw [Bool.eq_iff_iff, beq_iff_eq, beq_iff_eq, sn_inj]
end bn
@[simp] theorem nc_beq (n k : Nat) : ((n : Int) == (no_index (OfNat.ofNat k))) = (n == k) := by
  rw [Bool.eq_iff_iff, beq_iff_eq, beq_iff_eq]; exact ⟨fun h => Int.ofNat_inj.1 h, fun h => by rw [h]; rfl⟩
@[simp] theorem nc_bne (n k : Nat) : ((n : Int) != (no_index (OfNat.ofNat k))) = (n != k) := by simp only [bne, nc_beq]
@[simp] theorem bn_bne {n : Nat} (a b : BitVec n) : (bn a != bn b) = (a != b) := by simp only [bne, bn_beq]
@[simp] theorem bn_bne_lit {n : Nat} (a : BitVec n) (k : Nat) (h : k < 2 ^ n) : (bn a != (no_index (OfNat.ofNat k) : Int)) = (a != BitVec.ofNat n k) := by simp only [bne, bn_beq_lit a k h]
theorem wrapU_gen (k : IntKind) (hs : k.signed = false) (n : Int) : k.wrap n = bn (BitVec.ofInt k.bits n) := by
  unfold bn
  have h2 : (0:Int) < 2 ^ k.bits := by cases k <;> decide
  have := Int.emod_nonneg n (show (2 ^ k.bits : Int) ≠ 0 by omega)
  simp only [IntKind.wrap, hs, Bool.false_and, Bool.false_eq_true, if_false, BitVec.toNat_ofInt]
  push_cast
  omega
theorem wrapS_gen (k : IntKind) (hs : k.signed = true) (n : Int) : k.wrap n = sn (BitVec.ofInt k.bits n) := by
  unfold sn
  rw [BitVec.toInt_ofInt, Int.bmod_def]
  have h2 : (2 ^ k.bits : Int) = 2 * 2 ^ (k.bits - 1) := by cases k <;> decide
  have h3 : (0:Int) < 2 ^ (k.bits - 1) := by cases k <;> decide
  simp only [IntKind.wrap, hs, Bool.true_and]
  push_cast
  generalize (2 ^ k.bits : Int) = M at *
  generalize (2 ^ (k.bits - 1) : Int) = H at *
  subst h2
  have h4 : (2 * H + 1) / 2 = H := by omega
  rw [h4]
  split <;> rename_i h <;> simp at h <;> split <;> omega
theorem wrap_i64 {n : Int} (h : -9223372036854775808 ≤ n ∧ n < 9223372036854775808) : IntKind.i64.wrap n = n := by
  simp only [IntKind.wrap, IntKind.bits, IntKind.signed, Bool.true_and]
  split <;> rename_i hh <;> simp at hh <;> omega
@[simp] theorem wrap_i64_ofNat (k : Nat) (h : k < 9223372036854775808) : IntKind.i64.wrap (no_index (OfNat.ofNat k)) = (OfNat.ofNat k : Int) := wrap_i64 (by rw [show (OfNat.ofNat k : Int) = ((k : Nat) : Int) from rfl]; omega)
@[simp] theorem wrap_i64_neg (k : Nat) (h : k ≤ 9223372036854775808) : IntKind.i64.wrap (-(no_index (OfNat.ofNat k))) = -(OfNat.ofNat k : Int) := wrap_i64 (by rw [show (OfNat.ofNat k : Int) = ((k : Nat) : Int) from rfl]; omega)
@[simp] theorem wrap_i64_zero : IntKind.i64.wrap 0 = 0 := rfl
@[simp] theorem wrap_i64_one : IntKind.i64.wrap 1 = 1 := rfl
@[simp] theorem wrap_i64_m1 : IntKind.i64.wrap (-1) = -1 := rfl
@[simp] theorem wrap_i64_bn {n : Nat} (x : BitVec n) (h : n ≤ 63) : IntKind.i64.wrap (bn x) = bn x := by
  have h1 := bn_nn x
  have h2 := bn_up x
  have h3 : (2 ^ n : Int) ≤ 2 ^ 63 := by exact_mod_cast Nat.pow_le_pow_right (by decide) h
  exact wrap_i64 ⟨by omega, by omega⟩
@[simp] theorem wrap_i64_sn {n : Nat} (x : BitVec n) (h : n ≤ 64) : IntKind.i64.wrap (sn x) = sn x := by
  unfold sn
  have h1 := BitVec.le_toInt x
  have h2 := BitVec.toInt_lt (x := x)
  have h3 : (2 ^ (n - 1) : Int) ≤ 2 ^ 63 := by exact_mod_cast Nat.pow_le_pow_right (by decide) (show n - 1 ≤ 63 by omega)
  exact wrap_i64 ⟨by omega, by omega⟩
@[simp] theorem ofInt_wrap64 (m : Nat) (e : Int) (h : m ≤ 64) : BitVec.ofInt m (IntKind.i64.wrap e) = BitVec.ofInt m e := by
  rw [wrapS_gen .i64 rfl]
  apply BitVec.eq_of_toNat_eq
  show (BitVec.ofInt m (BitVec.ofInt 64 e).toInt).toNat = _
  rw [BitVec.toNat_ofInt, BitVec.toNat_ofInt, BitVec.toInt_ofInt]
  congr 1
  have hd : ((2 ^ m : Nat) : Int) ∣ ((2 ^ 64 : Nat) : Int) := by exact_mod_cast Nat.pow_dvd_pow 2 h
  rw [Int.bmod_def]
  split
  · rw [Int.emod_emod_of_dvd _ hd]
  · rw [Int.sub_emod, Int.emod_emod_of_dvd _ hd, Int.emod_eq_zero_of_dvd hd, Int.sub_zero, Int.emod_emod_of_dvd _ (Int.dvd_refl _)]
theorem shrU_gen (k : IntKind) (hs : k.signed = false) (a : BitVec k.bits) (y : Int) (hy : 0 ≤ y) : shV .shr k (bn a) y = some (.int k (bn (a >>> y.toNat))) := by
  unfold shV bn
  rw [if_neg (by omega)]
  simp only [Option.some.injEq, Value.int.injEq, true_and, BitVec.toNat_ushiftRight]
  have h0 : (0:Int) < 2 ^ min y.toNat k.bits := Int.pow_pos (by decide)
  rw [Int.fdiv_eq_ediv_of_nonneg _ (by omega)]
  rw [Nat.shiftRight_eq_div_pow]
  rcases Nat.le_total y.toNat k.bits with h | h
  · rw [Nat.min_eq_left h]; norm_cast
  · rw [Nat.min_eq_right h]
    have := a.isLt
    have h3 : a.toNat < 2 ^ y.toNat := Nat.lt_of_lt_of_le this (Nat.pow_le_pow_right (by decide) h)
    rw [Nat.div_eq_of_lt h3]
    norm_cast
    rw [Nat.div_eq_of_lt this]
theorem shlU_gen (k : IntKind) (hs : k.signed = false) (a : BitVec k.bits) (y : Int) (hy : 0 ≤ y) : shV .shl k (bn a) y = some (.int k (bn (a <<< y.toNat))) := by
  unfold shV
  rw [if_neg (by omega)]
  simp only [Option.some.injEq, Value.int.injEq, true_and]
  rw [wrapU_gen k hs]
  congr 1
  apply BitVec.eq_of_toNat_eq
  unfold bn
  rw [BitVec.toNat_ofInt, BitVec.toNat_shiftLeft, Nat.shiftLeft_eq]
  norm_cast
  rcases Nat.le_total y.toNat k.bits with h | h
  · rw [Nat.min_eq_left h, Int.toNat_natCast]
  · rw [Nat.min_eq_right h]
    obtain ⟨c, hc⟩ := Nat.exists_eq_add_of_le h
    rw [hc, Nat.pow_add, Nat.mul_mod_left, ← Nat.mul_assoc, Nat.mul_right_comm, Nat.mul_mod_left, Int.toNat_natCast]
theorem wrap_self (k : IntKind) (hs : k.signed = false) (a : BitVec k.bits) : k.wrap (bn a) = bn a := by
  rw [wrapU_gen k hs, ofInt_bn, BitVec.setWidth_eq]
@[simp] theorem wrap_u8 (n : Int) : IntKind.u8.wrap n = bn (BitVec.ofInt 8 n) := wrapU_gen IntKind.u8 rfl n
@[simp] theorem shr_u8 (a : BitVec 8) (y : Int) (hy : 0 ≤ y) : shV .shr IntKind.u8 (bn a) y = some (.int IntKind.u8 (bn (a >>> y.toNat))) := shrU_gen IntKind.u8 rfl a y hy
@[simp] theorem shl_u8 (a : BitVec 8) (y : Int) (hy : 0 ≤ y) : shV .shl IntKind.u8 (bn a) y = some (.int IntKind.u8 (bn (a <<< y.toNat))) := shlU_gen IntKind.u8 rfl a y hy
@[simp] theorem shl1_u8 (y : Int) (hy : 0 ≤ y) : shV .shl IntKind.u8 1 y = some (.int IntKind.u8 (bn (1#8 <<< y.toNat))) := shlU_gen IntKind.u8 rfl 1#8 y hy
@[simp] theorem and_u8 (a b : Int) : bits .and IntKind.u8 a b = bn (BitVec.ofInt 8 a &&& BitVec.ofInt 8 b) := wrap_self IntKind.u8 rfl _
@[simp] theorem or_u8 (a b : Int) : bits .or IntKind.u8 a b = bn (BitVec.ofInt 8 a ||| BitVec.ofInt 8 b) := wrap_self IntKind.u8 rfl _
@[simp] theorem xor_u8 (a b : Int) : bits .xor IntKind.u8 a b = bn (BitVec.ofInt 8 a ^^^ BitVec.ofInt 8 b) := wrap_self IntKind.u8 rfl _
@[simp] theorem andNot_u8 (a b : Int) : bits .andNot IntKind.u8 a b = bn (BitVec.ofInt 8 a &&& ~~~BitVec.ofInt 8 b) := wrap_self IntKind.u8 rfl _
@[simp] theorem wrap_u16 (n : Int) : IntKind.u16.wrap n = bn (BitVec.ofInt 16 n) := wrapU_gen IntKind.u16 rfl n
@[simp] theorem shr_u16 (a : BitVec 16) (y : Int) (hy : 0 ≤ y) : shV .shr IntKind.u16 (bn a) y = some (.int IntKind.u16 (bn (a >>> y.toNat))) := shrU_gen IntKind.u16 rfl a y hy
@[simp] theorem shl_u16 (a : BitVec 16) (y : Int) (hy : 0 ≤ y) : shV .shl IntKind.u16 (bn a) y = some (.int IntKind.u16 (bn (a <<< y.toNat))) := shlU_gen IntKind.u16 rfl a y hy
@[simp] theorem shl1_u16 (y : Int) (hy : 0 ≤ y) : shV .shl IntKind.u16 1 y = some (.int IntKind.u16 (bn (1#16 <<< y.toNat))) := shlU_gen IntKind.u16 rfl 1#16 y hy
@[simp] theorem and_u16 (a b : Int) : bits .and IntKind.u16 a b = bn (BitVec.ofInt 16 a &&& BitVec.ofInt 16 b) := wrap_self IntKind.u16 rfl _
@[simp] theorem or_u16 (a b : Int) : bits .or IntKind.u16 a b = bn (BitVec.ofInt 16 a ||| BitVec.ofInt 16 b) := wrap_self IntKind.u16 rfl _
@[simp] theorem xor_u16 (a b : Int) : bits .xor IntKind.u16 a b = bn (BitVec.ofInt 16 a ^^^ BitVec.ofInt 16 b) := wrap_self IntKind.u16 rfl _
@[simp] theorem andNot_u16 (a b : Int) : bits .andNot IntKind.u16 a b = bn (BitVec.ofInt 16 a &&& ~~~BitVec.ofInt 16 b) := wrap_self IntKind.u16 rfl _
@[simp] theorem wrap_u32 (n : Int) : IntKind.u32.wrap n = bn (BitVec.ofInt 32 n) := wrapU_gen IntKind.u32 rfl n
@[simp] theorem shr_u32 (a : BitVec 32) (y : Int) (hy : 0 ≤ y) : shV .shr IntKind.u32 (bn a) y = some (.int IntKind.u32 (bn (a >>> y.toNat))) := shrU_gen IntKind.u32 rfl a y hy
@[simp] theorem shl_u32 (a : BitVec 32) (y : Int) (hy : 0 ≤ y) : shV .shl IntKind.u32 (bn a) y = some (.int IntKind.u32 (bn (a <<< y.toNat))) := shlU_gen IntKind.u32 rfl a y hy
@[simp] theorem shl1_u32 (y : Int) (hy : 0 ≤ y) : shV .shl IntKind.u32 1 y = some (.int IntKind.u32 (bn (1#32 <<< y.toNat))) := shlU_gen IntKind.u32 rfl 1#32 y hy
@[simp] theorem and_u32 (a b : Int) : bits .and IntKind.u32 a b = bn (BitVec.ofInt 32 a &&& BitVec.ofInt 32 b) := wrap_self IntKind.u32 rfl _
@[simp] theorem or_u32 (a b : Int) : bits .or IntKind.u32 a b = bn (BitVec.ofInt 32 a ||| BitVec.ofInt 32 b) := wrap_self IntKind.u32 rfl _
@[simp] theorem xor_u32 (a b : Int) : bits .xor IntKind.u32 a b = bn (BitVec.ofInt 32 a ^^^ BitVec.ofInt 32 b) := wrap_self IntKind.u32 rfl _
@[simp] theorem andNot_u32 (a b : Int) : bits .andNot IntKind.u32 a b = bn (BitVec.ofInt 32 a &&& ~~~BitVec.ofInt 32 b) := wrap_self IntKind.u32 rfl _
@[simp] theorem wrap_u64 (n : Int) : IntKind.u64.wrap n = bn (BitVec.ofInt 64 n) := wrapU_gen IntKind.u64 rfl n
@[simp] theorem shr_u64 (a : BitVec 64) (y : Int) (hy : 0 ≤ y) : shV .shr IntKind.u64 (bn a) y = some (.int IntKind.u64 (bn (a >>> y.toNat))) := shrU_gen IntKind.u64 rfl a y hy
@[simp] theorem shl_u64 (a : BitVec 64) (y : Int) (hy : 0 ≤ y) : shV .shl IntKind.u64 (bn a) y = some (.int IntKind.u64 (bn (a <<< y.toNat))) := shlU_gen IntKind.u64 rfl a y hy
@[simp] theorem shl1_u64 (y : Int) (hy : 0 ≤ y) : shV .shl IntKind.u64 1 y = some (.int IntKind.u64 (bn (1#64 <<< y.toNat))) := shlU_gen IntKind.u64 rfl 1#64 y hy
@[simp] theorem and_u64 (a b : Int) : bits .and IntKind.u64 a b = bn (BitVec.ofInt 64 a &&& BitVec.ofInt 64 b) := wrap_self IntKind.u64 rfl _
@[simp] theorem or_u64 (a b : Int) : bits .or IntKind.u64 a b = bn (BitVec.ofInt 64 a ||| BitVec.ofInt 64 b) := wrap_self IntKind.u64 rfl _
@[simp] theorem xor_u64 (a b : Int) : bits .xor IntKind.u64 a b = bn (BitVec.ofInt 64 a ^^^ BitVec.ofInt 64 b) := wrap_self IntKind.u64 rfl _
@[simp] theorem andNot_u64 (a b : Int) : bits .andNot IntKind.u64 a b = bn (BitVec.ofInt 64 a &&& ~~~BitVec.ofInt 64 b) := wrap_self IntKind.u64 rfl _
theorem shrS_gen (k : IntKind) (hs : k.signed = true) (a : BitVec k.bits) (y : Int) (hy : 0 ≤ y) : shV .shr k (sn a) y = some (.int k (sn (a.sshiftRight y.toNat))) := by
  unfold shV sn
  rw [if_neg (by omega)]
  simp only [Option.some.injEq, Value.int.injEq, true_and]
  rw [BitVec.toInt_sshiftRight, Int.shiftRight_eq_div_pow]
  have h0 : (0:Int) < 2 ^ min y.toNat k.bits := Int.pow_pos (by decide)
  rw [Int.fdiv_eq_ediv_of_nonneg _ (by omega)]
  rcases Nat.le_total y.toNat k.bits with h | h
  · rw [Nat.min_eq_left h]; norm_cast
  · rw [Nat.min_eq_right h]
    have h1 := BitVec.le_toInt a
    have h2 := BitVec.toInt_lt (x := a)
    have h4 : (2 ^ (k.bits - 1) : Int) ≤ 2 ^ k.bits := by exact_mod_cast Nat.pow_le_pow_right (by decide) (Nat.sub_le _ _)
    have h5 : (2 ^ k.bits : Int) ≤ 2 ^ y.toNat := by exact_mod_cast Nat.pow_le_pow_right (by decide) h
    have key : ∀ (x M : Int), -M ≤ x → x < M → x / M = if x < 0 then -1 else 0 := by
      intro x M a b
      split
      · rw [show x = (x + M) + (-1) * M by omega, Int.add_mul_ediv_right _ _ (by omega), Int.ediv_eq_zero_of_lt (by omega) (by omega)]; rfl
      · exact Int.ediv_eq_zero_of_lt (by omega) b
    push_cast
    rw [key _ (2 ^ k.bits) (by omega) (by omega), key _ (2 ^ y.toNat) (by omega) (by omega)]
theorem shlS_gen (k : IntKind) (hs : k.signed = true) (a : BitVec k.bits) (y : Int) (hy : 0 ≤ y) : shV .shl k (sn a) y = some (.int k (sn (a <<< y.toNat))) := by
  unfold shV
  rw [if_neg (by omega)]
  simp only [Option.some.injEq, Value.int.injEq, true_and]
  rw [wrapS_gen k hs]
  congr 1
  rw [BitVec.ofInt_mul, ofInt_sn, BitVec.signExtend_eq]
  apply BitVec.eq_of_toNat_eq
  rw [BitVec.toNat_mul, BitVec.toNat_shiftLeft, Nat.shiftLeft_eq, BitVec.toNat_ofInt]
  norm_cast
  rw [Int.toNat_natCast, Nat.mul_mod, Nat.mod_mod, ← Nat.mul_mod]
  rcases Nat.le_total y.toNat k.bits with h | h
  · rw [Nat.min_eq_left h]
  · rw [Nat.min_eq_right h]
    obtain ⟨c, hc⟩ := Nat.exists_eq_add_of_le h
    rw [hc, Nat.pow_add, Nat.mul_mod_left, ← Nat.mul_assoc, Nat.mul_right_comm, Nat.mul_mod_left]
@[simp] theorem wrap_i8 (n : Int) : IntKind.i8.wrap n = sn (BitVec.ofInt 8 n) := wrapS_gen IntKind.i8 rfl n
@[simp] theorem shr_i8 (a : BitVec 8) (y : Int) (hy : 0 ≤ y) : shV .shr IntKind.i8 (sn a) y = some (.int IntKind.i8 (sn (a.sshiftRight y.toNat))) := shrS_gen IntKind.i8 rfl a y hy
@[simp] theorem shl_i8 (a : BitVec 8) (y : Int) (hy : 0 ≤ y) : shV .shl IntKind.i8 (sn a) y = some (.int IntKind.i8 (sn (a <<< y.toNat))) := shlS_gen IntKind.i8 rfl a y hy
@[simp] theorem wrap_i16 (n : Int) : IntKind.i16.wrap n = sn (BitVec.ofInt 16 n) := wrapS_gen IntKind.i16 rfl n
@[simp] theorem shr_i16 (a : BitVec 16) (y : Int) (hy : 0 ≤ y) : shV .shr IntKind.i16 (sn a) y = some (.int IntKind.i16 (sn (a.sshiftRight y.toNat))) := shrS_gen IntKind.i16 rfl a y hy
@[simp] theorem shl_i16 (a : BitVec 16) (y : Int) (hy : 0 ≤ y) : shV .shl IntKind.i16 (sn a) y = some (.int IntKind.i16 (sn (a <<< y.toNat))) := shlS_gen IntKind.i16 rfl a y hy
@[simp] theorem wrap_i32 (n : Int) : IntKind.i32.wrap n = sn (BitVec.ofInt 32 n) := wrapS_gen IntKind.i32 rfl n
@[simp] theorem shr_i32 (a : BitVec 32) (y : Int) (hy : 0 ≤ y) : shV .shr IntKind.i32 (sn a) y = some (.int IntKind.i32 (sn (a.sshiftRight y.toNat))) := shrS_gen IntKind.i32 rfl a y hy
@[simp] theorem shl_i32 (a : BitVec 32) (y : Int) (hy : 0 ≤ y) : shV .shl IntKind.i32 (sn a) y = some (.int IntKind.i32 (sn (a <<< y.toNat))) := shlS_gen IntKind.i32 rfl a y hy

/-! What every heap keeps -/
mutual
theorem VR.bd {ρ : List Ent} : ∀ {v v' : Value}, VR ρ v v' → Go.Proofs.YtkcdcogmnplhjaaDoor.bd ρ.length v = true
  | _, _, .bool b => rfl
  | _, _, .int k m => rfl
  | _, _, .string s => rfl
  | _, _, .pnil => rfl
  | _, _, .ptr o h => by simpa [Go.Proofs.YtkcdcogmnplhjaaDoor.bd, Addr.bd] using (List.getElem?_eq_some_iff.1 h).1
  | _, _, .snil l c => rfl
  | _, _, .slice o l c h => by simpa [Go.Proofs.YtkcdcogmnplhjaaDoor.bd, Addr.bd] using (List.getElem?_eq_some_iff.1 h).1
  | _, _, .func f => rfl
  | _, _, .nilFunc => rfl
  | _, _, .nilIface => rfl
  | _, _, .iface t h => by simpa [Go.Proofs.YtkcdcogmnplhjaaDoor.bd] using VR.bd h
  | _, _, .agg h => by simpa [Go.Proofs.YtkcdcogmnplhjaaDoor.bd] using VRs.bds h
  | _, _, .tuple h => by simpa [Go.Proofs.YtkcdcogmnplhjaaDoor.bd] using VRs.bds h
theorem VRs.bds {ρ : List Ent} : ∀ {v v' : List Value}, VRs ρ v v' → Go.Proofs.YtkcdcogmnplhjaaDoor.bds ρ.length v = true
  | _, _, .nil => rfl
  | _, _, .cons h t => by simp [Go.Proofs.YtkcdcogmnplhjaaDoor.bds, VR.bd h, VRs.bds t]
end
theorem bds_of_all {n : Nat} : ∀ {l : List Value}, (∀ (i : Nat) (v : Value), l[i]? = some v → bd n v = true) → bds n l = true
  | [], _ => rfl
  | v :: l, h => by
    simp only [bds, Bool.and_eq_true]
    exact ⟨h 0 v rfl, bds_of_all fun i v hi => h (i + 1) v (by simpa using hi)⟩
theorem bdH_of_all {n : Nat} : ∀ {l : List Blk}, (∀ (i : Nat) (b : Blk), l[i]? = some b → bds n b.c = true) → bdH n l = true
  | [], _ => rfl
  | v :: l, h => by
    simp only [bdH, Bool.and_eq_true]
    exact ⟨h 0 v rfl, bdH_of_all fun i v hi => h (i + 1) v (by simpa using hi)⟩
theorem HR.bd {G : Glob} {ρ : List Ent} {h : List Blk} {w : World} (H : HR G ρ h w) : bdH h.length h = true := by
  refine bdH_of_all fun i b hi => ?_
  have hlt := (List.getElem?_eq_some_iff.1 hi).1
  obtain ⟨e, he⟩ : ∃ e, ρ[i]? = some e := ⟨_, List.getElem?_eq_getElem (by rw [H.len]; exact hlt)⟩
  rw [← H.len]
  rcases H.blk i e b he hi with ⟨_, _, _, c', _, h4⟩ | ⟨_, h2⟩
  · exact h4.bds
  · refine bds_of_all fun o v ho => ?_
    obtain ⟨v', _, hr⟩ := h2 o v ho
    exact hr.bd
/-- CC.introE, with what every heap keeps. -/
theorem CC.introB {P : Program} {G : Glob} {f : Nat} {fn : Func} {c : Code} {as : List Value} {h : List Blk} {K : Value → List Blk → Prop}
    (hf : P.funcs[f]? = some fn) (hname : (fn.name == "runtime.NumGoroutine") = false) (hb : fn.body = some c) (n : Nat) (hn : fn.ntmps = as.length + n)
    (H : bdH h.length h = true → bds h.length as = true → swpE P G h.length c (retE P fn.results.toList h.length K) ⟨as.map some ++ List.replicate n (some undef), h⟩) : CC P G f as h K :=
  ⟨⟨fn, hf, hname, by rw [hb]; rfl⟩, fun ρ w as' hh hv => (CC.introE hf hname hb n hn (H hh.bd (hh.len ▸ hv.bds))).2 ρ w as' hh hv⟩
theorem ofInt_sub' {n : Nat} (a b : Int) : BitVec.ofInt n (a - b) = BitVec.ofInt n a - BitVec.ofInt n b := by rw [Int.sub_eq_add_neg, BitVec.ofInt_add, BitVec.ofInt_neg, BitVec.sub_eq_add_neg]
attribute [simp] fl fls Value.oneCell'
attribute [simp] BitVec.ofInt_add BitVec.ofInt_mul ofInt_sub' BitVec.ofInt_natCast BitVec.ofNat_toNat BitVec.setWidth_eq
attribute [simp] leT bdT bdH Le
theorem retK_back {m : Nat} {K : Value → List Blk → Prop} {r : Value} {h g : List Blk} (hm : m = h.length) (hb : bdH h.length h = true) (hr : bd h.length r = true) (H : K r h) : retK m K r (h ++ g) := by
  subst hm
  refine retK_cut h.length (Nat.le_refl _) (by simp) hr ?_ ?_ <;> rw [List.take_left'] <;> first | rfl | assumption
end Go.Proofs.YtkcdcogmnplhjaaDoor
