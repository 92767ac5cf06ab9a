/-
  Walks: the code words of the program under proof.
-/
import Derived.Test.YtkcdcogmnplhjaaDoorW2
import Derived.Test.YtkcdcogmnplhjaaDoorTZ
namespace Go.Proofs.YtkcdcogmnplhjaaDoor
open Go
set_option linter.unusedSimpArgs false
set_option linter.unusedVariables false
set_option linter.unnecessarySimpa false
set_option maxRecDepth 10000

abbrev u8 (n : Nat) : Value := .int .u8 (n : Int)
theorem c_columns (G : Glob) (h : List Blk) (K : Value → List Blk → Prop) (hK : K (.agg ⟨cols.map u8⟩) h) : CC Tryd.prog G 40 [] h K := by
  refine CC.introB Tryd.func40 (by rfl) rfl 2 rfl (fun hB hbA => ?_)
  simp
  refine retK_back rfl hB (by simp [bd, bds]) ?_
  exact hK

theorem cols_get (k : Nat) (hk : k < 39) : (cols.map u8)[k]? = some (u8 (colT k)) := by
  rw [List.getElem?_map, List.getElem?_eq_getElem (by simpa [cols] using hk)]
  simp [colT, List.getD_eq_getElem?_getD, List.getElem?_eq_getElem (show k < cols.length by simpa [cols] using hk)]

theorem c_iSyn (G : Glob) (hT : TZC G) (w : BitVec 64) (hw : ∀ j, 39 ≤ j → w.getLsbD j = false) (h : List Blk) (K : Value → List Blk → Prop) (hK : K (.int .i64 (syn w 39 : Int)) h) : CC Tryd.prog G 38 [.int .u64 (bn w)] h K := by
  refine CC.introB Tryd.func38 (by rfl) rfl 21 rfl (fun hB hbA => ?_)
  have hm : w &&& 549755813887#64 = w := by
    apply BitVec.eq_of_getLsbD_eq
    intro j hj
    rw [BitVec.getLsbD_and]
    rcases Nat.lt_or_ge j 39 with h1 | h1
    · have : (549755813887#64).getLsbD j = true := by revert j; decide +kernel
      rw [this, Bool.and_true]
    · rw [hw j h1]; rfl
  simp
  refine c_columns G h _ ?_
  have hcl : cols.length = 39 := rfl
  simp [hm, hcl]
  refine loopP_intro (α := BitVec 64 × BitVec 8) (fun a => ⟨[some (.int .u64 (bn a.1)), none, some (.int .i64 0), some (.pointer (some ⟨h.length, 0, none⟩)), some (.int .u8 (bn a.2)), none, none, none, none, none, none, none, none, none, none, none, none, none, none, none, none, none], h ++ [⟨true, 73, cols.map u8⟩]⟩)
    (fun a => a.2.toNat ^^^ syn a.1 39 = syn w 39 ∧ ∀ j, 39 ≤ j → a.1.getLsbD j = false) (fun a => a.1.toNat) (w, 0#8) ⟨by simp, hw⟩ (by simp) ?_
  rintro ⟨y, s⟩ ⟨hi, hy⟩
  simp only at hi hy
  simp
  refine condP_split (fun h1 => ?_) (fun h1 => ?_)
  · have h0 : y ≠ 0#64 := by rintro rfl; simp at h1
    obtain ⟨k, hk, hk1, hk2, hk3⟩ := lowest y h0
    have hk39 : k < 39 := by
      rcases Nat.lt_or_ge k 39 with h | h
      · exact h
      · rw [hy k h] at hk1; cases hk1
    have hd := dec_lt y h0
    have hc := colT_lt k
    simp
    refine hT y k hk h0 hk2 _ _ ?_
    have e1 : (cols.map u8)[k]? = some (u8 (colT k)) := cols_get k hk39
    have e2 : BitVec.ofInt 8 (colT k : Int) = BitVec.ofNat 8 (colT k) := by simp
    have e3 : (k : Int) < 39 := by omega
    have e4 : cols[k]'(by rw [hcl]; exact hk39) = colT k := by simp [colT, List.getD_eq_getElem?_getD, List.getElem?_eq_getElem (show k < cols.length by rw [hcl]; exact hk39)]
    simp [hk39, hcl, e3, e4]
    refine ⟨_, _, ⟨?_, fun j hj => ?_⟩, ⟨rfl, rfl⟩, hd⟩
    · have := syn_clear y (y &&& (y - 1#64)) k hk1 hk3 39
      rw [if_pos hk39] at this
      rw [this] at hi
      rw [← hi, BitVec.toNat_xor, BitVec.toNat_ofNat, Nat.mod_eq_of_lt (by omega), Nat.xor_assoc, Nat.xor_comm (colT k)]
    · rw [hk3, hy j hj]; rfl
  · have h0 : y = 0#64 := by simpa using h1
    subst h0
    simp
    refine retK_back rfl hB (by simp [bd]) ?_
    rw [syn_zero, Nat.xor_zero] at hi
    rw [bn_def, hi]; exact hK

theorem mask_hi (w : BitVec 64) (j : Nat) (hj : 39 ≤ j) : (w &&& 549755813887#64).getLsbD j = false := by
  rw [BitVec.getLsbD_and]
  rcases Nat.lt_or_ge j 64 with h1 | h1
  · have : (549755813887#64).getLsbD j = false := by revert hj; revert j; decide +kernel
    rw [this, Bool.and_false]
  · rw [BitVec.getLsbD_of_ge _ _ h1]; rfl

theorem c_iEnc (G : Glob) (hT : TZC G) (n : BitVec 32) (h : List Blk) (K : Value → List Blk → Prop) (hK : K (.int .u64 (bn (enc n))) h) : CC Tryd.prog G 32 [.int .u32 (bn n)] h K := by
  refine CC.introB Tryd.func32 (by rfl) rfl 10 rfl (fun hB hbA => ?_)
  simp
  refine c_iSyn G hT _ (fun j hj => by rw [BitVec.getLsbD_setWidth, BitVec.getLsbD_of_ge _ _ (by omega)]; simp) h _ ?_
  simp
  exact retK_all hK

theorem c_iMend (G : Glob) (hT : TZC G) (w : BitVec 64) (h : List Blk) (K : Value → List Blk → Prop) (hK : K (.tuple #[.int .u64 (bn (mendW w)), .int .i64 (mendS w : Int)]) h) : CC Tryd.prog G 35 [.int .u64 (bn w)] h K := by
  refine CC.introB Tryd.func35 (by rfl) rfl 28 rfl (fun hB hbA => ?_)
  have hm := mask_hi w
  unfold mendW mendS at hK
  generalize hx : w &&& 549755813887#64 = x at hK hm
  have hs := syn_lt x 39
  simp [hx]
  refine c_iSyn G hT _ hm h _ ?_
  simp
  refine condP_split (fun h1 => ?_) (fun h1 => ?_)
  · have h0 : syn x 39 = 0 := by simp at h1; omega
    rw [h0] at hK
    simp at hK
    simp
    refine retK_all ?_
    cases hf : fnd 0 39 <;> simpa [hf] using hK
  · have h0 : syn x 39 ≠ 0 := by simp at h1; omega
    simp [h0] at hK
    simp
    refine c_columns G h _ ?_
    simp
    refine loopP_intro (α := Nat) (fun n => ⟨[some (.int .u64 (bn x)), none, some (.int .u64 0), some (.int .i64 0), some (.int .i64 (syn x 39 : Int)), none, none, none, none, none, none, none, none, none, some (.agg ⟨cols.map u8⟩), some (.int .i64 (n : Int)), none, none, none, none, none, none, none, none, none, none, none, none, none], h⟩) (fun n => n ≤ 39 ∧ fnd (syn x 39) n = none) (fun n => 39 - n) 0 (by simp [fnd]) (by simp) ?_
    rintro n ⟨hn, hf⟩
    simp
    refine condP_split (fun h1 => ?_) (fun h1 => ?_)
    · have hlt : n < 39 := by simp at h1; omega
      have hcl : cols.length = 39 := rfl
      have hc := colT_lt n
      have e3 : (n : Int) < 39 := by omega
      have e4 : cols[n]'(by rw [hcl]; exact hlt) = colT n := by simp [colT, List.getD_eq_getElem?_getD, List.getElem?_eq_getElem (show n < cols.length by rw [hcl]; exact hlt)]
      have e8 : IntKind.i64.wrap (colT n : Int) = (colT n : Int) := wrap_i64 (by omega)
      have e9 : IntKind.i64.wrap ((n : Int) + 1) = ((n + 1 : Nat) : Int) := by rw [wrap_i64 (by omega)]; rfl
      simp [e3, e4, hcl, hlt, e8]
      refine condP_split (fun h2 => ?_) (fun h2 => ?_)
      · have h3 : colT n = syn x 39 := by simp at h2; omega
        rw [fnd_hit hf h3 39 hlt] at hK
        simp
        refine retK_all ?_
        simpa using hK
      · have h3 : colT n ≠ syn x 39 := by simp at h2; omega
        simp [e9]
        exact ⟨n + 1, ⟨by omega, fnd_miss hf h3⟩, rfl, by omega⟩
    · have hlt : n = 39 := by simp at h1; omega
      subst hlt
      simp
      refine retK_all ?_
      simpa [hf] using hK

theorem and_m32 (x : BitVec 32) : x &&& 4294967295#32 = x := BitVec.and_allOnes

theorem c_iDec (G : Glob) (hT : TZC G) (w : BitVec 64) (h : List Blk) (K : Value → List Blk → Prop) (hK : K (.tuple #[.int .u32 (bn ((mendW w).setWidth 32)), .int .i64 (mendS w : Int)]) h) : CC Tryd.prog G 39 [.int .u64 (bn w)] h K := by
  refine CC.introB Tryd.func39 (by rfl) rfl 14 rfl (fun hB hbA => ?_)
  simp
  refine c_iMend G hT w h _ ?_
  simp [and_m32]
  exact retK_all hK
end Go.Proofs.YtkcdcogmnplhjaaDoor
