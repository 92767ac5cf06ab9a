/-
  Walks: the document's code words.
-/
import Derived.Test.YtkcdcogmnplhjaaDoorPl
import Derived.Test.YtkcdcogmnplhjaaDoorTy
namespace Go.Proofs.YtkcdcogmnplhjaaDoor
open Go
set_option linter.unusedSimpArgs false
set_option linter.unusedVariables false
set_option linter.unnecessarySimpa false
set_option maxRecDepth 10000

theorem c_Count (G : Glob) (x : BitVec 64) (h : List Blk) (K : Value → List Blk → Prop) (hK : K (.int .i64 (pcR x.toNat)) h) : CC Tryd.prog G 44 [.int .u64 (bn x)] h K := by
  refine CC.introB Tryd.func44 (by rfl) rfl 12 rfl (fun hB hbA => ?_)
  simp
  refine loopP_intro (α := BitVec 64 × Nat) (fun a => ⟨[some (.int .u64 (bn a.1)), none, some (.int .i64 0), some (.int .i64 (a.2 : Int)), none, none, none, none, none, none, none, none, none], h⟩) (fun a => a.2 + pcR a.1.toNat = pcR x.toNat) (fun a => a.1.toNat) (x, 0) (by simp) (by simp) ?_
  rintro ⟨y, n⟩ hi
  have hle := pcR_le 64 _ x.isLt
  simp only at hi
  simp
  refine condP_split (fun h1 => ?_) (fun h1 => ?_)
  · have h0 : y ≠ 0#64 := by rintro rfl; simp at h1
    have := dec_lt y h0
    simp
    refine ⟨_, n + 1, ?_, ⟨rfl, ?_⟩, this⟩
    · rw [← hi, pcR_step y h0]; omega
    · rw [wrap_i64 (by omega)]; rfl
  · have h0 : y = 0#64 := by simpa using h1
    subst h0
    simp
    refine retK_all ?_
    simp [pcR_zero] at hi
    rw [hi]; exact hK

theorem c_Column (G : Glob) (b : Nat) (hb : b < 39) (h : List Blk) (K : Value → List Blk → Prop) (hK : K (.int .i64 (colT b : Int)) h) : CC Tryd.prog G 42 [.int .i64 (b : Int)] h K := by
  refine CC.introB Tryd.func42 (by rfl) rfl 36 rfl (fun hB hbA => ?_)
  rcases Nat.lt_or_ge b 32 with h32 | h32
  · have e1 : ¬ (32 : Int) ≤ b := by omega
    simp [e1]
    refine loopP_intro (α := Nat) (fun n => ⟨[some (.int .i64 (b : Int)), none, some (.int .i64 0), some (.int .i64 (cnt n : Int)), some (.int .i64 (n : Int)), none, none, none, none, none, none, none, none, none, none, none, none, none, none, none, none, none, none, none, none, none, none, none, none, none, none, none, none, none, none, none, none], h⟩) (fun n => n ≤ 128 ∧ cnt n ≤ b) (fun n => 128 - n) 0 (by simp [cnt]) (by simp [cnt]) ?_
    rintro n ⟨hn, hc⟩
    have hlt : n < 128 := by
      rcases Nat.lt_or_ge n 128 with h | h
      · exact h
      · have : n = 128 := by omega
        subst this; rw [cnt_end] at hc; omega
    have e2 : (n : Int) < 128 := by omega
    have e3 : (0 : Int) ≤ b := by omega
    have e4 : (b : Int) < 32 := by omega
    simp [e2, e3, e4]
    refine c_Count G _ h _ ?_
    have e5 : (BitVec.ofNat 64 n).toNat = n := by rw [BitVec.toNat_ofNat]; omega
    rw [e5, pcR_pcB 7 n hlt]
    simp
    refine condP_split (fun h1 => ?_) (fun h1 => ?_)
    · have e6 : pcB 7 n = 3 := by simp at h1; omega
      simp
      refine condP_split (fun h2 => ?_) (fun h2 => ?_)
      · have e7 : cnt n = b := by simp at h2; omega
        simp
        refine retK_all ?_
        have := cnt_col n hlt e6 (by omega)
        rw [e7] at this
        rw [← this]; exact hK
      · have e7 : cnt n ≠ b := by simp at h2; omega
        have e8 : IntKind.i64.wrap ((cnt n : Int) + 1) = ((cnt (n + 1) : Nat) : Int) := by rw [wrap_i64 (by omega)]; simp [cnt, e6]
        have e9 : IntKind.i64.wrap ((n : Int) + 1) = ((n + 1 : Nat) : Int) := by rw [wrap_i64 (by omega)]; rfl
        simp [e8, e9]
        exact ⟨n + 1, ⟨by omega, by simp only [cnt, e6]; simp; omega⟩, ⟨rfl, rfl⟩, by omega⟩
    · have e6 : pcB 7 n ≠ 3 := by simp at h1; omega
      have e9 : IntKind.i64.wrap ((n : Int) + 1) = ((n + 1 : Nat) : Int) := by rw [wrap_i64 (by omega)]; rfl
      simp [e9]
      exact ⟨n + 1, ⟨by omega, by simp [cnt, e6]; omega⟩, ⟨by simp [cnt, e6], rfl⟩, by omega⟩
  · have : b = 32 ∨ b = 33 ∨ b = 34 ∨ b = 35 ∨ b = 36 ∨ b = 37 ∨ b = 38 := by omega
    rcases this with rfl | rfl | rfl | rfl | rfl | rfl | rfl <;> (simp [shV]; exact retK_all hK)

theorem xor_i64 (a b : Nat) (ha : a < 128) (hb : b < 128) : bits .xor .i64 (a : Int) (b : Int) = ((a ^^^ b : Nat) : Int) := by
  have h1 : a ^^^ b < 128 := Nat.xor_lt_two_pow (n := 7) ha hb
  show IntKind.i64.wrap (bn (BitVec.ofInt 64 (a : Int) ^^^ BitVec.ofInt 64 (b : Int))) = _
  rw [bn_def, BitVec.ofInt_natCast, BitVec.ofInt_natCast, BitVec.toNat_xor, BitVec.toNat_ofNat, BitVec.toNat_ofNat, Nat.mod_eq_of_lt (by omega), Nat.mod_eq_of_lt (by omega), wrap_i64 (by omega)]

theorem bit_at (w : BitVec 64) (n : Nat) : (w >>> n &&& 1#64 == 1#64) = w.getLsbD n := by
  have h : (w >>> n &&& 1#64).toNat = (w.getLsbD n).toNat := by
    rw [BitVec.toNat_and, BitVec.toNat_ushiftRight, BitVec.getLsbD, Nat.testBit]
    show _ &&& 1 = _
    rw [Nat.and_one_is_mod, Nat.one_and_eq_mod_two]
    rcases Nat.mod_two_eq_zero_or_one (w.toNat >>> n) with h | h <;> rw [h] <;> rfl
  rw [Bool.eq_iff_iff, beq_iff_eq]
  constructor
  · intro e; rw [e] at h; cases hb : w.getLsbD n
    · rw [hb] at h; simp at h
    · rfl
  · intro e; rw [e] at h; exact BitVec.eq_of_toNat_eq (by rw [h]; rfl)

theorem c_rSyn (G : Glob) (w : BitVec 64) (h : List Blk) (K : Value → List Blk → Prop) (hK : K (.int .i64 (syn w 39 : Int)) h) : CC Tryd.prog G 41 [.int .u64 (bn w)] h K := by
  refine CC.introB Tryd.func41 (by rfl) rfl 19 rfl (fun hB hbA => ?_)
  simp
  refine loopP_intro (α := Nat) (fun n => ⟨[some (.int .u64 (bn w)), none, some (.int .i64 0), some (.int .i64 (syn w n : Int)), some (.int .i64 (n : Int)), none, none, none, none, none, none, none, none, none, none, none, none, none, none, none], h⟩) (fun n => n ≤ 39) (fun n => 39 - n) 0 (by simp) (by simp [syn]) ?_
  intro n hn
  simp
  refine condP_split (fun h1 => ?_) (fun h1 => ?_)
  · have hlt : n < 39 := by simp at h1; omega
    have e5 : (BitVec.ofNat 64 n).toNat = n := by rw [BitVec.toNat_ofNat]; omega
    have e9 : IntKind.i64.wrap ((n : Int) + 1) = ((n + 1 : Nat) : Int) := by rw [wrap_i64 (by omega)]; rfl
    simp [e5, bit_at]
    refine condP_split (fun h2 => ?_) (fun h2 => ?_)
    · simp
      refine c_Column G n hlt h _ ?_
      have e6 : bits .xor .i64 (syn w n : Int) (colT n : Int) = ((syn w (n + 1) : Nat) : Int) := by rw [xor_i64 _ _ (syn_lt _ _) (colT_lt _), syn, if_pos h2]
      simp [e6, e9]
      exact ⟨n + 1, by omega, ⟨rfl, rfl⟩, by omega⟩
    · have e6 : syn w (n + 1) = syn w n := by rw [syn, h2]; rfl
      simp [e9]
      exact ⟨n + 1, by omega, ⟨by rw [e6], rfl⟩, by omega⟩
  · have hlt : n = 39 := by simp at h1; omega
    subst hlt
    simp
    exact retK_all hK

def enc (n : BitVec 32) : BitVec 64 := BitVec.setWidth 64 n ||| (BitVec.ofNat 64 (syn (BitVec.setWidth 64 n) 39)) <<< 32

theorem c_rEnc (G : Glob) (n : BitVec 32) (h : List Blk) (K : Value → List Blk → Prop) (hK : K (.int .u64 (bn (enc n))) h) : CC Tryd.prog G 37 [.int .u32 (bn n)] h K := by
  refine CC.introB Tryd.func37 (by rfl) rfl 10 rfl (fun hB hbA => ?_)
  simp
  refine c_rSyn G _ h _ ?_
  simp
  exact retK_all hK

/-- The code word that was meant, and its status. -/
def mendW (w : BitVec 64) : BitVec 64 := match fnd (syn (w &&& 549755813887#64) 39) 39 with
  | some k => if syn (w &&& 549755813887#64) 39 = 0 then w &&& 549755813887#64 else (w &&& 549755813887#64) ^^^ (1#64 <<< k)
  | none => w &&& 549755813887#64
def mendS (w : BitVec 64) : Nat := if syn (w &&& 549755813887#64) 39 = 0 then 0 else match fnd (syn (w &&& 549755813887#64) 39) 39 with
  | some _ => 1
  | none => 2

theorem c_rMend (G : Glob) (w : BitVec 64) (h : List Blk) (K : Value → List Blk → Prop) (hK : K (.tuple #[.int .u64 (bn (mendW w)), .int .i64 (mendS w : Int)]) h) : CC Tryd.prog G 36 [.int .u64 (bn w)] h K := by
  refine CC.introB Tryd.func36 (by rfl) rfl 26 rfl (fun hB hbA => ?_)
  unfold mendW mendS at hK
  generalize hx : w &&& 549755813887#64 = x at hK
  have hs := syn_lt x 39
  simp [hx]
  refine c_rSyn G _ h _ ?_
  simp
  refine condP_split (fun h1 => ?_) (fun h1 => ?_)
  · have h0 : syn x 39 = 0 := by simp at h1; omega
    rw [h0] at hK
    simp at hK
    simp
    refine retK_all ?_
    cases hf : fnd 0 39 <;> simpa [hf] using hK
  · have h0 : syn x 39 ≠ 0 := by simp at h1; omega
    simp [h0] at hK
    simp
    refine loopP_intro (α := Nat) (fun n => ⟨[some (.int .u64 (bn x)), none, some (.int .u64 0), some (.int .i64 0), some (.int .i64 (syn x 39 : Int)), some (.int .i64 (n : Int)), none, none, none, none, none, none, none, none, none, none, none, none, none, none, none, none, none, none, none, none, none], h⟩) (fun n => n ≤ 39 ∧ fnd (syn x 39) n = none) (fun n => 39 - n) 0 (by simp [fnd]) (by simp) ?_
    rintro n ⟨hn, hf⟩
    simp
    refine condP_split (fun h1 => ?_) (fun h1 => ?_)
    · have hlt : n < 39 := by simp at h1; omega
      have e5 : (BitVec.ofNat 64 n).toNat = n := by rw [BitVec.toNat_ofNat]; omega
      have e9 : IntKind.i64.wrap ((n : Int) + 1) = ((n + 1 : Nat) : Int) := by rw [wrap_i64 (by omega)]; rfl
      simp
      refine c_Column G n hlt h _ ?_
      simp
      refine condP_split (fun h2 => ?_) (fun h2 => ?_)
      · have h3 : colT n = syn x 39 := by simp at h2; omega
        rw [fnd_hit hf h3 39 hlt] at hK
        simp [e5]
        refine retK_all ?_
        simpa using hK
      · have h3 : colT n ≠ syn x 39 := by simp at h2; omega
        simp [e9]
        exact ⟨n + 1, ⟨by omega, fnd_miss hf h3⟩, rfl, by omega⟩
    · have hlt : n = 39 := by simp at h1; omega
      subst hlt
      simp
      refine retK_all ?_
      simpa [hf] using hK
end Go.Proofs.YtkcdcogmnplhjaaDoor
