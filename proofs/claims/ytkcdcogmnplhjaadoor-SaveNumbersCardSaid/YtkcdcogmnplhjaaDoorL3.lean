/-
  Walks: chapter 17's runs: known.
-/
import Derived.Test.YtkcdcogmnplhjaaDoorL2
namespace Go.Proofs.YtkcdcogmnplhjaaDoor
open Go
set_option linter.unusedSimpArgs false
set_option linter.unusedVariables false
set_option linter.unnecessarySimpa false
set_option maxRecDepth 10000

def kRegs : List (BitVec 32) := (List.replicate 32 0#32).set 5 9
def kCsrs : List (BitVec 32) := (List.replicate 5 0#32).set 0 1
def kS0 : Sv := ⟨Sv.new.row.ld, 0⟩
def kS1 : Sv := kS0.save (svL 4 kRegs kCsrs 7)
def kS2 : Sv := kS1.flip 1521
def kS3 : Sv := ⟨kS2.row.ld, 0⟩
theorem kf1 : ldR Sv.new.row.ldS Sv.new.row.ldL = .tuple #[u32 0, .agg ⟨(List.replicate 32 0#32).map u32⟩, .agg ⟨(List.replicate 5 0#32).map u32⟩, .int .i64 0, .bool true] := by
  have h1 : Sv.new.row.ldS = true := by decide +kernel
  have h2 : Sv.new.row.ldL = List.replicate 37 0#32 ++ [0#32, 1526595584#32] := by decide +kernel
  rw [h1, h2]; rfl
theorem kf2 : ldR kS2.row.ldS kS2.row.ldL = .tuple #[u32 4, .agg ⟨kRegs.map u32⟩, .agg ⟨kCsrs.map u32⟩, .int .i64 7, .bool true] := by
  have h1 : kS2.row.ldS = true := by decide +kernel
  have h2 : kS2.row.ldL = 4#32 :: (kRegs.drop 1 ++ (kCsrs ++ [7#32, 1526595591#32])) := by decide +kernel
  rw [h1, h2]; rfl
theorem kf3 : getS kS3.row.ws 0 = 0 := by decide +kernel
theorem kf4 : flipB kS1.row.ws 1521 = true ∧ flipB kS3.row.ws 3081 = false := by decide +kernel
theorem kOk0 : kS0.Ok := Sv.ld_ok Sv.new_ok
theorem kOk1 : kS1.Ok := Sv.save_ok kOk0 _
theorem kOk2 : kS2.Ok := Sv.flip_ok kOk1 _
theorem kOk3 : kS3.Ok := Sv.ld_ok kOk2
theorem kRegs_len : kRegs.length = 32 := rfl
theorem kCsrs_len : kCsrs.length = 5 := rfl

set_option maxHeartbeats 1000000 in
theorem c_known17 (G : Glob) (hT : TZC G) (h : List Blk) (K : Value → List Blk → Prop) (hK : K (.bool true) h) : CC Tryd.prog G 6 [] h K := by
  refine CC.introB Tryd.func6 (by rfl) rfl 88 rfl (fun hB hbA => ?_)
  simp
  refine c_sNew G hT h _ ?_
  have a0 := at_new h (encVi h.length Sv.new)
  have g0 := Gr.app h (encVi h.length Sv.new) []
  have n0 : (h ++ encVi h.length Sv.new).length = h.length + 3 := by simp
  generalize h ++ encVi h.length Sv.new = h0 at a0 g0 n0
  simp
  refine c_sBits G h0 h.length Sv.new Sv.new_ok a0 _ ?_
  simp
  refine c_sLoad G hT h0 h.length Sv.new Sv.new_ok a0 _ fun h1 a1 f1 => ?_
  rw [kf1]
  have n1 : h1.length = h.length + 3 := by rw [f1.len, n0]
  simp
  generalize hh : h1 ++ [_, _, _] = h2
  have a2 : At h2 h.length (encVi h.length kS0) := by rw [← hh]; exact a1.app _
  have g2 : Gr h h2 [] := by rw [← hh]; exact (g0.then f1 fun j hj _ => by simp; omega).trans (Gr.app _ _ _)
  have n2 : h2.length = h.length + 6 := by rw [← hh]; simp [n1]
  clear hh
  have hr : (Value.agg ⟨kRegs.map u32⟩) = .agg ⟨[.int .u32 0, .int .u32 0, .int .u32 0, .int .u32 0, .int .u32 0, .int .u32 9, .int .u32 0, .int .u32 0, .int .u32 0, .int .u32 0, .int .u32 0, .int .u32 0, .int .u32 0, .int .u32 0, .int .u32 0, .int .u32 0, .int .u32 0, .int .u32 0, .int .u32 0, .int .u32 0, .int .u32 0, .int .u32 0, .int .u32 0, .int .u32 0, .int .u32 0, .int .u32 0, .int .u32 0, .int .u32 0, .int .u32 0, .int .u32 0, .int .u32 0, .int .u32 0]⟩ := rfl
  have hc : (Value.agg ⟨kCsrs.map u32⟩) = .agg ⟨[.int .u32 1, .int .u32 0, .int .u32 0, .int .u32 0, .int .u32 0]⟩ := rfl
  rw [← hr, ← hc]
  refine c_sSave G hT h2 h.length kS0 kOk0 a2 4 kRegs kCsrs kRegs_len kCsrs_len 7 _ fun h3 a3 f3 => ?_
  simp
  refine c_sFlip G h3 h.length kS1 kOk1 a3 1521 _ fun h4 a4 f4 => ?_
  rw [kf4.1]
  simp
  refine c_sLoad G hT h4 h.length kS2 kOk2 a4 _ fun h5 a5 f5 => ?_
  rw [kf2]
  have n5 : h5.length = h.length + 6 := by rw [f5.len, f4.len, f3.len, n2]
  have g5 : Gr h h5 [] := ((g2.then f3 fun j hj _ => by simp; omega).then f4 fun j hj _ => by simp; omega).then f5 fun j hj _ => by simp; omega
  have e5 : ∀ h, kRegs[5]'h = 9#32 := fun _ => rfl
  have e0 : ∀ h, kCsrs[0]'h = 1#32 := fun _ => rfl
  simp [kRegs_len, kCsrs_len, e5, e0]
  generalize hh : h5 ++ [_, _] = h6
  have a6 : At h6 h.length (encVi h.length kS3) := by rw [← hh]; exact a5.app _
  have g6 : Gr h h6 [] := by rw [← hh]; exact g5.trans (Gr.app _ _ _)
  clear hh
  refine c_sFlip G h6 h.length kS3 kOk3 a6 3081 _ fun h7 a7 f7 => ?_
  rw [kf4.2]
  simp
  have e7 : kS3.flip 3081 = kS3 := by
    have : kS3.row.flip 3081 = kS3.row := by unfold Row.flip; rw [flipW_out kf4.2]
    rw [Sv.flip, this]
  rw [e7] at a7
  refine c_sScrub G hT h7 h.length kS3 kOk3 a7 _ fun h8 a8 f8 => ?_
  have e8 : getS kS3.row.ws (kS3.ix : Int) = 0 := kf3
  simp [e8]
  exact retK_zero hB ((g6.then f7 fun j hj _ => by simp; omega).then f8 fun j hj _ => by simp; omega) (by simp [bd]) hK
end Go.Proofs.YtkcdcogmnplhjaaDoor
