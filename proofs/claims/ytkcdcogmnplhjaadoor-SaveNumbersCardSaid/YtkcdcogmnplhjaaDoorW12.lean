/-
  Walks: checkpoints of the document: Save.
-/
import Derived.Test.YtkcdcogmnplhjaaDoorW11
namespace Go.Proofs.YtkcdcogmnplhjaaDoor
open Go
set_option linter.unusedSimpArgs false
set_option linter.unusedVariables false
set_option linter.unnecessarySimpa false
set_option maxRecDepth 10000

theorem src_u32 {h : List Blk} {q o n : Nat} {b : Blk} {l : List (BitVec 32)} (hb : h[q]? = some b) (hc : b.c = l.map u32) (hn : o + n ≤ l.length) : srcCells h ⟨q, o, none⟩ n = some (((l.drop o).take n).flatMap (fun w => [u32 w])) := by
  rw [flat32]
  simp only [srcCells, hb]
  rw [hc, if_pos (by simpa using hn), List.map_take, List.map_drop]

set_option maxHeartbeats 600000 in
theorem c_rSave (G : Glob) (h : List Blk) (m : Nat) (s : Sv) (hs : s.Ok) (H : At h m (encVr m s)) (pc : BitVec 32) (regs csrs : List (BitVec 32)) (hr : regs.length = 32) (hc : csrs.length = 5) (n : Int) (K : Value → List Blk → Prop)
    (hK : ∀ h', At h' m (encVr m (s.save (svL pc regs csrs n))) → Fr h h' [(m, 3)] → K (.tuple #[]) h') :
    CC Tryd.prog G 16 [.pointer (some ⟨m + 2, 0, none⟩), u32 pc, .agg ⟨regs.map u32⟩, .agg ⟨csrs.map u32⟩, .int .i64 n] h K := by
  refine CC.introB Tryd.func16 (by rfl) rfl 45 rfl (fun hB hbA => ?_)
  have hm := encV_le H
  simp [rep_one, hr]
  have H0 := H.app [⟨true, 27, regs.map u32⟩, ⟨true, 28, csrs.map u32⟩, ⟨true, 26, [u32 pc]⟩]
  have G0 := Gr.app h [⟨true, 27, regs.map u32⟩, ⟨true, 28, csrs.map u32⟩, ⟨true, 26, [u32 pc]⟩] [(m, 3)]
  have L0 := at_new h [⟨true, 27, regs.map u32⟩, ⟨true, 28, csrs.map u32⟩, ⟨true, 26, [u32 pc]⟩]
  have N0 : (h ++ [⟨true, 27, regs.map u32⟩, ⟨true, 28, csrs.map u32⟩, ⟨true, 26, [u32 pc]⟩] : List Blk).length = h.length + 3 := by simp
  generalize h ++ [_, _, _] = h0 at H0 G0 L0 N0
  simp only [at_cons, at_nil, and_true] at L0
  have S0 : Sl32 (h.length + 2) h0 [pc] (.slice (some ⟨h.length + 2, 0, none⟩) 1 1) := .inr ⟨h.length + 2, 1, [], rfl, Nat.le_refl _, L0.2.2, by simp, by simp, rfl⟩
  have hx1 : (regs.drop 1).length = 31 := by simp [hr]
  refine ⟨rfl, ?_⟩
  have hs1 : srcCells h0 ⟨h.length, 1, none⟩ ((regs.drop 1).length * 1) = some ((regs.drop 1).flatMap (fun w => [u32 w])) := by
    rw [src_u32 L0.1 rfl (by omega), hx1, List.take_of_length_le (by omega)]
  have ha := fun K => app_sl (t := 51) (f := fun w => [u32 w]) qem51 (fun _ => rfl) (fun _ => rfl) (fun _ => rfl) (h.length + 2) h0 [pc] (regs.drop 1) (.slice (some ⟨h.length + 2, 0, none⟩) 1 1) ⟨h.length, 1, none⟩ 31 (by omega) S0 hs1 (by simp; omega) (by simp; omega) K
  rw [hx1] at ha
  refine ha _ fun h1 v1 S1 e1 l1 b1 => ?_
  have hv1 : ∀ q, slB v1 = some q → h.length + 2 ≤ q := fun q hq => (S1.blk hq).1
  have E1 : ∀ k, k < h.length + 2 → h1[k]? = h0[k]? := fun k hk => e1 k (by omega) (by simp [slB]; omega)
  have M1 : h1[h.length + 1]? = _ := (E1 _ (by omega)).trans L0.2.1
  have N1 : h.length + 3 ≤ h1.length := by omega
  simp [hc]
  refine ⟨rfl, ?_⟩
  have hs2 : srcCells h1 ⟨h.length + 1, 0, none⟩ (csrs.length * 1) = some (csrs.flatMap (fun w => [u32 w])) := by
    rw [src_u32 M1 rfl (by omega), List.drop_zero, List.take_of_length_le (by omega)]
  have ha2 := fun K => app_sl (t := 51) (f := fun w => [u32 w]) qem51 (fun _ => rfl) (fun _ => rfl) (fun _ => rfl) (h.length + 2) h1 ([pc] ++ regs.drop 1) csrs v1 ⟨h.length + 1, 0, none⟩ 5 (by omega) S1 hs2 (by simp; omega) (by simp; omega) K
  rw [hc] at ha2
  refine ha2 _ fun h2 v2 S2 e2 l2 b2 => ?_
  have E2 : ∀ k, k < h.length + 2 → h2[k]? = h1[k]? := fun k hk => e2 k (by omega) (fun e => by have := hv1 _ e; omega)
  have N2 : h.length + 3 ≤ h2.length := by omega
  have hv2 : ∀ q, slB v2 = some q → h.length + 2 ≤ q ∧ q < h2.length := fun q hq => S2.blk hq
  simp [rep_one]
  generalize hh : h2 ++ [_] = h3
  have emx : (if (if 2147483647 < n then 2147483647 else n) < 0 then 0 else if 2147483647 < n then 2147483647 else n) = max 0 (min n 2147483647) := by omega
  rw [emx] at hh
  have hh' : h2 ++ [⟨true, 26, [u32 (cntN n)]⟩] = h3 := hh
  clear hh
  have S3 : Sl32 (h.length + 2) h3 ([pc] ++ regs.drop 1 ++ csrs) v2 := S2.mono fun q _ hq => by rw [← hh']; exact List.getElem?_append_left hq
  have E3 : ∀ k, k < h2.length → h3[k]? = h2[k]? := fun k hk => by rw [← hh']; exact List.getElem?_append_left hk
  have N3 : h3.length = h2.length + 1 := by rw [← hh']; simp
  have M3 : h3[h2.length]? = some ⟨true, 26, [u32 (cntN n)]⟩ := by rw [← hh']; simp
  refine ⟨rfl, ?_⟩
  have hs3 : srcCells h3 ⟨h2.length, 0, none⟩ ([cntN n].length * 1) = some ([cntN n].flatMap (fun w => [u32 w])) := by
    rw [src_u32 (l := [cntN n]) M3 rfl (by simp)]; rfl
  refine app_sl (t := 51) (f := fun w => [u32 w]) qem51 (fun _ => rfl) (fun _ => rfl) (fun _ => rfl) (h.length + 2) h3 ([pc] ++ regs.drop 1 ++ csrs) [cntN n] v2 ⟨h2.length, 0, none⟩ 1 (by omega) S3 hs3 (by simp; omega) (by simp; omega) _ fun h4 v4 S4 e4 l4 b4 => ?_
  have E4 : ∀ k, k < h.length + 2 → h4[k]? = h3[k]? := fun k hk => e4 k (by omega) (fun e => by have := (hv2 _ e).1; omega)
  have E5 : ∀ k, k < h.length + 2 → h4[k]? = h0[k]? := fun k hk => by rw [E4 k hk, E3 k (by omega), E2 k hk, E1 k hk]
  have hl : [pc] ++ regs.drop 1 ++ csrs ++ [cntN n] = svL pc regs csrs n := by simp [svL]
  rw [hl] at S4
  have H4 : At h4 m (encVr m s) := H0.same fun k h1 h2 => E5 k (by simp at h2; omega)
  have G4 : Gr h h4 [(m, 3)] := ⟨by omega, fun k hk ho => by rw [E5 k (by omega)]; exact G0.same k hk ho⟩
  have hll := svL_len hr hc pc n
  generalize svL pc regs csrs n = l at S4 hK hll
  clear ha ha2 hs1 hs2 hs3 S0 S1 S2 S3 e1 e2 e4 hh' E1 E2 E3 E4 E5 M1 M3 H0 G0 L0 b1 b2 b4 hl emx hv1 hv2 hx1
  have P4 := (encV_get H4).2
  simp [P4]
  refine c_rGet G h4 m s.row (encV_get H4).1 78 _ fun h5 H5 hf5 => ?_
  have H5v := encV_row H4 H5 hf5
  have S5 : Sl32 (h.length + 2) h5 l v4 := S4.mono fun q hq _ => hf5.same q (by have := (S4.blk hq).1; simp; omega)
  have hc1 := s.row.ldc_lt
  have e5 : bn (getN s.row.ws 78 &&& 1#32) = (s.row.ldc : Int) := rfl
  have e6 : IntKind.i64.wrap (s.row.ldc : Int) = (s.row.ldc : Int) := wrap_i64 (by omega)
  have e8 : IntKind.i64.wrap (1 - (s.row.ldc : Int)) = ((1 - s.row.ldc : Nat) : Int) := by rw [wrap_i64 (by omega)]; omega
  rcases S5 with ⟨h0', _⟩ | ⟨q, cap, rest, rfl, hnq, hq, hcap, hrl, hfl⟩
  · rw [h0'] at hll; cases hll
  rw [flat32] at hq
  rw [hll]
  simp [e5, e6, e8]
  refine c_rput G h5 m ⟨s.row.get 78, s.ix⟩ ⟨by simp [hs.len], hs.lt⟩ H5v (1 - s.row.ldc) (by omega) q cap _ l rest hll hq rfl (by omega) _ fun h6 H6 hf6 => ?_
  have P6 := (encV_get H6).2
  simp [P6]
  refine c_rPut G h6 m _ (encV_get H6).1 78 (BitVec.ofNat 32 (1 - s.row.ldc)) _ fun h7 H7 hf7 => ?_
  have I7 := encV_row H6 H7 hf7
  simp
  have G7 : Gr h h7 [(m, 3)] := ((G4.then hf5 fun j _ hj => by simp at hj ⊢; omega).then hf6 fun j _ hj => hj).then hf7 fun j _ hj => by simp at hj ⊢; omega
  have e : encVr m ⟨((s.row.get 78).copyIn (1 - s.row.ldc) l).put 78 (BitVec.ofNat 32 (1 - s.row.ldc)), s.ix⟩ = encVr m (s.save l) := by rw [Sv.save, Row.save]
  refine retK_one (l := encVr m (s.save l)) hB (by rw [← e]; exact I7) rfl G7 hm (encV_bd _ _ _ (by omega)) (by simp [bd, bds]) hK
end Go.Proofs.YtkcdcogmnplhjaaDoor
