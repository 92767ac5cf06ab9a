/-
  Walks: checkpoints of the document: Scrub, put, NewSave, read.
-/
import Derived.Test.YtkcdcogmnplhjaaDoorW8
namespace Go.Proofs.YtkcdcogmnplhjaaDoor
open Go
set_option linter.unusedSimpArgs false
set_option linter.unusedVariables false
set_option linter.unnecessarySimpa false
set_option maxRecDepth 10000

abbrev Sl32 (n0 : Nat) (h : List Blk) (l : List (BitVec 32)) (v : Value) : Prop := Sl 26 1 (fun w => [u32 w]) n0 h l v
theorem flat32 (l : List (BitVec 32)) : l.flatMap (fun w => [u32 w]) = l.map u32 := by induction l with | nil => rfl | cons x l ih => simp [ih]

theorem c_mark (G : Glob) (h : List Blk) (n : BitVec 32) (K : Value → List Blk → Prop) (hK : K (u32 (mark n)) h) : CC Tryd.prog G 33 [u32 n] h K := by
  refine CC.introB Tryd.func33 (by rfl) rfl 5 rfl (fun hB hbA => ?_)
  simp
  exact retK_all hK

theorem c_rScrub (G : Glob) (h : List Blk) (m : Nat) (s : Sv) (hs : s.Ok) (H : At h m (encVr m s)) (K : Value → List Blk → Prop)
    (hK : ∀ h', At h' m (encVr m s.scrub) → Fr h h' [(m, 3)] → K (.int .i64 (getS s.row.ws s.ix : Int)) h') :
    CC Tryd.prog G 12 [.pointer (some ⟨m + 2, 0, none⟩)] h K := by
  refine CC.introB Tryd.func12 (by rfl) rfl 26 rfl (fun hB hbA => ?_)
  obtain ⟨H1, H2⟩ := encV_get H
  have hlt := hs.lt
  simp [H2]
  refine drawE_intro (.st 0 0 <| .st 1 0 <| .st 2 0 <| .st 3 0 <| .st 4 0 <| .st 5 0 <| .st 6 0 <| .st 7 0 <| .st 8 2 <| .st 9 0 <| .st 10 0 <| .st 11 0 <| .st 12 0 <| .st 13 0 .done) (by kernel_rfl) (by kernel_rfl) (by kernel_rfl) ?_
  simp [H2]
  refine c_rGet G h m s.row H1 s.ix _ fun h' H' hf => ?_
  have Hv := encV_row H H' hf
  obtain ⟨_, H3⟩ := encV_get Hv
  have e9 : IntKind.i64.wrap ((s.ix : Int) + 1) = ((s.ix + 1 : Nat) : Int) := by rw [wrap_i64 (by omega)]; rfl
  have e4 : Int.tmod ((s.ix + 1 : Nat) : Int) 79 = (((s.ix + 1) % 79 : Nat) : Int) := rfl
  simp [-Int.natCast_add, -Int.natCast_mul, -Int.natCast_emod, -Int.natCast_ediv, H3, e9, e4]
  exact retK_all (hK _ (encV_ix Hv ((s.ix + 1) % 79)) ((fr23 hf).trans (Fr.set (by simp; omega))))

theorem c_rput (G : Glob) (h : List Blk) (m : Nat) (s : Sv) (hs : s.Ok) (H : At h m (encVr m s)) (c : Nat) (hc : c < 2) (q cap : Nat) (b : Blk) (l : List (BitVec 32)) (z : List Value) (hl : l.length = 38)
    (hq : h[q]? = some b) (hb : b.c = l.map u32 ++ z) (hqm : q < m ∨ m + 3 ≤ q) (K : Value → List Blk → Prop)
    (hK : ∀ h', At h' m (encVr m ⟨s.row.copyIn c l, s.ix⟩) → Fr h h' [(m, 3)] → K (.tuple #[]) h') :
    CC Tryd.prog G 21 [.pointer (some ⟨m + 2, 0, none⟩), .int .i64 (c : Int), .slice (some ⟨q, 0, none⟩) 38 cap] h K := by
  refine CC.introB Tryd.func21 (by rfl) rfl 35 rfl (fun hB hbA => ?_)
  have e9 : IntKind.i64.wrap (39 * (c : Int)) = ((39 * c : Nat) : Int) := by rw [wrap_i64 (by omega)]; omega
  simp
  refine loopP_m [10, 11, 6, 12, 13, 14, 15, 16, 17, 18, 19, 20, 21, 22, 23, 24, 25, 9] (α := List Blk × Nat) (fun a => [(9, .int .i64 (a.2 : Int))]) (fun a => a.1) (fun a => a.2 ≤ 38 ∧ At a.1 m (encVr m ⟨s.row.puts (39 * c) l a.2, s.ix⟩) ∧ Fr h a.1 [(m, 3)]) (fun a => 38 - a.2) (h, 0) ⟨by simp, H, Fr.refl _ _⟩ (by simp) ?_
  rintro ⟨h', k⟩ ⟨hk, H, hf⟩
  simp only at hk H hf
  obtain ⟨H1, H2⟩ := encV_get H
  have hq' : h'[q]? = some b := by rw [hf.same q (by simp; omega)]; exact hq
  simp [-Int.natCast_add, -Int.natCast_mul, -Int.natCast_emod, -Int.natCast_ediv]
  refine condP_split (fun h1 => ?_) (fun h1 => ?_)
  · have hlt : k < 38 := by simp at h1; omega
    have hlt' : (k : Int) < 38 := by omega
    have e2 : IntKind.i64.wrap (((39 * c : Nat) : Int) + (k : Int)) = ((39 * c + k : Nat) : Int) := by rw [wrap_i64 (by omega)]; omega
    have e3 : IntKind.i64.wrap ((k : Int) + 1) = ((k + 1 : Nat) : Int) := by rw [wrap_i64 (by omega)]; omega
    obtain ⟨v, hv⟩ : ∃ v, l[k]'(by omega) = v := ⟨_, rfl⟩
    have hkl : k < l.length := by omega
    have hvd : l.getD k 0 = v := by rw [List.getD_eq_getElem?_getD, List.getElem?_eq_getElem hkl, hv]; rfl
    have hv' : b.c[k]? = some (u32 v) := by rw [hb, List.getElem?_append_left (by simpa using hkl), List.getElem?_map, List.getElem?_eq_getElem hkl, hv]; rfl
    simp [-Int.natCast_add, -Int.natCast_mul, -Int.natCast_emod, -Int.natCast_ediv]
    refine drawE_intro (.st 0 0 <| .st 1 0 <| .st 2 0 <| .st 3 0 <| .st 4 0 <| .st 5 0 <| .st 6 0 <| .st 7 0 <| .st 8 0 <| .st 9 0 <| .st 10 0 <| .st 11 0 <| .st 12 2 .done) (by kernel_rfl) (by kernel_rfl) (by kernel_rfl) ?_
    simp [-Int.natCast_add, -Int.natCast_mul, -Int.natCast_emod, -Int.natCast_ediv, H2, hq', hv', hlt', e9, e2]
    refine c_rPut G h' m _ H1 _ v _ fun h2 H3 hf2 => ?_
    simp [-Int.natCast_add, -Int.natCast_mul, -Int.natCast_emod, -Int.natCast_ediv, e3]
    refine ⟨h2, k + 1, ⟨by omega, ?_, hf.trans (fr23 hf2)⟩, by simp, by omega⟩
    have := encV_row H H3 hf2
    rw [← hvd] at this
    exact this
  · have hlt : k = 38 := by simp at h1; omega
    subst hlt
    have e2 : IntKind.i64.wrap (((39 * c : Nat) : Int) + 38) = ((39 * c + 38 : Nat) : Int) := by rw [wrap_i64 (by omega)]; omega
    obtain ⟨v, hv⟩ : ∃ v, l[37]'(by omega) = v := ⟨_, rfl⟩
    have hkl : 37 < l.length := by omega
    have hvd : l.getD 37 0 = v := by rw [List.getD_eq_getElem?_getD, List.getElem?_eq_getElem hkl, hv]; rfl
    have hv' : b.c[37]? = some (u32 v) := by rw [hb, List.getElem?_append_left (by simpa using hkl), List.getElem?_map, List.getElem?_eq_getElem hkl, hv]; rfl
    simp [-Int.natCast_add, -Int.natCast_mul, -Int.natCast_emod, -Int.natCast_ediv]
    refine drawE_intro (.st 0 0 <| .st 1 0 <| .st 2 0 <| .st 3 0 <| .st 4 0 <| .st 5 0 <| .st 6 0 <| .st 7 0 <| .st 8 0 <| .st 9 0 <| .st 10 1 <| .st 11 1 .done) (by kernel_rfl) (by kernel_rfl) (by kernel_rfl) ?_
    simp [-Int.natCast_add, -Int.natCast_mul, -Int.natCast_emod, -Int.natCast_ediv, H2, hq', hv', e9, e2]
    refine c_mark G h' v _ ?_
    simp [-Int.natCast_add, -Int.natCast_mul, -Int.natCast_emod, -Int.natCast_ediv, H2, hq', hv', seg]
    refine c_rPut G h' m _ H1 _ (mark v) _ fun h2 H3 hf2 => ?_
    have hq2 : h2[q]? = some b := by rw [hf2.same q (by simp; omega)]; exact hq'
    have Hv := encV_row H H3 hf2
    have H4 := (encV_get Hv).2
    simp [-Int.natCast_add, -Int.natCast_mul, -Int.natCast_emod, -Int.natCast_ediv, H4, H2, hq2, hq', seg]
    rw [← hvd] at Hv
    exact retK_all (hK h2 Hv (hf.trans (fr23 hf2)))

def zeroL : List (BitVec 32) := List.replicate 38 0
theorem zeroL_len : zeroL.length = 38 := rfl
theorem new_same : (((Row.new 79).copyIn 0 zeroL).copyIn 1 zeroL) = Sv.new.row := by
  show Row.mk _ _ = Row.mk _ _
  congr 1
theorem c_rNewSave (G : Glob) (h : List Blk) (K : Value → List Blk → Prop) (hK : K (.pointer (some ⟨h.length + 2, 0, none⟩)) (h ++ encVr h.length Sv.new)) :
    CC Tryd.prog G 8 [] h K := by
  refine CC.introB Tryd.func8 (by rfl) rfl 12 rfl (fun hB hbA => ?_)
  simp
  refine c_rNew G h 79 (by decide) _ ?_
  simp [rep_one, -List.reduceReplicate]
  have H0 := at_new h (encVr h.length ⟨Row.new 79, 0⟩ ++ [⟨true, 26, List.replicate 38 (.int .u32 0)⟩])
  have G0 := Gr.app h (encVr h.length ⟨Row.new 79, 0⟩ ++ [⟨true, 26, List.replicate 38 (.int .u32 0)⟩]) []
  have N0 : (h ++ (encVr h.length ⟨Row.new 79, 0⟩ ++ [⟨true, 26, List.replicate 38 (.int .u32 0)⟩]) : List Blk).length = h.length + 4 := by simp
  generalize hh : h ++ (encR _ _ _ ++ _) = h0
  have hh' : h ++ (encVr h.length ⟨Row.new 79, 0⟩ ++ [⟨true, 26, List.replicate 38 (.int .u32 0)⟩]) = h0 := by rw [← hh]; simp [encV]
  rw [hh'] at H0 G0 N0
  rw [at_append] at H0
  have hz : List.replicate 38 (Value.int .u32 0) = zeroL.map u32 := rfl
  rw [hz] at H0
  have hk1 : ∀ {j : Nat}, j = 0 → Sv.Ok ⟨Row.new 79, j⟩ := by rintro j rfl; exact ⟨by simp [Row.new], by decide⟩
  refine c_rput G h0 h.length ⟨Row.new 79, 0⟩ (hk1 rfl) H0.1 0 (by decide) (h.length + 3) 38 _ zeroL [] rfl (by simpa using H0.2) (by simp) (by omega) _ fun h1 H1 hf1 => ?_
  have N1 : h1.length = h.length + 4 := by rw [hf1.len, N0]
  simp [N1, rep_one, -List.reduceReplicate]
  have H2 := H1.app [⟨true, 26, List.replicate 38 (.int .u32 0)⟩]
  have G2 : Gr h (h1 ++ [⟨true, 26, List.replicate 38 (.int .u32 0)⟩]) [] := (G0.then hf1 fun j hj _ => by simp; omega).trans (Gr.app _ _ _)
  have L2 : (h1 ++ [⟨true, 26, zeroL.map u32⟩] : List Blk)[h.length + 4]? = some ⟨true, 26, zeroL.map u32⟩ := by rw [← N1]; simp
  rw [hz] at H2 G2 ⊢
  generalize (h1 ++ [⟨true, 26, zeroL.map u32⟩] : List Blk) = h2 at H2 G2 L2
  refine c_rput G h2 h.length _ ⟨by simp [Row.new], by decide⟩ H2 1 (by decide) (h.length + 4) 38 _ zeroL [] rfl L2 (by simp) (by omega) _ fun h3 H3 hf3 => ?_
  simp
  rw [new_same] at H3
  exact retK_new hB (G2.then hf3 fun j hj _ => by simp; omega) H3 (encV_bd _ _ _ (by simp)) (by simp [bd, Addr.bd]) hK
end Go.Proofs.YtkcdcogmnplhjaaDoor
