/-
  Walks: the rows of the program under proof.
-/
import Derived.Test.YtkcdcogmnplhjaaDoorW2
import Derived.Test.YtkcdcogmnplhjaaDoorW3
namespace Go.Proofs.YtkcdcogmnplhjaaDoor
open Go
set_option linter.unusedSimpArgs false
set_option linter.unusedVariables false
set_option linter.unnecessarySimpa false
set_option maxRecDepth 10000

theorem c_iThere (G : Glob) (h : List Blk) (m : Nat) (x : Row) (H : At h m (encR 66 m x)) (i : Int) (K : Value → List Blk → Prop)
    (hK : K (.bool (putB x.ws i)) h) : CC Tryd.prog G 31 [.pointer (some ⟨m + 1, 0, none⟩), .int .i64 i] h K := by
  refine CC.introB Tryd.func31 (by rfl) rfl 14 rfl (fun hB hbA => ?_)
  simp [encR] at H
  obtain ⟨hb, hr⟩ := H
  simp
  by_cases h0 : 0 ≤ i
  · simp [h0, hr]
    simp [putB, h0] at hK
    exact retK_all hK
  · simp [h0]
    simp [putB, h0] at hK
    exact retK_all hK

theorem c_iPut (G : Glob) (hT : TZC G) (h : List Blk) (m : Nat) (x : Row) (H : At h m (encR 66 m x)) (i : Int) (n : BitVec 32) (K : Value → List Blk → Prop)
    (hK : ∀ h', At h' m (encR 66 m (x.put i n)) → Fr h h' [(m, 2)] → K (.bool (putB x.ws i)) h') :
    CC Tryd.prog G 19 [.pointer (some ⟨m + 1, 0, none⟩), .int .i64 i, u32 n] h K := by
  refine CC.introB Tryd.func19 (by rfl) rfl 18 rfl (fun hB hbA => ?_)
  have H0 := H
  simp [encR] at H
  obtain ⟨hb, hr⟩ := H
  simp
  refine c_iThere G h m x H0 i _ ?_
  simp
  refine condP_split (fun h1 => ?_) (fun h1 => ?_)
  · have h1' := h1
    simp [putB] at h1
    obtain ⟨k, rfl⟩ : ∃ n : Nat, i = n := ⟨i.toNat, by omega⟩
    have h2 : k < x.ws.length := by omega
    have e2 : x.put k n = ⟨x.ws.set k (enc n), x.fx⟩ := by simp [Row.put, putW]
    rw [h1', e2] at hK
    simp
    refine drawE_intro (.st 0 0 <| .st 1 0 <| .st 2 0 <| .st 3 0 <| .st 4 0 <| .st 5 0 <| .st 6 1 <| .st 7 0 <| .st 8 2 .done) (by kernel_rfl) (by kernel_rfl) (by kernel_rfl) ?_
    simp [hr, hb, h2]
    refine c_iEnc G hT n h _ ?_
    simp [hr, hb, h2, seg]
    have H1 := encR_put H0 k (enc n)
    refine c_iThere G _ m _ H1 k _ ?_
    have e : putB (x.ws.set k (enc n)) k = true := by simp [putB, h2]
    simp [e]
    exact retK_all (hK _ H1 (Fr.set (by simp; omega)))
  · have e2 : x.put i n = x := by unfold Row.put; rw [putW_out n h1]
    simp
    refine c_iThere G h m x H0 i _ ?_
    simp
    exact retK_all (hK h (e2.symm ▸ H0) (Fr.refl _ _))

theorem c_iPeek (G : Glob) (hT : TZC G) (h : List Blk) (m : Nat) (x : Row) (H : At h m (encR 66 m x)) (i : Int) (K : Value → List Blk → Prop)
    (hK : K (.tuple #[u32 (getN x.ws i), .int .i64 (getS x.ws i : Int)]) h) :
    CC Tryd.prog G 34 [.pointer (some ⟨m + 1, 0, none⟩), .int .i64 i] h K := by
  refine CC.introB Tryd.func34 (by rfl) rfl 18 rfl (fun hB hbA => ?_)
  have H0 := H
  simp [encR] at H
  obtain ⟨hb, hr⟩ := H
  simp
  refine c_iThere G h m x H0 i _ ?_
  by_cases h1 : putB x.ws i = true
  · simp [h1]
    simp [putB] at h1
    obtain ⟨k, rfl⟩ : ∃ n : Nat, i = n := ⟨i.toNat, by omega⟩
    have h2 : k < x.ws.length := by omega
    obtain ⟨w, hg⟩ : ∃ w, x.ws[k]'h2 = w := ⟨_, rfl⟩
    have hw : x.ws[k]? = some w := by rw [List.getElem?_eq_getElem h2, hg]
    obtain ⟨e1, e2, e3⟩ := get_at hw
    rw [e1, e2] at hK
    simp [hr, hb, h2, hg]
    refine c_iDec G hT w h _ ?_
    simp
    exact retK_all hK
  · have h1' : putB x.ws i = false := by simpa using h1
    simp [h1']
    obtain ⟨e1, e2⟩ := getS_out (ws := x.ws) (i := i) (by simp [putB] at h1'; omega)
    rw [e1, e2] at hK
    exact retK_all hK

theorem c_iGet (G : Glob) (hT : TZC G) (h : List Blk) (m : Nat) (x : Row) (H : At h m (encR 66 m x)) (i : Int) (K : Value → List Blk → Prop)
    (hK : ∀ h', At h' m (encR 66 m (x.get i)) → Fr h h' [(m, 2)] → K (.tuple #[u32 (getN x.ws i), .int .i64 (getS x.ws i : Int)]) h') :
    CC Tryd.prog G 22 [.pointer (some ⟨m + 1, 0, none⟩), .int .i64 i] h K := by
  refine CC.introB Tryd.func22 (by rfl) rfl 40 rfl (fun hB hbA => ?_)
  have H0 := H
  simp [encR] at H
  obtain ⟨hb, hr⟩ := H
  simp
  refine c_iPeek G hT h m x H0 i _ ?_
  simp
  refine condP_split (fun h1 => ?_) (fun h1 => ?_)
  · have h3 : getS x.ws i = 1 := by simp at h1; omega
    obtain ⟨k, rfl, h2⟩ : ∃ k : Nat, i = k ∧ k < x.ws.length := by
      by_cases hq : 0 ≤ i ∧ i < x.ws.length
      · exact ⟨i.toNat, by omega, by omega⟩
      · rw [(getS_out hq).1] at h3; cases h3
    obtain ⟨w, hg⟩ : ∃ w, x.ws[k]'h2 = w := ⟨_, rfl⟩
    have hw : x.ws[k]? = some w := by rw [List.getElem?_eq_getElem h2, hg]
    obtain ⟨e1, e2, e3⟩ := get_at hw
    have h5 : mendS w = 1 := e1 ▸ h3
    have e4 : x.get k = ⟨x.ws.set k (mendW w), IntKind.i64.wrap (x.fx + 1)⟩ := by unfold Row.get; rw [if_pos h3, e3, if_pos h5]
    have H1 := encR_put H0 k (mendW w)
    have H2 := encR_fx H1 (IntKind.i64.wrap (x.fx + 1))
    rw [List.length_set] at H2
    have hbl : m < h.length := (List.getElem?_eq_some_iff.1 hb).1
    have hrl : m + 1 < h.length := (List.getElem?_eq_some_iff.1 hr).1
    have := hK _ (e4 ▸ H2) ((Fr.set (by simp; omega)).trans (Fr.set (by simp; omega)))
    simp
    refine drawE_intro (.st 0 0 <| .st 1 0 <| .st 2 0 <| .st 3 0 <| .st 4 0 <| .st 5 0 <| .st 6 0 <| .st 7 0 <| .st 8 0 <| .st 9 0 <| .st 10 0 <| .st 11 0 <| .st 12 1 <| .st 13 0 <| .st 14 0 <| .st 15 0 <| .st 16 0 <| .st 17 2 .done) (by kernel_rfl) (by kernel_rfl) (by kernel_rfl) ?_
    simp [hr, hb, h2, hg]
    refine c_iMend G hT w h _ ?_
    simp [hr, hb, h2, hg, seg, h3]
    rw [h3] at this
    exact retK_all this
  · have h3 : getS x.ws i ≠ 1 := by simp at h1; omega
    simp
    exact retK_all (hK h ((Row.get_no h3).symm ▸ H0) (Fr.refl _ _))

theorem c_iScrub (G : Glob) (hT : TZC G) (h : List Blk) (m : Nat) (x : Row) (H : At h m (encR 66 m x)) (i : Int) (K : Value → List Blk → Prop)
    (hK : ∀ h', At h' m (encR 66 m (x.get i)) → Fr h h' [(m, 2)] → K (.int .i64 (getS x.ws i : Int)) h') :
    CC Tryd.prog G 26 [.pointer (some ⟨m + 1, 0, none⟩), .int .i64 i] h K := by
  refine CC.introB Tryd.func26 (by rfl) rfl 12 rfl (fun hB hbA => ?_)
  simp
  refine c_iGet G hT h m x H i _ fun h' H' hu => ?_
  simp
  exact retK_all (hK h' H' hu)

theorem c_iLen (G : Glob) (h : List Blk) (m : Nat) (x : Row) (H : At h m (encR 66 m x)) (K : Value → List Blk → Prop)
    (hK : K (.int .i64 (x.ws.length : Int)) h) : CC Tryd.prog G 27 [.pointer (some ⟨m + 1, 0, none⟩)] h K := by
  refine CC.introB Tryd.func27 (by rfl) rfl 7 rfl (fun hB hbA => ?_)
  simp [encR] at H
  simp [H.2]
  exact retK_all hK

theorem c_iBits (G : Glob) (h : List Blk) (m : Nat) (x : Row) (H : At h m (encR 66 m x)) (hle : x.ws.length ≤ 2048) (K : Value → List Blk → Prop)
    (hK : K (.int .i64 (39 * (x.ws.length : Int))) h) : CC Tryd.prog G 30 [.pointer (some ⟨m + 1, 0, none⟩)] h K := by
  refine CC.introB Tryd.func30 (by rfl) rfl 8 rfl (fun hB hbA => ?_)
  simp [encR] at H
  have e9 : IntKind.i64.wrap ((x.ws.length : Int) * 39) = 39 * (x.ws.length : Int) := by rw [wrap_i64 (by omega)]; omega
  simp [H.2, e9]
  exact retK_all hK

theorem c_iFlip (G : Glob) (h : List Blk) (m : Nat) (x : Row) (H : At h m (encR 66 m x)) (hle : x.ws.length ≤ 2048) (i : Int) (K : Value → List Blk → Prop)
    (hK : ∀ h', At h' m (encR 66 m (x.flip i)) → Fr h h' [(m, 2)] → K (.bool (flipB x.ws i)) h') :
    CC Tryd.prog G 28 [.pointer (some ⟨m + 1, 0, none⟩), .int .i64 i] h K := by
  refine CC.introB Tryd.func28 (by rfl) rfl 24 rfl (fun hB hbA => ?_)
  have H0 := H
  simp [encR] at H
  obtain ⟨hb, hr⟩ := H
  simp
  by_cases h0 : i < 0
  · simp [h0]
    have e : flipB x.ws i = false := by simp [flipB]; omega
    have e2 : x.flip i = x := by unfold Row.flip; rw [flipW_out e]
    have := hK h (e2.symm ▸ H0) (Fr.refl _ _)
    rw [e] at this
    exact retK_all this
  · simp [h0]
    refine c_iBits G h m x H0 hle _ ?_
    by_cases h1 : 39 * (x.ws.length : Int) ≤ i
    · simp [h0, h1]
      have e : flipB x.ws i = false := by simp [flipB]; omega
      have e2 : x.flip i = x := by unfold Row.flip; rw [flipW_out e]
      have := hK h (e2.symm ▸ H0) (Fr.refl _ _)
      rw [e] at this
      exact retK_all this
    · obtain ⟨k, rfl⟩ : ∃ n : Nat, i = n := ⟨i.toNat, by omega⟩
      have h2 : k / 39 < x.ws.length := by omega
      obtain ⟨w, hg⟩ : ∃ w, x.ws[k / 39]'h2 = w := ⟨_, rfl⟩
      have hw : x.ws[k / 39]? = some w := by rw [List.getElem?_eq_getElem h2, hg]
      have e : flipB x.ws k = true := by simp [flipB]; omega
      have e2 : x.flip k = ⟨x.ws.set (k / 39) (w ^^^ (1#64 <<< (k % 39))), x.fx⟩ := by simp [Row.flip, flipW, hw]
      rw [e, e2] at hK
      have e3 : Int.tdiv (k : Int) 39 = ((k / 39 : Nat) : Int) := rfl
      have e4 : Int.tmod (k : Int) 39 = ((k % 39 : Nat) : Int) := rfl
      have e5 : IntKind.i64.wrap ((k / 39 : Nat) : Int) = ((k / 39 : Nat) : Int) := wrap_i64 (by omega)
      have e6 : (BitVec.ofNat 64 (k % 39)).toNat = k % 39 := by rw [BitVec.toNat_ofNat]; omega
      simp [h1]
      refine drawE_intro (.st 0 0 <| .st 1 0 <| .st 2 0 <| .st 3 0 <| .st 4 0 <| .st 5 0 <| .st 6 0 <| .st 7 0 <| .st 8 0 <| .st 9 0 <| .st 10 0 <| .st 11 0 <| .st 12 0 <| .st 13 2 .done) (by kernel_rfl) (by kernel_rfl) (by kernel_rfl) ?_
      simp [h1, hr, hb, h2, e3, e4, e5, e6, hg, -Int.natCast_ediv, -Int.natCast_emod]
      exact retK_all (hK _ (encR_put H0 (k / 39) _) (Fr.set (by simp; omega)))

theorem c_iNew (G : Glob) (h : List Blk) (n : Nat) (hn : n ≤ 2048) (K : Value → List Blk → Prop)
    (hK : K (.pointer (some ⟨h.length + 1, 0, none⟩)) (h ++ encR 66 h.length (Row.new n))) :
    CC Tryd.prog G 18 [.int .i64 (n : Int)] h K := by
  refine CC.introB Tryd.func18 (by rfl) rfl 8 rfl (fun hB hbA => ?_)
  have e1 : ¬ (2048 : Int) < n := by omega
  have e2 : ¬ (n : Int) < 0 := by omega
  rcases Nat.eq_zero_or_pos n with rfl | hp
  · simp [rep_one]
    refine retK_all ?_
    simp [encR, Row.new] at hK
    exact hK
  · simp [e1, e2, hp, rep_one]
    refine ⟨by omega, by omega, retK_all ?_⟩
    simp [encR, Row.new] at hK
    exact hK
end Go.Proofs.YtkcdcogmnplhjaaDoor
