/-
  Walks: checkpoints: Load of the program under proof.
-/
import Derived.Test.YtkcdcogmnplhjaaDoorW6
namespace Go.Proofs.YtkcdcogmnplhjaaDoor
open Go
set_option linter.unusedSimpArgs false
set_option linter.unusedVariables false
set_option linter.unnecessarySimpa false
set_option maxRecDepth 10000

def Row.ldc (x : Row) : Nat := (getN x.ws 78 &&& 1#32).toNat
def Row.ld1 (x : Row) : Row := x.get 78
def Row.ldOk1 (x : Row) : Bool := x.ld1.cpOk x.ldc
def Row.ld2 (x : Row) : Row := x.ld1.cpR x.ldc
def Row.ldOk (x : Row) : Bool := x.ldOk1 || x.ld2.cpOk (1 - x.ldc)
def Row.ldL (x : Row) : List (BitVec 32) := if x.ldOk1 then x.ld1.cp x.ldc else x.ld2.cp (1 - x.ldc)
/-- The row behind a Load. -/
def Row.ld (x : Row) : Row := if x.ldOk1 then x.ld2 else x.ld2.cpR (1 - x.ldc)
def Row.ldS (x : Row) : Bool := x.ldOk && (getS x.ws 78 != 2)
def ldR (ok : Bool) (l : List (BitVec 32)) : Value :=
  if ok then .tuple #[u32 (l.getD 0 0), .agg ⟨(0#32 :: (l.drop 1).take 31).map u32⟩, .agg ⟨((l.drop 32).take 5).map u32⟩, .int .i64 (bn (l.getD 37 0)), .bool true]
  else .tuple #[u32 0, .agg ⟨(List.replicate 32 0#32).map u32⟩, .agg ⟨(List.replicate 5 0#32).map u32⟩, .int .i64 0, .bool false]
theorem Row.ldc_lt (x : Row) : x.ldc < 2 := by
  unfold Row.ldc
  rw [BitVec.toNat_and]
  exact Nat.lt_succ_of_le Nat.and_le_right
@[simp] theorem Row.cpR_len (x : Row) (c : Nat) : (x.cpR c).ws.length = x.ws.length := by simp [Row.cpR]
@[simp] theorem Row.ld_len (x : Row) : x.ld.ws.length = x.ws.length := by
  unfold Row.ld; split <;> simp [Row.ld2, Row.ld1]
theorem Row.ldL_len (x : Row) : x.ldL.length = 39 := by unfold Row.ldL; split <;> simp

abbrev z32 : Blk := ⟨true, 27, List.replicate 32 (.int .u32 0)⟩
abbrev z5 : Blk := ⟨true, 28, List.replicate 5 (.int .u32 0)⟩
theorem c_sLoad (G : Glob) (hT : TZC G) (h : List Blk) (m : Nat) (s : Sv) (hs : s.Ok) (H : At h m (encVi m s)) (K : Value → List Blk → Prop)
    (hK : ∀ h', At h' m (encVi m ⟨s.row.ld, s.ix⟩) → Fr h h' [(m, 3)] → K (ldR s.row.ldS s.row.ldL) h') :
    CC Tryd.prog G 9 [.pointer (some ⟨m + 2, 0, none⟩)] h K := by
  refine CC.introB Tryd.func9 (by rfl) rfl 58 rfl (fun hB hbA => ?_)
  have hm := encV_le H
  have hap : ∀ X : List Blk, (h ++ X)[m + 2]? = _ := fun X => (List.getElem?_append_left (by omega)).trans (encV_get H).2
  simp [hap]
  have H0 := H.app [z32, z5]
  have G0 := Gr.app h [z32, z5] [(m, 3)]
  have L0 := at_new h [z32, z5]
  have N0 : (h ++ [z32, z5]).length = h.length + 2 := by simp
  change CC _ _ _ _ (h ++ [z32, z5]) _
  generalize h ++ _ = h0 at H0 G0 L0 N0
  refine c_iGet G hT h0 m s.row (encV_get H0).1 78 _ fun h1 H1 hf1 => ?_
  have H1v : At h1 m (encVi m ⟨s.row.ld1, s.ix⟩) := encV_row H0 H1 hf1
  have hc1 := s.row.ldc_lt
  have e5 : bn (getN s.row.ws 78 &&& 1#32) = (s.row.ldc : Int) := rfl
  have e6 : IntKind.i64.wrap (s.row.ldc : Int) = (s.row.ldc : Int) := wrap_i64 (by omega)
  simp [e5, e6]
  refine c_words G hT h1 m ⟨s.row.ld1, s.ix⟩ ⟨by simp [Row.ld1, hs.len], hs.lt⟩ H1v s.row.ldc hc1 _ fun h2 H2 hf2 => ?_
  have N2 : h2.length = h.length + 2 := by rw [hf2.len, hf1.len, N0]
  have G2 : Gr h h2 [(m, 3)] := (G0.then hf1 fun k _ hk => by simp at hk ⊢; omega).then hf2 fun k _ hk => hk
  have L2 : At h2 h.length [z32, z5] := L0.same fun k h1 h2 => by
    rw [hf2.same k (by simp; omega), hf1.same k (by simp; omega)]
  have ho1 := one_u32 (s.row.ld1.cp s.row.ldc)
  have e7 : bn (1#32 - (getN s.row.ws 78 &&& 1#32)) = ((1 - s.row.ldc : Nat) : Int) := by
    have : (1#32 - (getN s.row.ws 78 &&& 1#32)).toNat = 1 - s.row.ldc := by
      rw [BitVec.toNat_sub_of_le (by rw [BitVec.le_def]; show s.row.ldc ≤ 1; omega)]; rfl
    rw [bn_def, this]
  have hlen : s.row.ws.length = 79 := hs.len
  simp [ho1, N2, -List.all_map]
  cases hok1 : s.row.ld1.cpOk s.row.ldc
  case' false =>
    have H3 := H2.app [⟨true, 54, (s.row.ld1.cp s.row.ldc).map u32⟩]
    have G3 := G2.trans (Gr.app h2 [⟨true, 54, (s.row.ld1.cp s.row.ldc).map u32⟩] [(m, 3)])
    have L3 := L2.app [⟨true, 54, (s.row.ld1.cp s.row.ldc).map u32⟩]
    have N3 : (h2 ++ [⟨true, 54, (s.row.ld1.cp s.row.ldc).map u32⟩] : List Blk).length = h.length + 3 := by simp [N2]
    have B3 : (h2 ++ [⟨true, 54, (s.row.ld1.cp s.row.ldc).map u32⟩] : List Blk)[h.length + 2]? = some ⟨true, 54, (s.row.ld1.cp s.row.ldc).map u32⟩ := by rw [← N2]; simp
    generalize (h2 ++ [⟨true, 54, (s.row.ld1.cp s.row.ldc).map u32⟩] : List Blk) = h3 at H3 G3 L3 N3 B3
    have e8 : IntKind.i64.wrap ((1 - s.row.ldc : Nat) : Int) = ((1 - s.row.ldc : Nat) : Int) := wrap_i64 (by omega)
    simp [e7, e8]
    refine c_words G hT h3 m ⟨s.row.ld2, s.ix⟩ ⟨by simp [Row.ld1, Row.ld2, hs.len], hs.lt⟩ H3 (1 - s.row.ldc) (by omega) _ fun h4 H4 hf4 => ?_
    have N4 : h4.length = h.length + 3 := by rw [hf4.len, N3]
    have B4 : h4[h.length + 2]? = _ := (hf4.same _ (by simp; omega)).trans B3
    have L4 : At h4 h.length [z32, z5] := L3.same fun k h1 h2 => hf4.same k (by simp; omega)
    have ho2 := one_u32 (s.row.ld2.cp (1 - s.row.ldc))
    have hx : s.row.ld = s.row.ld2.cpR (1 - s.row.ldc) := by simp [Row.ld, Row.ldOk1, hok1]
    have hl : s.row.ldL = s.row.ld2.cp (1 - s.row.ldc) := by simp [Row.ldL, Row.ldOk1, hok1]
    have G4 : Gr h h4 [(m, 3)] := G3.then hf4 fun _ _ hk => hk
    have hd1 : List.drop 39 ((s.row.ld1.cp s.row.ldc).map u32) = [] := List.drop_of_length_le (by simp)
    simp [B4, ho2, hd1, -List.all_map]
    rw [← hx] at H4
    rw [← hl]
    have H9 : At (h4.set (h.length + 2) ⟨true, 54, s.row.ldL.map u32⟩) m (encVi m ⟨s.row.ld, s.ix⟩) := H4.same fun j h1 h2 => List.getElem?_set_ne (by simp at h2; omega)
    have G9 : Gr h (h4.set (h.length + 2) ⟨true, 54, s.row.ldL.map u32⟩) [(m, 3)] := G4.set fun j hj _ => by omega
    have L9 : At (h4.set (h.length + 2) ⟨true, 54, s.row.ldL.map u32⟩) h.length [z32, z5] := L4.same fun j h1 h2 => List.getElem?_set_ne (by simp at h2; omega)
    have N9 : (h4.set (h.length + 2) ⟨true, 54, s.row.ldL.map u32⟩).length = h.length + 3 := by simp [N4]
    have B9 : (h4.set (h.length + 2) ⟨true, 54, s.row.ldL.map u32⟩)[h.length + 2]? = some ⟨true, 54, s.row.ldL.map u32⟩ := List.getElem?_set_self (by omega)
    generalize h4.set (h.length + 2) ⟨true, 54, s.row.ldL.map u32⟩ = h9 at H9 G9 L9 N9 B9
    simp only [at_cons, at_nil, and_true] at L9
    have q0 : ∀ x, (h9.set h.length x)[h.length]? = some x := fun x => List.getElem?_set_self (by omega)
    have q1 : ∀ x y, ((h9.set h.length x).set (h.length + 1) y)[h.length + 1]? = some y := fun x y => List.getElem?_set_self (by simp; omega)
    cases hok2 : s.row.ld2.cpOk (1 - s.row.ldc)
    · have hldS : s.row.ldS = false := by simp [Row.ldS, Row.ldOk, Row.ldOk1, hok1, hok2]
      simp [L9.1, L9.2, q0, q1]
      refine retK_one (l := encVi m ⟨s.row.ld, s.ix⟩) hB (H9.same fun j h1 h2 => ?_) rfl ?_ hm (encV_bd _ _ _ (by omega)) (by simp [bd, bds]) fun h' a b => ?_
      · rw [List.getElem?_set_ne (by simp at h2; omega), List.getElem?_set_ne (by simp at h2; omega)]
      · exact (G9.set fun j hj _ => by omega).set fun j hj _ => by omega
      · have := hK h' a b
        rw [hldS] at this
        exact this
    have hL := s.row.ldL_len
    cases hst : getS s.row.ws 78 == 2
    · have hldS : s.row.ldS = true := by simp [Row.ldS, Row.ldOk, Row.ldOk1, hok1, hst, hok2, bne]
      simp [hst]
      refine drawE_intro (.st 0 0 <| .st 1 0 <| .st 2 2 .done) (by kernel_rfl) (by kernel_rfl) (by kernel_rfl) ?_
      simp [hst, B9, N9, hL, L9.1, L9.2, seg]
      have hd : ∃ y, y = (s.row.ldL.drop 1).take 31 := ⟨_, rfl⟩
      obtain ⟨y, hy⟩ := hd
      have hyl : y.length = 31 := by rw [hy]; simp [hL]
      refine copy_sl qem51 z32 ?_ rfl (y.map u32) ?_ (one_u32 y) (by simp) ?_
      · rw [List.getElem?_append_right (by simp [N9])]; simp [N9]
      · simp only [srcCells]
        rw [List.getElem?_append_left (by simp [N9]), B9]
        simp [hL, hy]
      generalize hh : List.set _ _ _ = h10
      have hh' : (h9 ++ [z32] : List Blk).set (h.length + 3) ⟨true, 27, (0#32 :: y).map u32⟩ = h10 := by
        have hc : List.take 1 z32.c ++ y.map u32 ++ List.drop 32 z32.c = (0#32 :: y).map u32 := by simp [z32]
        rw [← hc]; exact hh
      clear hh
      have N10 : h10.length = h.length + 4 := by rw [← hh']; simp [N9]
      have e10 : ∀ j, j < h.length + 3 → h10[j]? = h9[j]? := fun j hj => by
        rw [← hh', List.getElem?_set_ne (by omega), List.getElem?_append_left (by omega)]
      have C10 : h10[h.length + 3]? = some ⟨true, 27, (0#32 :: y).map u32⟩ := by rw [← hh']; exact List.getElem?_set_self (by simp [N9])
      simp
      have B10 := (e10 (h.length + 2) (by omega)).trans B9
      have L10 := (e10 h.length (by omega)).trans L9.1
      have M10 := (e10 (h.length + 1) (by omega)).trans L9.2
      have q2 : ∀ x, (h10.set h.length x)[h.length]? = some x := fun x => List.getElem?_set_self (by omega)
      have q3 : ∀ x y, ((h10.set h.length x).set (h.length + 1) y)[h.length + 1]? = some y := fun x y => List.getElem?_set_self (by simp; omega)
      have hy1 : List.take 31 (y.map u32) = y.map u32 := List.take_of_length_le (by simp [hyl])
      obtain ⟨z, hz⟩ : ∃ z, z = (s.row.ldL.drop 32).take 5 := ⟨_, rfl⟩
      have hzl : z.length = 5 := by rw [hz]; simp [hL]
      have hy2 : List.take 5 (List.drop 32 (s.row.ldL.map u32)) = z.map u32 := by rw [hz, List.map_take, List.map_drop]
      have hy3 : List.take 5 (z.map u32) = z.map u32 := List.take_of_length_le (by simp [hzl])
      refine drawE_intro (.st 0 0 <| .st 1 0 <| .st 2 0 <| .st 3 0 <| .st 4 0 <| .st 5 0 <| .st 6 0 <| .st 7 0 <| .st 8 0 <| .st 9 0 <| .st 10 1 <| .st 11 1 <| .st 12 0 <| .st 13 0 .done) (by kernel_rfl) (by kernel_rfl) (by kernel_rfl) ?_
      simp [B10, C10, L10, M10, hL, hyl, seg, q2, q3, hy1, hy2, hy3, hzl]
      have G10 : Gr h h10 [(m, 3)] := ⟨by omega, fun k hk ho => by rw [e10 k (by omega)]; exact G9.same k hk ho⟩
      refine retK_one (l := encVi m ⟨s.row.ld, s.ix⟩) hB (H9.same fun j h1 h2 => ?_) rfl ?_ hm (encV_bd _ _ _ (by omega)) (by simp [bd, bds]) fun h' a b => ?_
      · simp at h2
        rw [List.getElem?_set_ne (by omega), List.getElem?_set_ne (by omega), e10 j (by omega)]
      · exact (G10.set fun j hj _ => by omega).set fun j hj _ => by omega
      · have := hK h' a b
        rw [hldS] at this
        have e : ldR true s.row.ldL = .tuple #[u32 (s.row.ldL.getD 0 0), .agg ⟨(0#32 :: y).map u32⟩, .agg ⟨z.map u32⟩, .int .i64 (bn (s.row.ldL.getD 37 0)), .bool true] := by rw [hy, hz]; rfl
        rw [e] at this
        simp [hL] at this
        exact this
    · have hldS : s.row.ldS = false := by simp [Row.ldS, hst, bne]
      simp [hst, L9.1, L9.2, q0, q1]
      refine retK_one (l := encVi m ⟨s.row.ld, s.ix⟩) hB (H9.same fun j h1 h2 => ?_) rfl ?_ hm (encV_bd _ _ _ (by omega)) (by simp [bd, bds]) fun h' a b => ?_
      · rw [List.getElem?_set_ne (by simp at h2; omega), List.getElem?_set_ne (by simp at h2; omega)]
      · exact (G9.set fun j hj _ => by omega).set fun j hj _ => by omega
      · have := hK h' a b
        rw [hldS] at this
        exact this
  case' true =>
    have hok2 := hok1
    have hx : s.row.ld = s.row.ld2 := by simp [Row.ld, Row.ldOk1, hok1]
    have hl : s.row.ldL = s.row.ld1.cp s.row.ldc := by simp [Row.ldL, Row.ldOk1, hok1]
    simp [ho1, N2, -List.all_map]
    rw [← hl]
    have H2' : At h2 m (encVi m ⟨s.row.ld, s.ix⟩) := by rw [hx]; exact H2
    have H9 := H2'.app [⟨true, 54, s.row.ldL.map u32⟩]
    have G9 := G2.trans (Gr.app h2 [⟨true, 54, s.row.ldL.map u32⟩] [(m, 3)])
    have L9 := L2.app [⟨true, 54, s.row.ldL.map u32⟩]
    have N9 : (h2 ++ [⟨true, 54, s.row.ldL.map u32⟩] : List Blk).length = h.length + 3 := by simp [N2]
    have B9 : (h2 ++ [⟨true, 54, s.row.ldL.map u32⟩] : List Blk)[h.length + 2]? = some ⟨true, 54, s.row.ldL.map u32⟩ := by rw [← N2]; simp
    generalize (h2 ++ [⟨true, 54, s.row.ldL.map u32⟩] : List Blk) = h9 at H9 G9 L9 N9 B9
    simp only [at_cons, at_nil, and_true] at L9
    have q0 : ∀ x, (h9.set h.length x)[h.length]? = some x := fun x => List.getElem?_set_self (by omega)
    have q1 : ∀ x y, ((h9.set h.length x).set (h.length + 1) y)[h.length + 1]? = some y := fun x y => List.getElem?_set_self (by simp; omega)
    have hL := s.row.ldL_len
    cases hst : getS s.row.ws 78 == 2
    · have hldS : s.row.ldS = true := by simp [Row.ldS, Row.ldOk, Row.ldOk1, hok1, hst, hok2, bne]
      simp [hst]
      refine drawE_intro (.st 0 0 <| .st 1 0 <| .st 2 2 .done) (by kernel_rfl) (by kernel_rfl) (by kernel_rfl) ?_
      simp [hst, B9, N9, hL, L9.1, L9.2, seg]
      have hd : ∃ y, y = (s.row.ldL.drop 1).take 31 := ⟨_, rfl⟩
      obtain ⟨y, hy⟩ := hd
      have hyl : y.length = 31 := by rw [hy]; simp [hL]
      refine copy_sl qem51 z32 ?_ rfl (y.map u32) ?_ (one_u32 y) (by simp) ?_
      · rw [List.getElem?_append_right (by simp [N9])]; simp [N9]
      · simp only [srcCells]
        rw [List.getElem?_append_left (by simp [N9]), B9]
        simp [hL, hy]
      generalize hh : List.set _ _ _ = h10
      have hh' : (h9 ++ [z32] : List Blk).set (h.length + 3) ⟨true, 27, (0#32 :: y).map u32⟩ = h10 := by
        have hc : List.take 1 z32.c ++ y.map u32 ++ List.drop 32 z32.c = (0#32 :: y).map u32 := by simp [z32]
        rw [← hc]; exact hh
      clear hh
      have N10 : h10.length = h.length + 4 := by rw [← hh']; simp [N9]
      have e10 : ∀ j, j < h.length + 3 → h10[j]? = h9[j]? := fun j hj => by
        rw [← hh', List.getElem?_set_ne (by omega), List.getElem?_append_left (by omega)]
      have C10 : h10[h.length + 3]? = some ⟨true, 27, (0#32 :: y).map u32⟩ := by rw [← hh']; exact List.getElem?_set_self (by simp [N9])
      simp
      have B10 := (e10 (h.length + 2) (by omega)).trans B9
      have L10 := (e10 h.length (by omega)).trans L9.1
      have M10 := (e10 (h.length + 1) (by omega)).trans L9.2
      have q2 : ∀ x, (h10.set h.length x)[h.length]? = some x := fun x => List.getElem?_set_self (by omega)
      have q3 : ∀ x y, ((h10.set h.length x).set (h.length + 1) y)[h.length + 1]? = some y := fun x y => List.getElem?_set_self (by simp; omega)
      have hy1 : List.take 31 (y.map u32) = y.map u32 := List.take_of_length_le (by simp [hyl])
      obtain ⟨z, hz⟩ : ∃ z, z = (s.row.ldL.drop 32).take 5 := ⟨_, rfl⟩
      have hzl : z.length = 5 := by rw [hz]; simp [hL]
      have hy2 : List.take 5 (List.drop 32 (s.row.ldL.map u32)) = z.map u32 := by rw [hz, List.map_take, List.map_drop]
      have hy3 : List.take 5 (z.map u32) = z.map u32 := List.take_of_length_le (by simp [hzl])
      refine drawE_intro (.st 0 0 <| .st 1 0 <| .st 2 0 <| .st 3 0 <| .st 4 0 <| .st 5 0 <| .st 6 0 <| .st 7 0 <| .st 8 0 <| .st 9 0 <| .st 10 1 <| .st 11 1 <| .st 12 0 <| .st 13 0 .done) (by kernel_rfl) (by kernel_rfl) (by kernel_rfl) ?_
      simp [B10, C10, L10, M10, hL, hyl, seg, q2, q3, hy1, hy2, hy3, hzl]
      have G10 : Gr h h10 [(m, 3)] := ⟨by omega, fun k hk ho => by rw [e10 k (by omega)]; exact G9.same k hk ho⟩
      refine retK_one (l := encVi m ⟨s.row.ld, s.ix⟩) hB (H9.same fun j h1 h2 => ?_) rfl ?_ hm (encV_bd _ _ _ (by omega)) (by simp [bd, bds]) fun h' a b => ?_
      · simp at h2
        rw [List.getElem?_set_ne (by omega), List.getElem?_set_ne (by omega), e10 j (by omega)]
      · exact (G10.set fun j hj _ => by omega).set fun j hj _ => by omega
      · have := hK h' a b
        rw [hldS] at this
        have e : ldR true s.row.ldL = .tuple #[u32 (s.row.ldL.getD 0 0), .agg ⟨(0#32 :: y).map u32⟩, .agg ⟨z.map u32⟩, .int .i64 (bn (s.row.ldL.getD 37 0)), .bool true] := by rw [hy, hz]; rfl
        rw [e] at this
        simp [hL] at this
        exact this
    · have hldS : s.row.ldS = false := by simp [Row.ldS, hst, bne]
      simp [hst, L9.1, L9.2, q0, q1]
      refine retK_one (l := encVi m ⟨s.row.ld, s.ix⟩) hB (H9.same fun j h1 h2 => ?_) rfl ?_ hm (encV_bd _ _ _ (by omega)) (by simp [bd, bds]) fun h' a b => ?_
      · rw [List.getElem?_set_ne (by simp at h2; omega), List.getElem?_set_ne (by simp at h2; omega)]
      · exact (G9.set fun j hj _ => by omega).set fun j hj _ => by omega
      · have := hK h' a b
        rw [hldS] at this
        exact this
end Go.Proofs.YtkcdcogmnplhjaaDoor
