/-
  Walks: checkpoints of the document: Load.
-/
import Derived.Test.YtkcdcogmnplhjaaDoorW10
namespace Go.Proofs.YtkcdcogmnplhjaaDoor
open Go
set_option linter.unusedSimpArgs false
set_option linter.unusedVariables false
set_option linter.unnecessarySimpa false
set_option maxRecDepth 10000

/-- n words of which the first k are told by f. -/
def fillL (n : Nat) (f : Nat → BitVec 32) (k : Nat) : List (BitVec 32) := (List.range n).map fun i => if i < k then f i else 0
@[simp] theorem fillL_len (n : Nat) (f : Nat → BitVec 32) (k : Nat) : (fillL n f k).length = n := by simp [fillL]
theorem fillL_set (n : Nat) (f : Nat → BitVec 32) (k : Nat) (hk : k < n) : (fillL n f k).set k (f k) = fillL n f (k + 1) := by
  apply List.ext_getElem
  · simp
  · intro i h1 h2
    rw [List.getElem_set]
    simp only [fillL, List.getElem_map, List.getElem_range]
    by_cases h : k = i
    · subst h; simp
    · rw [if_neg h]
      by_cases h3 : i < k
      · rw [if_pos h3, if_pos (by omega)]
      · rw [if_neg h3, if_neg (by omega)]
def fR (l : List (BitVec 32)) (i : Nat) : BitVec 32 := if i = 0 then 0 else l.getD i 0
def fC (l : List (BitVec 32)) (i : Nat) : BitVec 32 := l.getD (32 + i) 0
theorem fillL_zero (n : Nat) (f : Nat → BitVec 32) : fillL n f 0 = List.replicate n 0#32 := by
  apply List.ext_getElem
  · simp
  · intro i h1 h2; simp [fillL]
theorem fillR_one (l : List (BitVec 32)) : fillL 32 (fR l) 1 = List.replicate 32 0#32 := by
  rw [← fillL_set 32 (fR l) 0 (by decide), fillL_zero]; rfl
theorem fillR_end {l : List (BitVec 32)} (hl : l.length = 39) : fillL 32 (fR l) 32 = 0#32 :: (l.drop 1).take 31 := by
  apply List.ext_getElem
  · simp [hl]
  · intro i h1 h2
    simp at h1
    cases i with
    | zero => simp [fillL, fR]
    | succ i => simp [fillL, fR, h1, List.getD_eq_getElem?_getD, Nat.add_comm 1 i, List.getElem?_eq_getElem (show i + 1 < l.length by omega)]
theorem fillC_end {l : List (BitVec 32)} (hl : l.length = 39) : fillL 5 (fC l) 5 = (l.drop 32).take 5 := by
  apply List.ext_getElem
  · simp [hl]
  · intro i h1 h2
    simp at h1
    simp [fillL, fC, h1, List.getD_eq_getElem?_getD, List.getElem?_eq_getElem (show 32 + i < l.length by omega)]

/-- What the loops of Load keep: the checkpoints, the words that were read, the results' places, what is filled. -/
structure LI (h : List Blk) (m : Nat) (s : Sv) (q : Nat) (b : Blk) (n9 : Nat) (h' : List Blk) (i j : Nat) : Prop where
  at_ : At h' m (encVr m ⟨s.row.ld, s.ix⟩)
  blk : h'[q]? = some b
  res : At h' h.length [z32, z5]
  reg : At h' n9 [⟨true, 27, (fillL 32 (fR s.row.ldL) i).map u32⟩, ⟨true, 28, (fillL 5 (fC s.row.ldL) j).map u32⟩]
  gr : Gr h h' [(m, 3)]

theorem LI.setR {h : List Blk} {m : Nat} {s : Sv} {q : Nat} {b : Blk} {n9 : Nat} {h' : List Blk} {i j : Nat} (hm : m + 3 ≤ h.length) (hn : h.length + 2 ≤ n9) (hq : q < n9) (H : LI h m s q b n9 h' i j) (hi : i < 32) :
    LI h m s q b n9 (h'.set n9 ⟨true, 27, (fillL 32 (fR s.row.ldL) (i + 1)).map u32⟩) (i + 1) j := by
  obtain ⟨a, bb, c, d, g⟩ := H
  have hl := d.le (by simp)
  simp only [at_cons, at_nil, and_true, List.length_cons, List.length_nil] at d hl
  refine ⟨a.same fun k h1 h2 => List.getElem?_set_ne (by simp at h2; omega), by rw [List.getElem?_set_ne (by omega)]; exact bb, c.same fun k h1 h2 => List.getElem?_set_ne (by simp at h2; omega), ?_, g.set fun k hk _ => by omega⟩
  simp only [at_cons, at_nil, and_true]
  exact ⟨List.getElem?_set_self (by omega), by rw [List.getElem?_set_ne (by omega)]; exact d.2⟩
theorem LI.setC {h : List Blk} {m : Nat} {s : Sv} {q : Nat} {b : Blk} {n9 : Nat} {h' : List Blk} {i j : Nat} (hm : m + 3 ≤ h.length) (hn : h.length + 2 ≤ n9) (hq : q < n9) (H : LI h m s q b n9 h' i j) (hj : j < 5) :
    LI h m s q b n9 (h'.set (n9 + 1) ⟨true, 28, (fillL 5 (fC s.row.ldL) (j + 1)).map u32⟩) i (j + 1) := by
  obtain ⟨a, bb, c, d, g⟩ := H
  have hl := d.le (by simp)
  simp only [at_cons, at_nil, and_true, List.length_cons, List.length_nil] at d hl
  refine ⟨a.same fun k h1 h2 => List.getElem?_set_ne (by simp at h2; omega), by rw [List.getElem?_set_ne (by omega)]; exact bb, c.same fun k h1 h2 => List.getElem?_set_ne (by simp at h2; omega), ?_, g.set fun k hk _ => by omega⟩
  simp only [at_cons, at_nil, and_true]
  exact ⟨by rw [List.getElem?_set_ne (by omega)]; exact d.1, List.getElem?_set_self (by omega)⟩

set_option maxHeartbeats 1000000 in
theorem c_rLoad (G : Glob) (h : List Blk) (m : Nat) (s : Sv) (hs : s.Ok) (H : At h m (encVr m s)) (K : Value → List Blk → Prop)
    (hK : ∀ h', At h' m (encVr m ⟨s.row.ld, s.ix⟩) → Fr h h' [(m, 3)] → K (ldR s.row.ldS s.row.ldL) h') :
    CC Tryd.prog G 10 [.pointer (some ⟨m + 2, 0, none⟩)] h K := by
  refine CC.introB Tryd.func10 (by rfl) rfl 79 rfl (fun hB hbA => ?_)
  have hm := encV_le H
  have hap : ∀ X : List Blk, (h ++ X)[m + 2]? = _ := fun X => (List.getElem?_append_left (by omega)).trans (encV_get H).2
  simp [hap]
  have H0 := H.app [z32, z5]
  have G0 := Gr.app h [z32, z5] [(m, 3)]
  have L0 := at_new h [z32, z5]
  have N0 : (h ++ [z32, z5]).length = h.length + 2 := by simp
  change CC _ _ _ _ (h ++ [z32, z5]) _
  generalize h ++ _ = h0 at H0 G0 L0 N0
  refine c_rGet G h0 m s.row (encV_get H0).1 78 _ fun h1 H1 hf1 => ?_
  have H1v : At h1 m (encVr m ⟨s.row.ld1, s.ix⟩) := encV_row H0 H1 hf1
  have hc1 := s.row.ldc_lt
  have N1 : h1.length = h.length + 2 := by rw [hf1.len, N0]
  have G1 : Gr h h1 [(m, 3)] := G0.then hf1 fun k _ hk => by simp at hk ⊢; omega
  have L1 : At h1 h.length [z32, z5] := L0.same fun k h1 h2 => hf1.same k (by simp; omega)
  have e5 : bn (getN s.row.ws 78 &&& 1#32) = (s.row.ldc : Int) := rfl
  have e6 : IntKind.i64.wrap (s.row.ldc : Int) = (s.row.ldc : Int) := wrap_i64 (by omega)
  have e8 : IntKind.i64.wrap (1 - (s.row.ldc : Int)) = ((1 - s.row.ldc : Nat) : Int) := by rw [wrap_i64 (by omega)]; omega
  simp [e5, e6]
  refine c_read G h1 m ⟨s.row.ld1, s.ix⟩ ⟨by simp [Row.ld1, hs.len], hs.lt⟩ H1v s.row.ldc hc1 _ fun h2 v2 H2 S2 g2 => ?_
  have G2 : Gr h h2 [(m, 3)] := G1.then' g2 fun k _ hk => hk
  have L2 : At h2 h.length [z32, z5] := L1.same fun k h1 h2 => g2.same k (by simp at h2; omega) (by simp; omega)
  have N2 : h.length + 2 ≤ h2.length := by have := g2.len; omega
  rw [N1] at S2
  simp
  cases hok1 : s.row.ld1.cpOk s.row.ldc
  case' false =>
    simp [e5, e6, e8]
    refine c_read G h2 m ⟨s.row.ld2, s.ix⟩ ⟨by simp [Row.ld1, Row.ld2, hs.len], hs.lt⟩ H2 (1 - s.row.ldc) (by omega) _ fun h9 v9 H9 S9 g9 => ?_
    have hx : s.row.ld = s.row.ld2.cpR (1 - s.row.ldc) := by simp [Row.ld, Row.ldOk1, hok1]
    have hl : s.row.ldL = s.row.ld2.cp (1 - s.row.ldc) := by simp [Row.ldL, Row.ldOk1, hok1]
    have G9 : Gr h h9 [(m, 3)] := G2.then' g9 fun k _ hk => hk
    have L9 : At h9 h.length [z32, z5] := L2.same fun k h1 h2 => g9.same k (by simp at h2; omega) (by simp; omega)
    have N9 : h.length + 2 ≤ h9.length := by have := g9.len; omega
    rw [← hx] at H9
    rw [← hl] at S9
    have S9 := S9.le N2
    simp
    simp only [at_cons, at_nil, and_true] at L9
    generalize hh : h9 ++ [_, _] = h10
    have hh' : h9 ++ [z32, z5] = h10 := hh
    clear hh
    have N10 : h10.length = h9.length + 2 := by rw [← hh']; simp
    have T10 : At h10 h9.length [z32, z5] := by rw [← hh']; exact at_new _ _
    have G10 : Gr h h10 [(m, 3)] := by rw [← hh']; exact G9.trans (Gr.app _ _ _)
    have H10 : At h10 m (encVr m ⟨s.row.ld, s.ix⟩) := by rw [← hh']; exact H9.app _
    have L10 : At h10 h.length [z32, z5] := by rw [← hh']; simp only [at_cons, at_nil, and_true]; exact ⟨(List.getElem?_append_left (by omega)).trans L9.1, (List.getElem?_append_left (by omega)).trans L9.2⟩
    have S10 : Sl32 (h.length + 2) h10 s.row.ldL v9 := S9.mono fun q _ hq => by rw [← hh']; exact List.getElem?_append_left hq
    have Sb := fun q (hq : slB v9 = some q) => (S9.blk hq).2
    clear hh' H9 G9 L9 S9
    cases hok2 : s.row.ld2.cpOk (1 - s.row.ldc)
    · have hldS : s.row.ldS = false := by simp [Row.ldS, Row.ldOk, Row.ldOk1, hok1, hok2]
      simp
      have T11 := T10
      have L11 := L10
      simp only [at_cons, at_nil, and_true] at T11 L11
      have q0 : ∀ x, (h10.set h.length x)[h.length]? = some x := fun x => List.getElem?_set_self (by omega)
      have q1 : ∀ x y, ((h10.set h.length x).set (h.length + 1) y)[h.length + 1]? = some y := fun x y => List.getElem?_set_self (by simp; omega)
      have n0 : ∀ x, (h10.set h.length x)[h9.length]? = h10[h9.length]? := fun x => List.getElem?_set_ne (by omega)
      have n1 : ∀ x, (h10.set h.length x)[h9.length + 1]? = h10[h9.length + 1]? := fun x => List.getElem?_set_ne (by omega)
      refine drawE_intro (.st 0 0 <| .st 1 0 <| .st 2 0 <| .st 3 1 <| .st 4 2 <| .st 5 0 <| .st 6 0 .done) (by kernel_rfl) (by kernel_rfl) (by kernel_rfl) ?_
      simp [T11.1, T11.2, L11.1, L11.2, q0, q1, n0, n1, seg]
      refine retK_one (l := encVr m ⟨s.row.ld, s.ix⟩) hB (H10.same fun j h1 h2 => ?_) rfl ?_ hm (encV_bd _ _ _ (by omega)) (by simp [bd, bds]) fun h' a b => ?_
      · simp at h2
        rw [List.getElem?_set_ne (by omega), List.getElem?_set_ne (by omega)]
      · exact (G10.set fun j hj _ => by omega).set fun j hj _ => by omega
      · have := hK h' a b
        rw [hldS] at this
        exact this
    cases hst : getS s.row.ws 78 == 2
    case' true =>
      have hldS : s.row.ldS = false := by simp [Row.ldS, hst, bne]
      simp [hst]
      have T11 := T10
      have L11 := L10
      simp only [at_cons, at_nil, and_true] at T11 L11
      have q0 : ∀ x, (h10.set h.length x)[h.length]? = some x := fun x => List.getElem?_set_self (by omega)
      have q1 : ∀ x y, ((h10.set h.length x).set (h.length + 1) y)[h.length + 1]? = some y := fun x y => List.getElem?_set_self (by simp; omega)
      have n0 : ∀ x, (h10.set h.length x)[h9.length]? = h10[h9.length]? := fun x => List.getElem?_set_ne (by omega)
      have n1 : ∀ x, (h10.set h.length x)[h9.length + 1]? = h10[h9.length + 1]? := fun x => List.getElem?_set_ne (by omega)
      refine drawE_intro (.st 0 0 <| .st 1 0 <| .st 2 0 <| .st 3 1 <| .st 4 2 <| .st 5 0 <| .st 6 0 .done) (by kernel_rfl) (by kernel_rfl) (by kernel_rfl) ?_
      simp [T11.1, T11.2, L11.1, L11.2, q0, q1, n0, n1, seg]
      refine retK_one (l := encVr m ⟨s.row.ld, s.ix⟩) hB (H10.same fun j h1 h2 => ?_) rfl ?_ hm (encV_bd _ _ _ (by omega)) (by simp [bd, bds]) fun h' a b => ?_
      · simp at h2
        rw [List.getElem?_set_ne (by omega), List.getElem?_set_ne (by omega)]
      · exact (G10.set fun j hj _ => by omega).set fun j hj _ => by omega
      · have := hK h' a b
        rw [hldS] at this
        exact this
    have hldS : s.row.ldS = true := by simp [Row.ldS, Row.ldOk, Row.ldOk1, hok1, hst, hok2, bne]
    have hL := s.row.ldL_len
    rcases S10 with ⟨h0, _⟩ | ⟨q, cap, rest, rfl, hnq, hq, hcap, hrl, hfl⟩
    · rw [h0] at hL; cases hL
    have hql := Sb q rfl
    clear hrl hfl Sb
    rw [hL] at hcap
    rw [flat32] at hq
    simp [hst, hL]
    refine loopP_m [50, 51, 54, 55, 56, 57, 58, 59, 52, 53, 13] (α := List Blk × Nat) (fun a => [(13, .int .i64 (a.2 : Int))]) (fun a => a.1) (fun a => 1 ≤ a.2 ∧ a.2 ≤ 32 ∧ LI h m s q ⟨true, 26, s.row.ldL.map u32 ++ rest⟩ h9.length a.1 a.2 0) (fun a => 32 - a.2) (h10, 1) ⟨by simp, by simp, H10, hq, L10, by rw [fillR_one, fillL_zero]; exact T10, G10⟩ (by simp) ?_
    rintro ⟨h3, i⟩ ⟨hi1, hi, I3⟩
    simp only at hi1 hi I3
    have D3 := I3.reg
    have B3 := I3.blk
    simp only [at_cons, at_nil, and_true] at D3
    simp
    refine condP_split (fun h1 => ?_) (fun h1 => ?_)
    · have hlt : i < 32 := by simp at h1; omega
      have hlt' : (i : Int) < 32 := by omega
      have hlt2 : (i : Int) < 39 := by omega
      have e3 : IntKind.i64.wrap ((i : Int) + 1) = ((i + 1 : Nat) : Int) := by rw [wrap_i64 (by omega)]; omega
      have hkl : i < s.row.ldL.length := by omega
      obtain ⟨v, hv⟩ : ∃ v, s.row.ldL[i]'hkl = v := ⟨_, rfl⟩
      have hv' : (s.row.ldL.map u32 ++ rest)[i]? = some (u32 v) := by rw [List.getElem?_append_left (by simpa using hkl), List.getElem?_map, List.getElem?_eq_getElem hkl, hv]; rfl
      have ev : v = fR s.row.ldL i := by unfold fR; rw [if_neg (by omega), List.getD_eq_getElem?_getD, List.getElem?_eq_getElem hkl, hv]; rfl
      have e4 : ((fillL 32 (fR s.row.ldL) i).map u32).set i (u32 v) = (fillL 32 (fR s.row.ldL) (i + 1)).map u32 := by rw [ev, ← List.map_set, fillL_set _ _ _ hlt]
      simp [-Int.natCast_add, -Int.natCast_mul, -Int.natCast_emod, -Int.natCast_ediv, B3, D3.1, hlt, hlt', hlt2, hv', e3, e4, -List.getElem?_map]
      exact ⟨_, i + 1, ⟨by omega, by omega, I3.setR hm N9 hql hlt⟩, by simp, by omega⟩
    have hlt : i = 32 := by simp at h1; omega
    subst hlt
    clear D3 B3
    simp
    refine loopP_m [61, 62, 14, 63, 64, 65, 66, 67, 68, 69, 70, 60] (α := List Blk × Nat) (fun a => [(60, .int .i64 (a.2 : Int))]) (fun a => a.1) (fun a => a.2 ≤ 5 ∧ LI h m s q ⟨true, 26, s.row.ldL.map u32 ++ rest⟩ h9.length a.1 32 a.2) (fun a => 5 - a.2) (h3, 0) ⟨by simp, I3⟩ (by simp) ?_
    clear h1 hi hi1
    rintro ⟨h4, j⟩ ⟨hj, I4⟩
    simp only at hj I4
    have D4 := I4.reg
    have B4 := I4.blk
    simp only [at_cons, at_nil, and_true] at D4
    simp
    refine condP_split (fun h1 => ?_) (fun h1 => ?_)
    · have hlt : j < 5 := by simp at h1; omega
      have hlt' : (j : Int) < 5 := by omega
      have hlt2 : ((32 + j : Nat) : Int) < 39 := by omega
      have e3 : IntKind.i64.wrap ((j : Int) + 1) = ((j + 1 : Nat) : Int) := by rw [wrap_i64 (by omega)]; omega
      have e5' : IntKind.i64.wrap (32 + (j : Int)) = ((32 + j : Nat) : Int) := by rw [wrap_i64 (by omega)]; omega
      have hkl : 32 + j < s.row.ldL.length := by omega
      obtain ⟨v, hv⟩ : ∃ v, s.row.ldL[32 + j]'hkl = v := ⟨_, rfl⟩
      have hv' : (s.row.ldL.map u32 ++ rest)[32 + j]? = some (u32 v) := by rw [List.getElem?_append_left (by simpa using hkl), List.getElem?_map, List.getElem?_eq_getElem hkl, hv]; rfl
      have ev : v = fC s.row.ldL j := by unfold fC; rw [List.getD_eq_getElem?_getD, List.getElem?_eq_getElem hkl, hv]; rfl
      have e4 : ((fillL 5 (fC s.row.ldL) j).map u32).set j (u32 v) = (fillL 5 (fC s.row.ldL) (j + 1)).map u32 := by rw [ev, ← List.map_set, fillL_set _ _ _ hlt]
      simp [-Int.natCast_add, -Int.natCast_mul, -Int.natCast_emod, -Int.natCast_ediv, B4, D4.2, hlt, hlt', hlt2, hv', e3, e5', e4, -List.getElem?_map]
      exact ⟨_, j + 1, ⟨by omega, I4.setC hm N9 hql hlt⟩, by simp, by omega⟩
    have hlt : j = 5 := by simp at h1; omega
    subst hlt
    have L4 := I4.res
    simp only [at_cons, at_nil, and_true] at L4
    have hv0 : (s.row.ldL.map u32 ++ rest)[0]? = some (u32 (s.row.ldL.getD 0 0)) := by rw [List.getElem?_append_left (by simp; omega), List.getElem?_map, List.getElem?_eq_getElem (by omega), List.getD_eq_getElem?_getD, List.getElem?_eq_getElem (by omega)]; rfl
    have hv7 : (s.row.ldL.map u32 ++ rest)[37]? = some (u32 (s.row.ldL.getD 37 0)) := by rw [List.getElem?_append_left (by simp; omega), List.getElem?_map, List.getElem?_eq_getElem (by omega), List.getD_eq_getElem?_getD, List.getElem?_eq_getElem (by omega)]; rfl
    rw [fillR_end hL, fillC_end hL] at D4
    obtain ⟨y, hy⟩ : ∃ y, y = 0#32 :: (s.row.ldL.drop 1).take 31 := ⟨_, rfl⟩
    obtain ⟨z, hz⟩ : ∃ z, z = (s.row.ldL.drop 32).take 5 := ⟨_, rfl⟩
    rw [← hy, ← hz] at D4
    have hyl : y.length = 32 := by rw [hy]; simp [hL]
    have hzl : z.length = 5 := by rw [hz]; simp [hL]
    have hy1 : List.take 32 (y.map u32) = y.map u32 := List.take_of_length_le (by simp [hyl])
    have hz1 : List.take 5 (z.map u32) = z.map u32 := List.take_of_length_le (by simp [hzl])
    have hl4 := I4.reg.le (by simp)
    simp only [List.length_cons, List.length_nil] at hl4
    have q0 : ∀ x, (h4.set h.length x)[h.length]? = some x := fun x => List.getElem?_set_self (by omega)
    have q1 : ∀ x y, ((h4.set h.length x).set (h.length + 1) y)[h.length + 1]? = some y := fun x y => List.getElem?_set_self (by simp; omega)
    have n0 : ∀ x, (h4.set h.length x)[h9.length]? = h4[h9.length]? := fun x => List.getElem?_set_ne (by omega)
    have n1 : ∀ x, (h4.set h.length x)[h9.length + 1]? = h4[h9.length + 1]? := fun x => List.getElem?_set_ne (by omega)
    have n2 : ∀ x, (h4.set h.length x)[q]? = h4[q]? := fun x => List.getElem?_set_ne (by omega)
    have n3 : ∀ x y, ((h4.set h.length x).set (h.length + 1) y)[h9.length]? = h4[h9.length]? := fun x y => by rw [List.getElem?_set_ne (by omega), n0]
    have n4 : ∀ x y, ((h4.set h.length x).set (h.length + 1) y)[h9.length + 1]? = h4[h9.length + 1]? := fun x y => by rw [List.getElem?_set_ne (by omega), n1]
    have n5 : ∀ x y, ((h4.set h.length x).set (h.length + 1) y)[q]? = h4[q]? := fun x y => by rw [List.getElem?_set_ne (by omega), n2]
    simp
    refine drawE_intro (.st 0 0 <| .st 1 0 <| .st 2 0 <| .st 3 0 <| .st 4 0 <| .st 5 0 <| .st 6 0 <| .st 7 0 <| .st 8 0 <| .st 9 0 <| .st 10 1 <| .st 11 1 <| .st 12 0 <| .st 13 0 .done) (by kernel_rfl) (by kernel_rfl) (by kernel_rfl) ?_
    simp [-Int.natCast_add, -Int.natCast_mul, -Int.natCast_emod, -Int.natCast_ediv, B4, D4.1, D4.2, L4.1, L4.2, hv0, hv7, q0, q1, n0, n1, n2, n3, n4, n5, hyl, hzl, hy1, hz1, seg, -List.getElem?_map, -List.getD_eq_getElem?_getD]
    refine retK_one (l := encVr m ⟨s.row.ld, s.ix⟩) hB (I4.at_.same fun j h1 h2 => ?_) rfl ?_ hm (encV_bd _ _ _ (by omega)) (by simp [bd, bds]) fun h' a b => ?_
    · simp at h2
      rw [List.getElem?_set_ne (by omega), List.getElem?_set_ne (by omega)]
    · exact (I4.gr.set fun j hj _ => by omega).set fun j hj _ => by omega
    · have := hK h' a b
      rw [hldS] at this
      have e : ldR true s.row.ldL = .tuple #[u32 (s.row.ldL.getD 0 0), .agg ⟨y.map u32⟩, .agg ⟨z.map u32⟩, .int .i64 (bn (s.row.ldL.getD 37 0)), .bool true] := by rw [hy, hz]; rfl
      rw [e] at this
      exact this
  case' true =>
    have hok2 := hok1
    have hx : s.row.ld = s.row.ld2 := by simp [Row.ld, Row.ldOk1, hok1]
    have hl : s.row.ldL = s.row.ld1.cp s.row.ldc := by simp [Row.ldL, Row.ldOk1, hok1]
    have H9 : At h2 m (encVr m ⟨s.row.ld, s.ix⟩) := by rw [hx]; exact H2
    have S9 : Sl32 (h.length + 2) h2 s.row.ldL v2 := by rw [hl]; exact S2
    have G9 := G2
    have L9 := L2
    have N9 := N2
    clear H2 S2 G2 L2 N2 g2
    simp
    simp only [at_cons, at_nil, and_true] at L9
    generalize hh : h2 ++ [_, _] = h10
    have hh' : h2 ++ [z32, z5] = h10 := hh
    clear hh
    have N10 : h10.length = h2.length + 2 := by rw [← hh']; simp
    have T10 : At h10 h2.length [z32, z5] := by rw [← hh']; exact at_new _ _
    have G10 : Gr h h10 [(m, 3)] := by rw [← hh']; exact G9.trans (Gr.app _ _ _)
    have H10 : At h10 m (encVr m ⟨s.row.ld, s.ix⟩) := by rw [← hh']; exact H9.app _
    have L10 : At h10 h.length [z32, z5] := by rw [← hh']; simp only [at_cons, at_nil, and_true]; exact ⟨(List.getElem?_append_left (by omega)).trans L9.1, (List.getElem?_append_left (by omega)).trans L9.2⟩
    have S10 : Sl32 (h.length + 2) h10 s.row.ldL v2 := S9.mono fun q _ hq => by rw [← hh']; exact List.getElem?_append_left hq
    have Sb := fun q (hq : slB v2 = some q) => (S9.blk hq).2
    clear hh' H9 G9 L9 S9
    cases hst : getS s.row.ws 78 == 2
    case' true =>
      have hldS : s.row.ldS = false := by simp [Row.ldS, hst, bne]
      simp [hst]
      have T11 := T10
      have L11 := L10
      simp only [at_cons, at_nil, and_true] at T11 L11
      have q0 : ∀ x, (h10.set h.length x)[h.length]? = some x := fun x => List.getElem?_set_self (by omega)
      have q1 : ∀ x y, ((h10.set h.length x).set (h.length + 1) y)[h.length + 1]? = some y := fun x y => List.getElem?_set_self (by simp; omega)
      have n0 : ∀ x, (h10.set h.length x)[h2.length]? = h10[h2.length]? := fun x => List.getElem?_set_ne (by omega)
      have n1 : ∀ x, (h10.set h.length x)[h2.length + 1]? = h10[h2.length + 1]? := fun x => List.getElem?_set_ne (by omega)
      refine drawE_intro (.st 0 0 <| .st 1 0 <| .st 2 0 <| .st 3 1 <| .st 4 2 <| .st 5 0 <| .st 6 0 .done) (by kernel_rfl) (by kernel_rfl) (by kernel_rfl) ?_
      simp [T11.1, T11.2, L11.1, L11.2, q0, q1, n0, n1, seg]
      refine retK_one (l := encVr m ⟨s.row.ld, s.ix⟩) hB (H10.same fun j h1 h2 => ?_) rfl ?_ hm (encV_bd _ _ _ (by omega)) (by simp [bd, bds]) fun h' a b => ?_
      · simp at h2
        rw [List.getElem?_set_ne (by omega), List.getElem?_set_ne (by omega)]
      · exact (G10.set fun j hj _ => by omega).set fun j hj _ => by omega
      · have := hK h' a b
        rw [hldS] at this
        exact this
    have hldS : s.row.ldS = true := by simp [Row.ldS, Row.ldOk, Row.ldOk1, hok1, hst, hok2, bne]
    have hL := s.row.ldL_len
    rcases S10 with ⟨h0, _⟩ | ⟨q, cap, rest, rfl, hnq, hq, hcap, hrl, hfl⟩
    · rw [h0] at hL; cases hL
    have hql := Sb q rfl
    clear hrl hfl Sb
    rw [hL] at hcap
    rw [flat32] at hq
    simp [hst, hL]
    refine loopP_m [50, 51, 54, 55, 56, 57, 58, 59, 52, 53, 13] (α := List Blk × Nat) (fun a => [(13, .int .i64 (a.2 : Int))]) (fun a => a.1) (fun a => 1 ≤ a.2 ∧ a.2 ≤ 32 ∧ LI h m s q ⟨true, 26, s.row.ldL.map u32 ++ rest⟩ h2.length a.1 a.2 0) (fun a => 32 - a.2) (h10, 1) ⟨by simp, by simp, H10, hq, L10, by rw [fillR_one, fillL_zero]; exact T10, G10⟩ (by simp) ?_
    rintro ⟨h3, i⟩ ⟨hi1, hi, I3⟩
    simp only at hi1 hi I3
    have D3 := I3.reg
    have B3 := I3.blk
    simp only [at_cons, at_nil, and_true] at D3
    simp
    refine condP_split (fun h1 => ?_) (fun h1 => ?_)
    · have hlt : i < 32 := by simp at h1; omega
      have hlt' : (i : Int) < 32 := by omega
      have hlt2 : (i : Int) < 39 := by omega
      have e3 : IntKind.i64.wrap ((i : Int) + 1) = ((i + 1 : Nat) : Int) := by rw [wrap_i64 (by omega)]; omega
      have hkl : i < s.row.ldL.length := by omega
      obtain ⟨v, hv⟩ : ∃ v, s.row.ldL[i]'hkl = v := ⟨_, rfl⟩
      have hv' : (s.row.ldL.map u32 ++ rest)[i]? = some (u32 v) := by rw [List.getElem?_append_left (by simpa using hkl), List.getElem?_map, List.getElem?_eq_getElem hkl, hv]; rfl
      have ev : v = fR s.row.ldL i := by unfold fR; rw [if_neg (by omega), List.getD_eq_getElem?_getD, List.getElem?_eq_getElem hkl, hv]; rfl
      have e4 : ((fillL 32 (fR s.row.ldL) i).map u32).set i (u32 v) = (fillL 32 (fR s.row.ldL) (i + 1)).map u32 := by rw [ev, ← List.map_set, fillL_set _ _ _ hlt]
      simp [-Int.natCast_add, -Int.natCast_mul, -Int.natCast_emod, -Int.natCast_ediv, B3, D3.1, hlt, hlt', hlt2, hv', e3, e4, -List.getElem?_map]
      exact ⟨_, i + 1, ⟨by omega, by omega, I3.setR hm N9 hql hlt⟩, by simp, by omega⟩
    have hlt : i = 32 := by simp at h1; omega
    subst hlt
    clear D3 B3
    simp
    refine loopP_m [61, 62, 14, 63, 64, 65, 66, 67, 68, 69, 70, 60] (α := List Blk × Nat) (fun a => [(60, .int .i64 (a.2 : Int))]) (fun a => a.1) (fun a => a.2 ≤ 5 ∧ LI h m s q ⟨true, 26, s.row.ldL.map u32 ++ rest⟩ h2.length a.1 32 a.2) (fun a => 5 - a.2) (h3, 0) ⟨by simp, I3⟩ (by simp) ?_
    clear h1 hi hi1
    rintro ⟨h4, j⟩ ⟨hj, I4⟩
    simp only at hj I4
    have D4 := I4.reg
    have B4 := I4.blk
    simp only [at_cons, at_nil, and_true] at D4
    simp
    refine condP_split (fun h1 => ?_) (fun h1 => ?_)
    · have hlt : j < 5 := by simp at h1; omega
      have hlt' : (j : Int) < 5 := by omega
      have hlt2 : ((32 + j : Nat) : Int) < 39 := by omega
      have e3 : IntKind.i64.wrap ((j : Int) + 1) = ((j + 1 : Nat) : Int) := by rw [wrap_i64 (by omega)]; omega
      have e5' : IntKind.i64.wrap (32 + (j : Int)) = ((32 + j : Nat) : Int) := by rw [wrap_i64 (by omega)]; omega
      have hkl : 32 + j < s.row.ldL.length := by omega
      obtain ⟨v, hv⟩ : ∃ v, s.row.ldL[32 + j]'hkl = v := ⟨_, rfl⟩
      have hv' : (s.row.ldL.map u32 ++ rest)[32 + j]? = some (u32 v) := by rw [List.getElem?_append_left (by simpa using hkl), List.getElem?_map, List.getElem?_eq_getElem hkl, hv]; rfl
      have ev : v = fC s.row.ldL j := by unfold fC; rw [List.getD_eq_getElem?_getD, List.getElem?_eq_getElem hkl, hv]; rfl
      have e4 : ((fillL 5 (fC s.row.ldL) j).map u32).set j (u32 v) = (fillL 5 (fC s.row.ldL) (j + 1)).map u32 := by rw [ev, ← List.map_set, fillL_set _ _ _ hlt]
      simp [-Int.natCast_add, -Int.natCast_mul, -Int.natCast_emod, -Int.natCast_ediv, B4, D4.2, hlt, hlt', hlt2, hv', e3, e5', e4, -List.getElem?_map]
      exact ⟨_, j + 1, ⟨by omega, I4.setC hm N9 hql hlt⟩, by simp, by omega⟩
    have hlt : j = 5 := by simp at h1; omega
    subst hlt
    have L4 := I4.res
    simp only [at_cons, at_nil, and_true] at L4
    have hv0 : (s.row.ldL.map u32 ++ rest)[0]? = some (u32 (s.row.ldL.getD 0 0)) := by rw [List.getElem?_append_left (by simp; omega), List.getElem?_map, List.getElem?_eq_getElem (by omega), List.getD_eq_getElem?_getD, List.getElem?_eq_getElem (by omega)]; rfl
    have hv7 : (s.row.ldL.map u32 ++ rest)[37]? = some (u32 (s.row.ldL.getD 37 0)) := by rw [List.getElem?_append_left (by simp; omega), List.getElem?_map, List.getElem?_eq_getElem (by omega), List.getD_eq_getElem?_getD, List.getElem?_eq_getElem (by omega)]; rfl
    rw [fillR_end hL, fillC_end hL] at D4
    obtain ⟨y, hy⟩ : ∃ y, y = 0#32 :: (s.row.ldL.drop 1).take 31 := ⟨_, rfl⟩
    obtain ⟨z, hz⟩ : ∃ z, z = (s.row.ldL.drop 32).take 5 := ⟨_, rfl⟩
    rw [← hy, ← hz] at D4
    have hyl : y.length = 32 := by rw [hy]; simp [hL]
    have hzl : z.length = 5 := by rw [hz]; simp [hL]
    have hy1 : List.take 32 (y.map u32) = y.map u32 := List.take_of_length_le (by simp [hyl])
    have hz1 : List.take 5 (z.map u32) = z.map u32 := List.take_of_length_le (by simp [hzl])
    have hl4 := I4.reg.le (by simp)
    simp only [List.length_cons, List.length_nil] at hl4
    have q0 : ∀ x, (h4.set h.length x)[h.length]? = some x := fun x => List.getElem?_set_self (by omega)
    have q1 : ∀ x y, ((h4.set h.length x).set (h.length + 1) y)[h.length + 1]? = some y := fun x y => List.getElem?_set_self (by simp; omega)
    have n0 : ∀ x, (h4.set h.length x)[h2.length]? = h4[h2.length]? := fun x => List.getElem?_set_ne (by omega)
    have n1 : ∀ x, (h4.set h.length x)[h2.length + 1]? = h4[h2.length + 1]? := fun x => List.getElem?_set_ne (by omega)
    have n2 : ∀ x, (h4.set h.length x)[q]? = h4[q]? := fun x => List.getElem?_set_ne (by omega)
    have n3 : ∀ x y, ((h4.set h.length x).set (h.length + 1) y)[h2.length]? = h4[h2.length]? := fun x y => by rw [List.getElem?_set_ne (by omega), n0]
    have n4 : ∀ x y, ((h4.set h.length x).set (h.length + 1) y)[h2.length + 1]? = h4[h2.length + 1]? := fun x y => by rw [List.getElem?_set_ne (by omega), n1]
    have n5 : ∀ x y, ((h4.set h.length x).set (h.length + 1) y)[q]? = h4[q]? := fun x y => by rw [List.getElem?_set_ne (by omega), n2]
    simp
    refine drawE_intro (.st 0 0 <| .st 1 0 <| .st 2 0 <| .st 3 0 <| .st 4 0 <| .st 5 0 <| .st 6 0 <| .st 7 0 <| .st 8 0 <| .st 9 0 <| .st 10 1 <| .st 11 1 <| .st 12 0 <| .st 13 0 .done) (by kernel_rfl) (by kernel_rfl) (by kernel_rfl) ?_
    simp [-Int.natCast_add, -Int.natCast_mul, -Int.natCast_emod, -Int.natCast_ediv, B4, D4.1, D4.2, L4.1, L4.2, hv0, hv7, q0, q1, n0, n1, n2, n3, n4, n5, hyl, hzl, hy1, hz1, seg, -List.getElem?_map, -List.getD_eq_getElem?_getD]
    refine retK_one (l := encVr m ⟨s.row.ld, s.ix⟩) hB (I4.at_.same fun j h1 h2 => ?_) rfl ?_ hm (encV_bd _ _ _ (by omega)) (by simp [bd, bds]) fun h' a b => ?_
    · simp at h2
      rw [List.getElem?_set_ne (by omega), List.getElem?_set_ne (by omega)]
    · exact (I4.gr.set fun j hj _ => by omega).set fun j hj _ => by omega
    · have := hK h' a b
      rw [hldS] at this
      have e : ldR true s.row.ldL = .tuple #[u32 (s.row.ldL.getD 0 0), .agg ⟨y.map u32⟩, .agg ⟨z.map u32⟩, .int .i64 (bn (s.row.ldL.getD 37 0)), .bool true] := by rw [hy, hz]; rfl
      rw [e] at this
      exact this
end Go.Proofs.YtkcdcogmnplhjaaDoor
