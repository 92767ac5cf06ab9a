/-
  Walks: the document's rows.
-/
import Derived.Test.YtkcdcogmnplhjaaDoorW1
import Derived.Test.YtkcdcogmnplhjaaDoorH
namespace Go.Proofs.YtkcdcogmnplhjaaDoor
open Go
set_option linter.unusedSimpArgs false
set_option linter.unusedVariables false
set_option linter.unnecessarySimpa false
set_option maxRecDepth 10000

abbrev u32 (w : BitVec 32) : Value := .int .u32 (bn w)
abbrev u64 (w : BitVec 64) : Value := .int .u64 (bn w)
/-- A row of protected words; how many were mended. -/
structure Row where
  ws : List (BitVec 64)
  fx : Int
/-- A row at m: its words, its struct (of type T). -/
def encR (T m : Nat) (x : Row) : List Blk := [⟨true, 63, x.ws.map u64⟩, ⟨true, T, [.slice (some ⟨m, 0, none⟩) x.ws.length x.ws.length, .int .i64 x.fx]⟩]
@[simp] theorem encR_len (T m : Nat) (x : Row) : (encR T m x).length = 2 := rfl
theorem encR_ne (T m : Nat) (x : Row) : encR T m x ≠ [] := by simp [encR]
theorem encR_le {h : List Blk} {T m : Nat} {x : Row} (H : At h m (encR T m x)) : m + 2 ≤ h.length := H.le (encR_ne T m x)
@[simp] theorem fls_u64 (l : List (BitVec 64)) : fls (l.map u64) = true := by induction l with | nil => rfl | cons x l ih => simpa using ih
@[simp] theorem bds_u64 (n : Nat) (l : List (BitVec 64)) : bds n (l.map u64) = true := by induction l with | nil => rfl | cons x l ih => simp [bds, bd, ih]
@[simp] theorem fls_u32 (l : List (BitVec 32)) : fls (l.map u32) = true := by induction l with | nil => rfl | cons x l ih => simpa using ih
@[simp] theorem bds_u32 (n : Nat) (l : List (BitVec 32)) : bds n (l.map u32) = true := by induction l with | nil => rfl | cons x l ih => simp [bds, bd, ih]
@[simp high] theorem all_u32 (l : List (BitVec 32)) : (l.map u32).all Value.oneCell' = true := by induction l with | nil => rfl | cons x l ih => simpa using ih
@[simp high] theorem all_u64 (l : List (BitVec 64)) : (l.map u64).all Value.oneCell' = true := by induction l with | nil => rfl | cons x l ih => simpa using ih
@[simp] theorem ints_u32 (l : List (BitVec 32)) : ints .u32 (l.map u32) = some (l.map bn) := by induction l with | nil => rfl | cons x l ih => simp [ints, ih]
@[simp] theorem map_bn_beq {n : Nat} (a b : List (BitVec n)) : (a.map bn == b.map bn) = (a == b) := by
  rw [Bool.eq_iff_iff, beq_iff_eq, beq_iff_eq]
  constructor
  · intro h; exact List.map_inj_right (fun x y e => by simpa using e) |>.1 h
  · intro h; rw [h]
theorem encR_bd (T : Nat) {m n : Nat} (x : Row) (h : m < n) : bdH n (encR T m x) = true := by simp [encR, bds, bd, Addr.bd, h]

theorem encR_put {h : List Blk} {T m : Nat} {x : Row} (H : At h m (encR T m x)) (k : Nat) (v : BitVec 64) :
    At (h.set m ⟨true, 63, (x.ws.map u64).set k (u64 v)⟩) m (encR T m ⟨x.ws.set k v, x.fx⟩) := by
  have hl := encR_le H
  simp only [encR, at_cons, at_nil, and_true] at H ⊢
  refine ⟨by rw [List.getElem?_set_self (by omega), List.map_set], ?_⟩
  rw [List.getElem?_set_ne (by omega), H.2, List.length_set]
theorem encR_fx {h : List Blk} {T m : Nat} {x : Row} (H : At h m (encR T m x)) (f : Int) :
    At (h.set (m + 1) ⟨true, T, [.slice (some ⟨m, 0, none⟩) x.ws.length x.ws.length, .int .i64 f]⟩) m (encR T m ⟨x.ws, f⟩) := by
  have hl := encR_le H
  simp only [encR, at_cons, at_nil, and_true] at H ⊢
  exact ⟨by rw [List.getElem?_set_ne (by omega)]; exact H.1, List.getElem?_set_self (by omega)⟩

def getS (ws : List (BitVec 64)) (i : Int) : Nat := if 0 ≤ i then match ws[i.toNat]? with | some w => mendS w | none => 2 else 2
def getN (ws : List (BitVec 64)) (i : Int) : BitVec 32 := if 0 ≤ i then match ws[i.toNat]? with | some w => (mendW w).setWidth 32 | none => 0 else 0
def getW (ws : List (BitVec 64)) (i : Int) : List (BitVec 64) := if 0 ≤ i then match ws[i.toNat]? with | some w => if mendS w = 1 then ws.set i.toNat (mendW w) else ws | none => ws else ws
def putB (ws : List (BitVec 64)) (i : Int) : Bool := decide (0 ≤ i ∧ i < ws.length)
def putW (ws : List (BitVec 64)) (i : Int) (n : BitVec 32) : List (BitVec 64) := if 0 ≤ i then ws.set i.toNat (enc n) else ws
def flipB (ws : List (BitVec 64)) (i : Int) : Bool := decide (0 ≤ i ∧ i < 39 * ws.length)
def flipW (ws : List (BitVec 64)) (i : Int) : List (BitVec 64) := if 0 ≤ i then match ws[i.toNat / 39]? with | some w => ws.set (i.toNat / 39) (w ^^^ (1#64 <<< (i.toNat % 39))) | none => ws else ws
/-- A row behind Get, Put, Flip. -/
def Row.get (x : Row) (i : Int) : Row := ⟨getW x.ws i, if getS x.ws i = 1 then IntKind.i64.wrap (x.fx + 1) else x.fx⟩
def Row.put (x : Row) (i : Int) (n : BitVec 32) : Row := ⟨putW x.ws i n, x.fx⟩
def Row.flip (x : Row) (i : Int) : Row := ⟨flipW x.ws i, x.fx⟩
theorem getW_len (ws : List (BitVec 64)) (i : Int) : (getW ws i).length = ws.length := by
  unfold getW; split <;> first | rfl | (split <;> first | rfl | (split <;> simp))
theorem putW_len (ws : List (BitVec 64)) (i : Int) (n : BitVec 32) : (putW ws i n).length = ws.length := by
  unfold putW; split <;> simp
theorem flipW_len (ws : List (BitVec 64)) (i : Int) : (flipW ws i).length = ws.length := by
  unfold flipW; split <;> first | rfl | (split <;> simp)
@[simp] theorem Row.get_len (x : Row) (i : Int) : (x.get i).ws.length = x.ws.length := getW_len _ _
@[simp] theorem Row.put_len (x : Row) (i : Int) (n : BitVec 32) : (x.put i n).ws.length = x.ws.length := putW_len _ _ _
@[simp] theorem Row.flip_len (x : Row) (i : Int) : (x.flip i).ws.length = x.ws.length := flipW_len _ _
theorem Row.get_no {x : Row} {i : Int} (h : getS x.ws i ≠ 1) : x.get i = x := by
  unfold Row.get
  rw [if_neg h]
  have : getW x.ws i = x.ws := by
    unfold getW; unfold getS at h
    split
    · rename_i hi; rw [if_pos hi] at h
      cases hq : x.ws[i.toNat]? with
      | none => rfl
      | some w => rw [hq] at h; simp only at h ⊢; rw [if_neg h]
    · rfl
  rw [this]
theorem getS_out {ws : List (BitVec 64)} {i : Int} (h : ¬ (0 ≤ i ∧ i < ws.length)) : getS ws i = 2 ∧ getN ws i = 0 := by
  unfold getS getN
  split
  · have : ws[i.toNat]? = none := List.getElem?_eq_none (by omega)
    rw [this]; exact ⟨rfl, rfl⟩
  · exact ⟨rfl, rfl⟩
theorem get_at {ws : List (BitVec 64)} {k : Nat} {w : BitVec 64} (h : ws[k]? = some w) :
    getS ws k = mendS w ∧ getN ws k = (mendW w).setWidth 32 ∧ getW ws k = if mendS w = 1 then ws.set k (mendW w) else ws := by
  simp [getS, getN, getW, h]

theorem c_rGet (G : Glob) (h : List Blk) (m : Nat) (x : Row) (H : At h m (encR 62 m x)) (i : Int) (K : Value → List Blk → Prop)
    (hK : ∀ h', At h' m (encR 62 m (x.get i)) → Fr h h' [(m, 2)] → K (.tuple #[u32 (getN x.ws i), .int .i64 (getS x.ws i : Int)]) h') :
    CC Tryd.prog G 24 [.pointer (some ⟨m + 1, 0, none⟩), .int .i64 i] h K := by
  refine CC.introB Tryd.func24 (by rfl) rfl 47 rfl (fun hB hbA => ?_)
  have H0 := H
  simp [encR] at H
  obtain ⟨hb, hr⟩ := H
  simp
  by_cases h0 : i < 0
  · simp [h0]
    have e := getS_out (ws := x.ws) (i := i) (by omega)
    have e2 : x.get i = x := Row.get_no (by omega)
    have := hK h
    rw [e2, e.1, e.2] at this
    exact retK_all (this H0 (Fr.refl _ _))
  · simp [h0, hr]
    by_cases h1 : (x.ws.length : Int) ≤ i
    · simp [h1]
      have e := getS_out (ws := x.ws) (i := i) (by omega)
      have e2 : x.get i = x := Row.get_no (by omega)
      have := hK h
      rw [e2, e.1, e.2] at this
      exact retK_all (this H0 (Fr.refl _ _))
    · obtain ⟨n, rfl⟩ : ∃ n : Nat, i = n := ⟨i.toNat, by omega⟩
      have h2 : n < x.ws.length := by omega
      obtain ⟨w, hg⟩ : ∃ w, x.ws[n]'h2 = w := ⟨_, rfl⟩
      have hw : x.ws[n]? = some w := by rw [List.getElem?_eq_getElem h2, hg]
      obtain ⟨e1, e2, e3⟩ := get_at hw
      simp [h1, hr, hb, h2, hg]
      refine c_rMend G w h _ ?_
      simp
      refine condP_split (fun h3 => ?_) (fun h3 => ?_)
      · have h4 : mendS w = 1 := by simp at h3; omega
        have hbl : m < h.length := (List.getElem?_eq_some_iff.1 hb).1
        have hrl : m + 1 < h.length := (List.getElem?_eq_some_iff.1 hr).1
        have H1 := encR_put H0 n (mendW w)
        have H2 := encR_fx H1 (IntKind.i64.wrap (x.fx + 1))
        rw [List.length_set] at H2
        have e4 : x.get n = ⟨x.ws.set n (mendW w), IntKind.i64.wrap (x.fx + 1)⟩ := by
          unfold Row.get; rw [e1, if_pos h4, e3, if_pos h4]
        have := hK _ (e4 ▸ H2) ((Fr.set (by simp; omega)).trans (Fr.set (by simp; omega)))
        rw [e1, e2] at this
        simp [h1, hr, hb, h2, h4]
        simp only [h4] at this
        exact retK_all this
      · have h4 : mendS w ≠ 1 := by simp at h3; omega
        simp
        have e4 : x.get n = x := Row.get_no (by rw [e1]; exact h4)
        have := hK h (e4.symm ▸ H0) (Fr.refl _ _)
        rw [e1, e2] at this
        exact retK_all this

theorem putW_out {ws : List (BitVec 64)} {i : Int} (n : BitVec 32) (h : putB ws i = false) : putW ws i n = ws := by
  unfold putW
  split
  · simp [putB] at h; exact List.set_eq_of_length_le (by omega)
  · rfl
theorem flipW_out {ws : List (BitVec 64)} {i : Int} (h : flipB ws i = false) : flipW ws i = ws := by
  unfold flipW
  split
  · have : ws[i.toNat / 39]? = none := by simp [flipB] at h; exact List.getElem?_eq_none (by omega)
    rw [this]
  · rfl

theorem c_rPut (G : Glob) (h : List Blk) (m : Nat) (x : Row) (H : At h m (encR 62 m x)) (i : Int) (n : BitVec 32) (K : Value → List Blk → Prop)
    (hK : ∀ h', At h' m (encR 62 m (x.put i n)) → Fr h h' [(m, 2)] → K (.bool (putB x.ws i)) h') :
    CC Tryd.prog G 29 [.pointer (some ⟨m + 1, 0, none⟩), .int .i64 i, u32 n] h K := by
  refine CC.introB Tryd.func29 (by rfl) rfl 23 rfl (fun hB hbA => ?_)
  have H0 := H
  simp [encR] at H
  obtain ⟨hb, hr⟩ := H
  simp
  by_cases h0 : i < 0
  · simp [h0]
    have e : putB x.ws i = false := by simp [putB]; omega
    have e2 : x.put i n = x := by unfold Row.put; rw [putW_out n e]
    have := hK h (e2.symm ▸ H0) (Fr.refl _ _)
    rw [e] at this
    exact retK_all this
  · simp [h0, hr]
    by_cases h1 : (x.ws.length : Int) ≤ i
    · simp [h1]
      have e : putB x.ws i = false := by simp [putB]; omega
      have e2 : x.put i n = x := by unfold Row.put; rw [putW_out n e]
      have := hK h (e2.symm ▸ H0) (Fr.refl _ _)
      rw [e] at this
      exact retK_all this
    · obtain ⟨k, rfl⟩ : ∃ n : Nat, i = n := ⟨i.toNat, by omega⟩
      have h2 : k < x.ws.length := by omega
      have e : putB x.ws k = true := by simp [putB]; omega
      have e2 : x.put k n = ⟨x.ws.set k (enc n), x.fx⟩ := by simp [Row.put, putW]
      rw [e, e2] at hK
      simp [h1]
      refine drawE_intro (.st 0 0 <| .st 1 0 <| .st 2 0 <| .st 3 0 <| .st 4 0 <| .st 5 0 <| .st 6 1 <| .st 7 0 <| .st 8 2 .done) (by kernel_rfl) (by kernel_rfl) (by kernel_rfl) ?_
      simp [h1, hr, hb, h2]
      refine c_rEnc G n h _ ?_
      simp [h1, hr, hb, h2, seg]
      exact retK_all (hK _ (encR_put H0 k (enc n)) (Fr.set (by simp; omega)))

theorem c_rFlip (G : Glob) (h : List Blk) (m : Nat) (x : Row) (H : At h m (encR 62 m x)) (hle : x.ws.length ≤ 2048) (i : Int) (K : Value → List Blk → Prop)
    (hK : ∀ h', At h' m (encR 62 m (x.flip i)) → Fr h h' [(m, 2)] → K (.bool (flipB x.ws i)) h') :
    CC Tryd.prog G 14 [.pointer (some ⟨m + 1, 0, none⟩), .int .i64 i] h K := by
  refine CC.introB Tryd.func14 (by rfl) rfl 35 rfl (fun hB hbA => ?_)
  have H0 := H
  simp [encR] at H
  obtain ⟨hb, hr⟩ := H
  simp
  by_cases h0 : i < 0
  · simp [h0]
    have e : flipB x.ws i = false := by simp [flipB]; omega
    have e2 : x.flip i = x := by unfold Row.flip; rw [flipW_out e]
    have := hK h (e2.symm ▸ H0) (Fr.refl _ _)
    rw [e] at this
    exact retK_all this
  · have e9 : IntKind.i64.wrap (39 * (x.ws.length : Int)) = 39 * (x.ws.length : Int) := wrap_i64 (by omega)
    simp [h0, hr, e9]
    by_cases h1 : 39 * (x.ws.length : Int) ≤ i
    · simp [h1]
      have e : flipB x.ws i = false := by simp [flipB]; omega
      have e2 : x.flip i = x := by unfold Row.flip; rw [flipW_out e]
      have := hK h (e2.symm ▸ H0) (Fr.refl _ _)
      rw [e] at this
      exact retK_all this
    · obtain ⟨k, rfl⟩ : ∃ n : Nat, i = n := ⟨i.toNat, by omega⟩
      have h2 : k / 39 < x.ws.length := by omega
      obtain ⟨w, hg⟩ : ∃ w, x.ws[k / 39]'h2 = w := ⟨_, rfl⟩
      have hw : x.ws[k / 39]? = some w := by rw [List.getElem?_eq_getElem h2, hg]
      have e : flipB x.ws k = true := by simp [flipB]; omega
      have e2 : x.flip k = ⟨x.ws.set (k / 39) (w ^^^ (1#64 <<< (k % 39))), x.fx⟩ := by simp [Row.flip, flipW, hw]
      rw [e, e2] at hK
      have e3 : Int.tdiv (k : Int) 39 = ((k / 39 : Nat) : Int) := rfl
      have e4 : Int.tmod (k : Int) 39 = ((k % 39 : Nat) : Int) := rfl
      have e5 : IntKind.i64.wrap ((k / 39 : Nat) : Int) = ((k / 39 : Nat) : Int) := wrap_i64 (by omega)
      have e6 : (BitVec.ofNat 64 (k % 39)).toNat = k % 39 := by rw [BitVec.toNat_ofNat]; omega
      simp [h1]
      refine drawE_intro (.st 0 0 <| .st 1 0 <| .st 2 0 <| .st 3 0 <| .st 4 0 <| .st 5 0 <| .st 6 0 <| .st 7 0 <| .st 8 0 <| .st 9 0 <| .st 10 0 <| .st 11 0 <| .st 12 0 <| .st 13 0 <| .st 14 0 <| .st 15 0 <| .st 16 0 <| .st 17 0 <| .st 18 0 <| .st 19 0 <| .st 20 2 .done) (by kernel_rfl) (by kernel_rfl) (by kernel_rfl) ?_
      simp [h1, hr, hb, h2, e3, e4, e5, e6, hg, -Int.natCast_ediv, -Int.natCast_emod]
      exact retK_all (hK _ (encR_put H0 (k / 39) _) (Fr.set (by simp; omega)))

theorem rep_one (n : Nat) (v : Value) : rep n [v] = List.replicate n v := by
  induction n with
  | zero => rfl
  | succ n ih => simp [rep, List.replicate_succ] at ih ⊢; try exact ih
def Row.new (n : Nat) : Row := ⟨List.replicate n 0#64, 0⟩

theorem c_rNew (G : Glob) (h : List Blk) (n : Nat) (hn : n ≤ 2048) (K : Value → List Blk → Prop)
    (hK : K (.pointer (some ⟨h.length + 1, 0, none⟩)) (h ++ encR 62 h.length (Row.new n))) :
    CC Tryd.prog G 20 [.int .i64 (n : Int)] h K := by
  refine CC.introB Tryd.func20 (by rfl) rfl 8 rfl (fun hB hbA => ?_)
  have e1 : ¬ (2048 : Int) < n := by omega
  have e2 : ¬ (n : Int) < 0 := by omega
  simp [e1, e2, rep_one]
  refine ⟨by omega, by omega, retK_all ?_⟩
  simp [encR, Row.new] at hK
  exact hK
end Go.Proofs.YtkcdcogmnplhjaaDoor
