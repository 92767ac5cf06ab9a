/-
  Walks: checkpoints: Save of the program under proof.
-/
import Derived.Test.YtkcdcogmnplhjaaDoorW7
namespace Go.Proofs.YtkcdcogmnplhjaaDoor
open Go
set_option linter.unusedSimpArgs false
set_option linter.unusedVariables false
set_option linter.unnecessarySimpa false
set_option maxRecDepth 10000

/-- A row behind k words written from a place on. -/
def Row.puts (x : Row) (base : Nat) (l : List (BitVec 32)) : Nat → Row
  | 0 => x
  | k + 1 => (x.puts base l k).put (base + k : Nat) (l.getD k 0)
@[simp] theorem Row.puts_len (x : Row) (base : Nat) (l : List (BitVec 32)) (k : Nat) : (x.puts base l k).ws.length = x.ws.length := by
  induction k with
  | zero => rfl
  | succ k ih => rw [Row.puts, Row.put_len, ih]
def Row.copyIn (x : Row) (c : Nat) (l : List (BitVec 32)) : Row := (x.puts (39 * c) l 38).put (39 * c + 38 : Nat) (mark (l.getD 37 0))
@[simp] theorem Row.copyIn_len (x : Row) (c : Nat) (l : List (BitVec 32)) : (x.copyIn c l).ws.length = x.ws.length := by simp [Row.copyIn]
def cntN (n : Int) : BitVec 32 := BitVec.ofInt 32 (max 0 (min n 2147483647))
def svL (pc : BitVec 32) (regs csrs : List (BitVec 32)) (n : Int) : List (BitVec 32) := pc :: (regs.drop 1 ++ (csrs ++ [cntN n]))
/-- The row behind a Save. -/
def Row.save (x : Row) (l : List (BitVec 32)) : Row := ((x.get 78).copyIn (1 - x.ldc) l).put 78 (BitVec.ofNat 32 (1 - x.ldc))
@[simp] theorem Row.save_len (x : Row) (l : List (BitVec 32)) : (x.save l).ws.length = x.ws.length := by simp [Row.save]
def Sv.save (s : Sv) (l : List (BitVec 32)) : Sv := ⟨s.row.save l, s.ix⟩
theorem Sv.save_ok {s : Sv} (h : s.Ok) (l : List (BitVec 32)) : (s.save l).Ok := ⟨by simp [Sv.save, h.len], by simp only [Sv.save]; exact h.lt⟩
theorem svL_len {regs csrs : List (BitVec 32)} (hr : regs.length = 32) (hc : csrs.length = 5) (pc : BitVec 32) (n : Int) : (svL pc regs csrs n).length = 38 := by
  rw [svL, List.length_cons, List.length_append, List.length_drop, List.length_append, hr, hc]; rfl
theorem svL_reg {regs csrs : List (BitVec 32)} (hr : regs.length = 32) (pc : BitVec 32) (n : Int) {i : Nat} (h1 : i < 31) : (svL pc regs csrs n).getD (1 + i) 0 = regs.getD (1 + i) 0 := by
  unfold svL
  rw [List.getD_eq_getElem?_getD, List.getD_eq_getElem?_getD, Nat.add_comm 1 i, List.getElem?_cons_succ, List.getElem?_append_left (by simp [hr]; omega), List.getElem?_drop, Nat.add_comm 1 i]
theorem svL_csr {regs csrs : List (BitVec 32)} (hr : regs.length = 32) (hc : csrs.length = 5) (pc : BitVec 32) (n : Int) {i : Nat} (h1 : i < 5) : (svL pc regs csrs n).getD (32 + i) 0 = csrs.getD i 0 := by
  unfold svL
  rw [List.getD_eq_getElem?_getD, List.getD_eq_getElem?_getD, show 32 + i = 31 + i + 1 by omega, List.getElem?_cons_succ, List.getElem?_append_right (by rw [List.length_drop, hr]; omega), List.length_drop, hr, show 31 + i - (32 - 1) = i by omega, List.getElem?_append_left (by omega)]
theorem svL_n {regs csrs : List (BitVec 32)} (hr : regs.length = 32) (hc : csrs.length = 5) (pc : BitVec 32) (n : Int) : (svL pc regs csrs n).getD 37 0 = cntN n := by
  unfold svL
  rw [List.getD_eq_getElem?_getD, show 37 = 36 + 1 from rfl, List.getElem?_cons_succ, List.getElem?_append_right (by rw [List.length_drop, hr]; omega), List.length_drop, hr, List.getElem?_append_right (by omega), hc]
  rfl

/-- What the loops of Save keep. -/
def SI (h : List Blk) (m : Nat) (s : Sv) (regs csrs : List (BitVec 32)) (c : Nat) (l : List (BitVec 32)) (h' : List Blk) (k : Nat) : Prop :=
  At h' m (encVi m ⟨(s.row.get 78).puts (39 * c) l k, s.ix⟩) ∧ At h' h.length [⟨true, 27, regs.map u32⟩, ⟨true, 28, csrs.map u32⟩] ∧ Gr h h' [(m, 3)]
theorem SI.put {h : List Blk} {m : Nat} {s : Sv} {regs csrs : List (BitVec 32)} {c : Nat} {l : List (BitVec 32)} {h' h2 : List Blk} {k : Nat} (hm : m + 3 ≤ h.length) (H : SI h m s regs csrs c l h' k)
    (H2 : At h2 m (encR 66 m (((s.row.get 78).puts (39 * c) l k).put (39 * c + k : Nat) (l.getD k 0)))) (hf : Fr h' h2 [(m, 2)]) : SI h m s regs csrs c l h2 (k + 1) := by
  obtain ⟨a, b, g⟩ := H
  exact ⟨encV_row (s := ⟨(s.row.get 78).puts (39 * c) l k, s.ix⟩) a H2 hf, b.same fun j h1 h2 => hf.same j (by simp; omega), g.then hf fun j _ hj => by simp at hj ⊢; omega⟩

theorem c_sSave (G : Glob) (hT : TZC G) (h : List Blk) (m : Nat) (s : Sv) (hs : s.Ok) (H : At h m (encVi m s)) (pc : BitVec 32) (regs csrs : List (BitVec 32)) (hr : regs.length = 32) (hc : csrs.length = 5) (n : Int) (K : Value → List Blk → Prop)
    (hK : ∀ h', At h' m (encVi m (s.save (svL pc regs csrs n))) → Fr h h' [(m, 3)] → K (.tuple #[]) h') :
    CC Tryd.prog G 15 [.pointer (some ⟨m + 2, 0, none⟩), u32 pc, .agg ⟨regs.map u32⟩, .agg ⟨csrs.map u32⟩, .int .i64 n] h K := by
  refine CC.introB Tryd.func15 (by rfl) rfl 98 rfl (fun hB hbA => ?_)
  have hm := encV_le H
  have hap : ∀ X : List Blk, (h ++ X)[m + 2]? = _ := fun X => (List.getElem?_append_left (by omega)).trans (encV_get H).2
  simp [-Int.natCast_add, -Int.natCast_mul, -Int.natCast_emod, -Int.natCast_ediv, hap]
  have H0 := H.app [⟨true, 27, regs.map u32⟩, ⟨true, 28, csrs.map u32⟩]
  have G0 := Gr.app h [⟨true, 27, regs.map u32⟩, ⟨true, 28, csrs.map u32⟩] [(m, 3)]
  have L0 := at_new h [⟨true, 27, regs.map u32⟩, ⟨true, 28, csrs.map u32⟩]
  generalize h ++ [_, _] = h0 at H0 G0 L0
  refine c_iGet G hT h0 m s.row (encV_get H0).1 78 _ fun h1 H1 hf1 => ?_
  have H1v := encV_row H0 H1 hf1
  generalize hl : svL pc regs csrs n = l at hK
  have hc1 := s.row.ldc_lt
  have hcl : ∃ c, c = 1 - s.row.ldc ∧ c < 2 := ⟨_, rfl, by omega⟩
  obtain ⟨c, hcc, hc2⟩ := hcl
  have I1 : SI h m s regs csrs c l h1 0 := ⟨H1v, L0.same fun j h1 h2 => hf1.same j (by simp; omega), G0.then hf1 fun j _ hj => by simp at hj ⊢; omega⟩
  have e7 : 1#32 - (getN s.row.ws 78 &&& 1#32) = BitVec.ofNat 32 c := by
    have h1 : (1#32 - (getN s.row.ws 78 &&& 1#32)).toNat = c := by rw [BitVec.toNat_sub_of_le (by rw [BitVec.le_def]; show s.row.ldc ≤ 1; omega), hcc]; rfl
    apply BitVec.eq_of_toNat_eq
    rw [h1, BitVec.toNat_ofNat, Nat.mod_eq_of_lt (by omega)]
  have e8 : bn (BitVec.ofNat 32 c) = (c : Int) := by rw [bn_def, BitVec.toNat_ofNat, Nat.mod_eq_of_lt (by omega)]
  have e9 : IntKind.i64.wrap ((c : Int) * 39) = ((39 * c : Nat) : Int) := by rw [wrap_i64 (by omega)]; omega
  have e9' : IntKind.i64.wrap (c : Int) = (c : Int) := wrap_i64 (by omega)
  have e10 : ∀ j : Nat, j < 40 → IntKind.i64.wrap (((39 * c : Nat) : Int) + (j : Int)) = ((39 * c + j : Nat) : Int) := fun j hj => by rw [wrap_i64 (by omega)]; omega
  have e10a : IntKind.i64.wrap ((39 * c : Nat) : Int) = ((39 * c : Nat) : Int) := wrap_i64 (by omega)
  obtain ⟨_, P1⟩ := encV_get H1v
  simp [-Int.natCast_add, -Int.natCast_mul, -Int.natCast_emod, -Int.natCast_ediv, P1, e7, e8, e9, e9', e10a]
  refine c_iPut G hT h1 m _ H1 _ pc _ fun h2 H2 hf2 => ?_
  have I2 : SI h m s regs csrs c l h2 1 := I1.put hm (by rw [← hl]; exact H2) hf2
  have P2 := (encV_get I2.1).2
  have L2 := I2.2.1
  simp only [at_cons, at_nil, and_true] at L2
  simp [-Int.natCast_add, -Int.natCast_mul, -Int.natCast_emod, -Int.natCast_ediv, L2.1, L2.2, hr, hc]
  refine loopP_m [48, 49, 50, 51, 15, 16, 52, 53, 54, 55, 56, 57, 58, 59, 60, 61, 62, 47] (α := List Blk × Nat) (fun a => [(47, .int .i64 (a.2 : Int))]) (fun a => a.1) (fun a => a.2 ≤ 31 ∧ SI h m s regs csrs c l a.1 (1 + a.2)) (fun a => 31 - a.2) (h2, 0) ⟨by simp, I2⟩ (by simp [-Int.natCast_add, -Int.natCast_mul, -Int.natCast_emod, -Int.natCast_ediv]) ?_
  rintro ⟨h3, k⟩ ⟨hk, I3⟩
  simp only at hk I3
  have P3 := (encV_get I3.1).2
  have L3 := I3.2.1
  simp only [at_cons, at_nil, and_true] at L3
  have e11 : ∀ j : Nat, j < 40 → IntKind.i64.wrap (IntKind.i64.wrap (((39 * c : Nat) : Int) + 1) + (j : Int)) = ((39 * c + (1 + j) : Nat) : Int) := fun j hj => by rw [wrap_i64 (n := _ + 1) (by omega), wrap_i64 (by omega)]; omega
  have e12 : ∀ j : Nat, j < 40 → IntKind.i64.wrap (IntKind.i64.wrap (((39 * c : Nat) : Int) + 32) + (j : Int)) = ((39 * c + (32 + j) : Nat) : Int) := fun j hj => by rw [wrap_i64 (n := _ + 32) (by omega), wrap_i64 (by omega)]; omega
  simp [-Int.natCast_add, -Int.natCast_mul, -Int.natCast_emod, -Int.natCast_ediv]
  refine condP_split (fun h1 => ?_) (fun h1 => ?_)
  · have hlt : k < 31 := by simp at h1; omega
    have hlt' : (k : Int) < 31 := by omega
    have e13 := e11 k (by omega)
    have e3 : IntKind.i64.wrap ((k : Int) + 1) = ((k + 1 : Nat) : Int) := by rw [wrap_i64 (by omega)]; omega
    obtain ⟨v, hv⟩ : ∃ v, regs[1 + k]'(by omega) = v := ⟨_, rfl⟩
    have hvd : l.getD (1 + k) 0 = v := by
      rw [← hl, svL_reg hr pc n hlt, List.getD_eq_getElem?_getD, List.getElem?_eq_getElem (by omega), hv]; rfl
    have hkl : 1 + k < regs.length := by omega
    simp [-Int.natCast_add, -Int.natCast_mul, -Int.natCast_emod, -Int.natCast_ediv, P3, L3.1, hlt, hlt', hkl, hv, e13]
    refine c_iPut G hT h3 m _ (encV_get I3.1).1 _ v _ fun h4 H4 hf4 => ?_
    have I4 := I3.put hm (by rw [hvd]; exact H4) hf4
    simp [-Int.natCast_add, -Int.natCast_mul, -Int.natCast_emod, -Int.natCast_ediv, e3]
    exact ⟨h4, k + 1, ⟨by omega, I4⟩, by simp, by omega⟩
  have hlt : k = 31 := by simp at h1; omega
  subst hlt
  simp [-Int.natCast_add, -Int.natCast_mul, -Int.natCast_emod, -Int.natCast_ediv, P3, L3.2, hc]
  refine loopP_m [65, 66, 67, 17, 18, 68, 69, 70, 71, 72, 73, 74, 75, 76, 77, 78, 64] (α := List Blk × Nat) (fun a => [(64, .int .i64 (a.2 : Int))]) (fun a => a.1) (fun a => a.2 ≤ 5 ∧ SI h m s regs csrs c l a.1 (32 + a.2)) (fun a => 5 - a.2) (h3, 0) ⟨by simp, I3⟩ (by simp [-Int.natCast_add, -Int.natCast_mul, -Int.natCast_emod, -Int.natCast_ediv]) ?_
  clear h1 hk
  rintro ⟨h4, k⟩ ⟨hk, I4⟩
  simp only at hk I4
  have P4 := (encV_get I4.1).2
  simp [-Int.natCast_add, -Int.natCast_mul, -Int.natCast_emod, -Int.natCast_ediv]
  refine condP_split (fun h1 => ?_) (fun h1 => ?_)
  · have hlt : k < 5 := by simp at h1; omega
    have hlt' : (k : Int) < 5 := by omega
    have e13 := e12 k (by omega)
    have e3 : IntKind.i64.wrap ((k : Int) + 1) = ((k + 1 : Nat) : Int) := by rw [wrap_i64 (by omega)]; omega
    obtain ⟨v, hv⟩ : ∃ v, csrs[k]'(by omega) = v := ⟨_, rfl⟩
    have hvd : l.getD (32 + k) 0 = v := by
      rw [← hl, svL_csr hr hc pc n hlt, List.getD_eq_getElem?_getD, List.getElem?_eq_getElem (by omega), hv]; rfl
    have hkl : k < csrs.length := by omega
    simp [-Int.natCast_add, -Int.natCast_mul, -Int.natCast_emod, -Int.natCast_ediv, P4, hlt, hlt', hkl, hv, e13]
    refine c_iPut G hT h4 m _ (encV_get I4.1).1 _ v _ fun h5 H5 hf5 => ?_
    have I5 := I4.put hm (by rw [hvd]; exact H5) hf5
    simp [-Int.natCast_add, -Int.natCast_mul, -Int.natCast_emod, -Int.natCast_ediv, e3]
    exact ⟨h5, k + 1, ⟨by omega, I5⟩, by simp, by omega⟩
  have hlt : k = 5 := by simp at h1; omega
  subst hlt
  have emx : (if 0 < if 2147483647 < n then 2147483647 else n then if 2147483647 < n then 2147483647 else n else 0) = max 0 (min n 2147483647) := by omega
  have e37 : IntKind.i64.wrap (((39 * c : Nat) : Int) + 37) = ((39 * c + 37 : Nat) : Int) := by rw [wrap_i64 (by omega)]; omega
  have e38 : IntKind.i64.wrap (((39 * c : Nat) : Int) + 38) = ((39 * c + 38 : Nat) : Int) := by rw [wrap_i64 (by omega)]; omega
  have hn : l.getD 37 0 = cntN n := by rw [← hl]; exact svL_n hr hc pc n
  simp [-Int.natCast_add, -Int.natCast_mul, -Int.natCast_emod, -Int.natCast_ediv, P4, emx, e37]
  refine c_iPut G hT h4 m _ (encV_get I4.1).1 _ (cntN n) _ fun h5 H5 hf5 => ?_
  have I5 := I4.put hm (by rw [hn]; exact H5) hf5
  have P5 := (encV_get I5.1).2
  simp [-Int.natCast_add, -Int.natCast_mul, -Int.natCast_emod, -Int.natCast_ediv, P5, emx, e38]
  refine c_iPut G hT h5 m _ (encV_get I5.1).1 _ (mark (cntN n)) _ fun h6 H6 hf6 => ?_
  have I6 := encV_row (s := ⟨(s.row.get 78).puts (39 * c) l 38, s.ix⟩) I5.1 H6 hf6
  have P6 := (encV_get I6).2
  simp [-Int.natCast_add, -Int.natCast_mul, -Int.natCast_emod, -Int.natCast_ediv, P6]
  rw [← e8]
  refine c_iPut G hT h6 m _ (encV_get I6).1 78 (BitVec.ofNat 32 c) _ fun h7 H7 hf7 => ?_
  have I7 := encV_row I6 H7 hf7
  simp [-Int.natCast_add, -Int.natCast_mul, -Int.natCast_emod, -Int.natCast_ediv]
  have G7 : Gr h h7 [(m, 3)] := (I5.2.2.then hf6 fun j _ hj => by simp at hj ⊢; omega).then hf7 fun j _ hj => by simp at hj ⊢; omega
  have e : encVi m ⟨(((s.row.get 78).puts (39 * c) l 38).put ((39 * c + 38 : Nat) : Int) (mark (cntN n))).put 78 (BitVec.ofNat 32 c), s.ix⟩ = encVi m (s.save l) := by
    rw [Sv.save, Row.save, Row.copyIn, ← hcc, hn]
  refine retK_one (l := encVi m (s.save l)) hB (by rw [← e]; exact I7) rfl G7 hm (encV_bd _ _ _ (by omega)) (by simp [bd, bds]) hK
end Go.Proofs.YtkcdcogmnplhjaaDoor
