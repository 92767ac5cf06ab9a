/-
  Walks: checkpoints: the words of a copy.
-/
import Derived.Test.YtkcdcogmnplhjaaDoorW5
namespace Go.Proofs.YtkcdcogmnplhjaaDoor
open Go
set_option linter.unusedSimpArgs false
set_option linter.unusedVariables false
set_option linter.unnecessarySimpa false
set_option maxRecDepth 10000

/-- A row behind k readings from a place on; what they told; whether all could be told. -/
def Row.rds (x : Row) (base : Nat) : Nat → Row
  | 0 => x
  | k + 1 => (x.rds base k).get (base + k : Nat)
def Row.rdN (x : Row) (base k : Nat) : BitVec 32 := getN (x.rds base k).ws (base + k : Nat)
def Row.rdOk (x : Row) (base : Nat) : Nat → Bool
  | 0 => true
  | k + 1 => x.rdOk base k && (getS (x.rds base k).ws (base + k : Nat) != 2)
@[simp] theorem Row.rds_len (x : Row) (base k : Nat) : (x.rds base k).ws.length = x.ws.length := by
  induction k with
  | zero => rfl
  | succ k ih => rw [Row.rds, Row.get_len, ih]
def mark (n : BitVec 32) : BitVec 32 := 1526595584#32 ||| (n &&& 65535#32)
/-- The words of a copy; are they right? -/
def Row.cp (x : Row) (c : Nat) : List (BitVec 32) := (List.range 39).map (x.rdN (39 * c))
def Row.cpOk (x : Row) (c : Nat) : Bool := x.rdOk (39 * c) 39 && (x.rdN (39 * c) 38 == mark (x.rdN (39 * c) 37))
def Row.cpR (x : Row) (c : Nat) : Row := x.rds (39 * c) 39
@[simp] theorem Row.cp_len (x : Row) (c : Nat) : (x.cp c).length = 39 := by simp [Row.cp]
def outL (x : Row) (base k : Nat) : List (BitVec 32) := (List.range 39).map fun i => if i < k then x.rdN base i else 0
@[simp] theorem outL_len (x : Row) (base k : Nat) : (outL x base k).length = 39 := by simp [outL]
theorem outL_set (x : Row) (base k : Nat) (hk : k < 39) : (outL x base k).set k (x.rdN base k) = outL x base (k + 1) := by
  apply List.ext_getElem
  · simp
  · intro i h1 h2
    rw [List.getElem_set]
    simp only [outL, List.getElem_map, List.getElem_range]
    by_cases h : k = i
    · subst h; simp
    · rw [if_neg h]
      by_cases h3 : i < k
      · rw [if_pos h3, if_pos (by omega)]
      · rw [if_neg h3, if_neg (by omega)]
theorem outL_end (x : Row) (c : Nat) : outL x (39 * c) 39 = x.cp c := by
  unfold outL Row.cp
  apply List.map_congr_left
  intro i hi
  rw [if_pos (List.mem_range.1 hi)]
theorem outL_zero (x : Row) (base : Nat) : (outL x base 0).map u32 = List.replicate 39 (.int .u32 0) := rfl
theorem one_u32 (l : List (BitVec 32)) : (l.map u32).all Value.oneCell' = true := all_u32 l
theorem Row.cp_ix (x : Row) (c i : Nat) (h : i < (x.cp c).length) : (x.cp c)[i]'h = x.rdN (39 * c) i := by simp [Row.cp]
theorem Row.cp_get (x : Row) (c i : Nat) (hi : i < 39) : (x.cp c)[i]? = some (x.rdN (39 * c) i) := by simp [Row.cp, hi]

/-- What the loop over a copy's words keeps. -/
def WI (h : List Blk) (m : Nat) (s : Sv) (c : Nat) (h' : List Blk) (k : Nat) : Prop :=
  k ≤ 39 ∧ At h' m (encVi m ⟨s.row.rds (39 * c) k, s.ix⟩) ∧ At h' h.length [⟨true, 54, List.replicate 39 (.int .u32 0)⟩, ⟨true, 54, (outL s.row (39 * c) k).map u32⟩] ∧ Gr h h' [(m, 3)]

theorem c_words (G : Glob) (hT : TZC G) (h : List Blk) (m : Nat) (s : Sv) (hs : s.Ok) (H : At h m (encVi m s)) (c : Nat) (hc : c < 2) (K : Value → List Blk → Prop)
    (hK : ∀ h', At h' m (encVi m ⟨s.row.cpR c, s.ix⟩) → Fr h h' [(m, 3)] → K (.tuple #[.agg ⟨(s.row.cp c).map u32⟩, .bool (s.row.cpOk c)]) h') :
    CC Tryd.prog G 23 [.pointer (some ⟨m + 2, 0, none⟩), .int .i64 (c : Int)] h K := by
  refine CC.introB Tryd.func23 (by rfl) rfl 44 rfl (fun hB hbA => ?_)
  have hm := encV_le H
  have e1 : IntKind.i64.wrap ((c : Int) * 39) = ((39 * c : Nat) : Int) := by rw [wrap_i64 (by omega)]; omega
  simp
  have H0 := H.app [⟨true, 54, List.replicate 39 (.int .u32 0)⟩, ⟨true, 54, List.replicate 39 (.int .u32 0)⟩]
  have G0 := Gr.app h [⟨true, 54, List.replicate 39 (.int .u32 0)⟩, ⟨true, 54, List.replicate 39 (.int .u32 0)⟩] [(m, 3)]
  have L0 := at_new h [⟨true, 54, List.replicate 39 (.int .u32 0)⟩, ⟨true, 54, List.replicate 39 (.int .u32 0)⟩]
  change loopP _ _ _ ⟨_, h ++ [⟨true, 54, List.replicate 39 (.int .u32 0)⟩, ⟨true, 54, List.replicate 39 (.int .u32 0)⟩]⟩
  generalize h ++ _ = h0 at H0 G0 L0
  refine loopP_m [12, 13, 8, 15, 16, 17, 18, 19, 20, 21, 22, 23, 14, 24, 25, 9, 10, 26, 27, 28, 29, 30, 31, 32, 33, 7, 34, 11] (α := List Blk × Nat) (fun a => [(7, .bool (s.row.rdOk (39 * c) a.2)), (11, .int .i64 (a.2 : Int))]) (fun a => a.1)
    (fun a => WI h m s c a.1 a.2) (fun a => 39 - a.2) (h0, 0) ⟨by simp, H0, L0, G0⟩ (by simp [Row.rdOk]) ?_
  rintro ⟨h', k⟩ ⟨hk, H, hL, hg⟩
  simp only [at_cons, at_nil, and_true] at hk H hL hg
  obtain ⟨hL1, hL2⟩ := hL
  obtain ⟨H1, H2⟩ := encV_get H
  simp
  refine condP_split (fun h1 => ?_) (fun h1 => ?_)
  · have hlt : k < 39 := by simp at h1; omega
    have hlt' : (k : Int) < 39 := by omega
    have e2 : IntKind.i64.wrap (((39 * c : Nat) : Int) + (k : Int)) = ((39 * c + k : Nat) : Int) := by rw [wrap_i64 (by omega)]; omega
    have e3 : IntKind.i64.wrap ((k : Int) + 1) = ((k + 1 : Nat) : Int) := by rw [wrap_i64 (by omega)]; omega
    simp [H2, e1, e2, -Int.natCast_add, -Int.natCast_mul]
    refine c_iGet G hT h' m _ H1 _ _ fun h2 H3 hf => ?_
    have hL3 : h2[h.length + 1]? = _ := (hf.same _ (by simp; omega)).trans hL2
    have hL4 : h2[h.length]? = _ := (hf.same _ (by simp; omega)).trans hL1
    have e4 : ((outL s.row (39 * c) k).map u32).set k (u32 (getN (s.row.rds (39 * c) k).ws ((39 * c + k : Nat) : Int))) = (outL s.row (39 * c) (k + 1)).map u32 := by
      rw [← outL_set _ _ _ hlt, List.map_set]; rfl
    have Hv := encV_row H H3 hf
    have hg2 : Gr h h2 [(m, 3)] := hg.then hf fun j _ hj => by simp at hj ⊢; omega
    have hl2 : h.length + 2 ≤ h2.length := by have := (List.getElem?_eq_some_iff.1 hL3).1; omega
    have fin : WI h m s c (h2.set (h.length + 1) ⟨true, 54, (outL s.row (39 * c) (k + 1)).map u32⟩) (k + 1) := by
      refine ⟨by omega, Hv.same fun j h1 h2 => List.getElem?_set_ne (by simp at h2; omega), ?_, hg2.set fun j hj _ => by omega⟩
      simp only [at_cons, at_nil, and_true]
      exact ⟨by rw [List.getElem?_set_ne (by omega)]; exact hL4, List.getElem?_set_self (by omega)⟩
    simp [hL3, hlt', hlt, e4, -Int.natCast_add, -Int.natCast_mul]
    cases hok : s.row.rdOk (39 * c) k
    · simp [e3, -Int.natCast_add, -Int.natCast_mul]
      refine ⟨_, k + 1, fin, ?_, by omega⟩
      simp [Row.rdOk, hok]
    · simp [e3, -Int.natCast_add, -Int.natCast_mul]
      refine ⟨_, k + 1, fin, ?_, by omega⟩
      simp [Row.rdOk, hok]
  · have hlt : k = 39 := by simp at h1; omega
    subst hlt
    rw [outL_end] at hL2
    have hl2 : h.length + 2 ≤ h'.length := by have := (List.getElem?_eq_some_iff.1 hL2).1; omega
    have hg7 := s.row.cp_get c 37 (by decide)
    have hg8 := s.row.cp_get c 38 (by decide)
    have e6 : ∀ x : Blk, (h'.set h.length x)[h.length]? = some x := fun x => List.getElem?_set_self (by omega)
    have e5 : List.take 39 ((s.row.cp c).map u32) = (s.row.cp c).map u32 := List.take_of_length_le (by simp)
    have e7 : List.drop 39 (List.replicate 39 (Value.int .u32 0)) = [] := rfl
    have ho := one_u32 (s.row.cp c)
    have hK2 : ∀ x, retK h.length K (.tuple #[.agg ⟨(s.row.cp c).map u32⟩, .bool (s.row.cpOk c)]) (h'.set h.length x) := fun x =>
      retK_one (l := encVi m ⟨s.row.cpR c, s.ix⟩) hB (H.same fun j h1 h2 => List.getElem?_set_ne (by simp at h2; omega)) rfl (hg.set fun j hj _ => by omega) hm (encV_bd _ _ _ (by omega)) (by simp [bd, bds]) hK
    simp
    cases hok : s.row.rdOk (39 * c) 39
    · refine drawE_intro (.st 0 0 <| .st 1 0 <| .st 2 0 <| .st 3 0 <| .st 4 0 <| .st 5 0 <| .st 6 0 <| .st 7 0 <| .st 8 0 <| .st 9 0 <| .st 10 0 <| .st 11 1 <| .st 12 0 .done) (by kernel_rfl) (by kernel_rfl) (by kernel_rfl) ?_
      simp [hL1, hL2, hg7, hg8, hok, seg, e5, e6, e7, ho, -List.all_map]
      have := hK2 ⟨true, 54, (s.row.cp c).map u32⟩
      rw [Row.cpOk, hok, Bool.false_and] at this
      exact this
    · refine drawE_intro (.st 0 0 <| .st 1 0 <| .st 2 0 <| .st 3 0 <| .st 4 0 <| .st 5 0 <| .st 6 0 <| .st 7 0 <| .st 8 0 <| .st 9 0 <| .st 10 0 <| .st 11 1 <| .st 12 0 .done) (by kernel_rfl) (by kernel_rfl) (by kernel_rfl) ?_
      simp [hL1, hL2, hg7, hg8, hok, seg, e5, e6, e7, ho, Row.cp_ix, -List.all_map]
      have := hK2 ⟨true, 54, (s.row.cp c).map u32⟩
      rw [Row.cpOk, hok, Bool.true_and] at this
      exact this
end Go.Proofs.YtkcdcogmnplhjaaDoor
