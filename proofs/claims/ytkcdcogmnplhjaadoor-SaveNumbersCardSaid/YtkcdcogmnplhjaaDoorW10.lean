/-
  Walks: checkpoints of the document: read.
-/
import Derived.Test.YtkcdcogmnplhjaaDoorW9
namespace Go.Proofs.YtkcdcogmnplhjaaDoor
open Go
set_option linter.unusedSimpArgs false
set_option linter.unusedVariables false
set_option linter.unnecessarySimpa false
set_option maxRecDepth 10000

def rdL (x : Row) (base k : Nat) : List (BitVec 32) := (List.range k).map (x.rdN base)
theorem rdL_succ (x : Row) (base k : Nat) : rdL x base (k + 1) = rdL x base k ++ [x.rdN base k] := by simp [rdL, List.range_succ]
@[simp] theorem rdL_len (x : Row) (base k : Nat) : (rdL x base k).length = k := by simp [rdL]
theorem rdL_cp (x : Row) (c : Nat) : rdL x (39 * c) 39 = x.cp c := rfl
/-- What the loop over a copy's words keeps. -/
def RI (h : List Blk) (m : Nat) (s : Sv) (c : Nat) (h' : List Blk) (k : Nat) (v : Value) : Prop :=
  k ≤ 39 ∧ At h' m (encVr m ⟨s.row.rds (39 * c) k, s.ix⟩) ∧ Sl32 h.length h' (rdL s.row (39 * c) k) v ∧ Gr h h' [(m, 3)]

theorem c_read (G : Glob) (h : List Blk) (m : Nat) (s : Sv) (hs : s.Ok) (H : At h m (encVr m s)) (c : Nat) (hc : c < 2) (K : Value → List Blk → Prop)
    (hK : ∀ h' v, At h' m (encVr m ⟨s.row.cpR c, s.ix⟩) → Sl32 h.length h' (s.row.cp c) v → Gr h h' [(m, 3)] → K (.tuple #[v, .bool (s.row.cpOk c)]) h') :
    CC Tryd.prog G 25 [.pointer (some ⟨m + 2, 0, none⟩), .int .i64 (c : Int)] h K := by
  refine CC.introB Tryd.func25 (by rfl) rfl 46 rfl (fun hB hbA => ?_)
  have hm := encV_le H
  have e9 : IntKind.i64.wrap (39 * (c : Int)) = ((39 * c : Nat) : Int) := by rw [wrap_i64 (by omega)]; omega
  simp
  refine loopP_m [11, 12, 16, 17, 18, 19, 20, 21, 22, 23, 24, 15, 25, 26, 9, 10, 27, 28, 29, 30, 31, 7, 32, 33, 34, 35, 6, 13, 14, 8] (α := List Blk × Nat × Value) (fun a => [(6, a.2.2), (7, .bool (s.row.rdOk (39 * c) a.2.1)), (8, .int .i64 (a.2.1 : Int))]) (fun a => a.1)
    (fun a => RI h m s c a.1 a.2.1 a.2.2) (fun a => 39 - a.2.1) (h, 0, .slice none 0 0) ⟨by simp, H, .inl ⟨rfl, rfl⟩, Gr.refl _ _⟩ (by simp [Row.rdOk]) ?_
  rintro ⟨h', k, v⟩ ⟨hk, H, hv, hg⟩
  simp only at hk H hv hg
  obtain ⟨H1, H2⟩ := encV_get H
  simp [-Int.natCast_add, -Int.natCast_mul, -Int.natCast_emod, -Int.natCast_ediv]
  refine condP_split (fun h1 => ?_) (fun h1 => ?_)
  · have hlt : k < 39 := by simp at h1; omega
    have hlt' : (k : Int) < 39 := by omega
    have e2 : IntKind.i64.wrap (((39 * c : Nat) : Int) + (k : Int)) = ((39 * c + k : Nat) : Int) := by rw [wrap_i64 (by omega)]; omega
    have e3 : IntKind.i64.wrap ((k : Int) + 1) = ((k + 1 : Nat) : Int) := by rw [wrap_i64 (by omega)]; omega
    simp [-Int.natCast_add, -Int.natCast_mul, -Int.natCast_emod, -Int.natCast_ediv, H2, e9, e2]
    refine c_rGet G h' m _ H1 _ _ fun h2 H3 hf => ?_
    have Hv := encV_row H H3 hf
    have hg2 : Gr h h2 [(m, 3)] := hg.then hf fun j _ hj => by simp at hj ⊢; omega
    have e4 : getN (s.row.rds (39 * c) k).ws ((39 * c + k : Nat) : Int) = s.row.rdN (39 * c) k := rfl
    have hv2 : Sl32 h.length h2 (rdL s.row (39 * c) k) v := hv.mono fun q hq1 hq2 => hf.same q (by have := (hv.blk hq1).1; simp; omega)
    have hv3 : Sl32 h.length (h2 ++ [⟨true, 26, [u32 (s.row.rdN (39 * c) k)]⟩]) (rdL s.row (39 * c) k) v := hv2.mono fun q hq1 hq2 => List.getElem?_append_left hq2
    have fin : ∀ h3 v3, Sl32 h.length h3 (rdL s.row (39 * c) k ++ [s.row.rdN (39 * c) k]) v3 → (∀ j, j < (h2 ++ [⟨true, 26, [u32 (s.row.rdN (39 * c) k)]⟩] : List Blk).length → slB v ≠ some j → h3[j]? = (h2 ++ [⟨true, 26, [u32 (s.row.rdN (39 * c) k)]⟩] : List Blk)[j]?) →
        (h2 ++ [⟨true, 26, [u32 (s.row.rdN (39 * c) k)]⟩] : List Blk).length ≤ h3.length → RI h m s c h3 (k + 1) v3 := fun h3 v3 a b d => by
      have hl2 := hg2.len
      have es : ∀ j, j < h.length → h3[j]? = h2[j]? := fun j hj => by
        rw [b j (by simp; omega) (fun e => by have := (hv2.blk e).1; omega), List.getElem?_append_left (by omega)]
      refine ⟨by omega, Hv.same fun j h1 h2 => es j (by simp at h2; omega), by rw [rdL_succ]; exact a, ⟨by simp at d; omega, fun j hj ho => by rw [es j hj]; exact hg2.same j hj ho⟩⟩
    simp [-Int.natCast_add, -Int.natCast_mul, -Int.natCast_emod, -Int.natCast_ediv, e4]
    cases hok : s.row.rdOk (39 * c) k
    · simp [-Int.natCast_add, -Int.natCast_mul, -Int.natCast_emod, -Int.natCast_ediv, rep_one]
      refine ⟨rfl, app_sl (f := fun w => [u32 w]) qem51 (fun _ => rfl) (fun _ => rfl) (fun _ => rfl) h.length _ _ [s.row.rdN (39 * c) k] v _ _ (by have := hg2.len; simp; omega) hv3 (by simp [srcCells]) (by simp; omega) (by simp; omega) _ fun h3 v3 a b d _ => ?_⟩
      simp [-Int.natCast_add, -Int.natCast_mul, -Int.natCast_emod, -Int.natCast_ediv, e3]
      refine ⟨h3, k + 1, v3, fin h3 v3 a b d, ?_, by omega⟩
      simp [Row.rdOk, hok]
    · simp [-Int.natCast_add, -Int.natCast_mul, -Int.natCast_emod, -Int.natCast_ediv, rep_one]
      refine ⟨rfl, app_sl (f := fun w => [u32 w]) qem51 (fun _ => rfl) (fun _ => rfl) (fun _ => rfl) h.length _ _ [s.row.rdN (39 * c) k] v _ _ (by have := hg2.len; simp; omega) hv3 (by simp [srcCells]) (by simp; omega) (by simp; omega) _ fun h3 v3 a b d _ => ?_⟩
      simp [-Int.natCast_add, -Int.natCast_mul, -Int.natCast_emod, -Int.natCast_ediv, e3]
      refine ⟨h3, k + 1, v3, fin h3 v3 a b d, ?_, by omega⟩
      simp [Row.rdOk, hok]
  · have hlt : k = 39 := by simp at h1; omega
    subst hlt
    rw [rdL_cp] at hv
    have hK2 := hK h' v H hv hg
    rcases hv with ⟨h0, _⟩ | ⟨q, cap, rest, rfl, hnq, hq, hcap, hrl, hfl⟩
    · have := s.row.cp_len c; rw [h0] at this; cases this
    rw [flat32] at hq
    rw [Row.cp_len] at hK2
    have hv7 : ((s.row.cp c).map u32 ++ rest)[37]? = some (u32 (s.row.rdN (39 * c) 37)) := by rw [List.getElem?_append_left (by simp), List.getElem?_map, s.row.cp_get c 37 (by decide)]; rfl
    have hv8 : ((s.row.cp c).map u32 ++ rest)[38]? = some (u32 (s.row.rdN (39 * c) 38)) := by rw [List.getElem?_append_left (by simp), List.getElem?_map, s.row.cp_get c 38 (by decide)]; rfl
    simp [-Int.natCast_add, -Int.natCast_mul, -Int.natCast_emod, -Int.natCast_ediv]
    cases hok : s.row.rdOk (39 * c) 39
    · refine drawE_intro (.st 0 0 <| .st 1 0 <| .st 2 0 <| .st 3 0 <| .st 4 0 <| .st 5 0 <| .st 6 0 <| .st 7 0 <| .st 8 0 <| .st 9 1 <| .st 10 0 <| .st 11 0 <| .st 12 0 <| .st 13 0 .done) (by kernel_rfl) (by kernel_rfl) (by kernel_rfl) ?_
      simp [-Int.natCast_add, -Int.natCast_mul, -Int.natCast_emod, -Int.natCast_ediv, hok, seg]
      rw [Row.cpOk, hok, Bool.false_and] at hK2
      exact retK_all hK2
    · refine drawE_intro (.st 0 0 <| .st 1 0 <| .st 2 0 <| .st 3 0 <| .st 4 0 <| .st 5 0 <| .st 6 0 <| .st 7 0 <| .st 8 0 <| .st 9 1 <| .st 10 0 <| .st 11 0 <| .st 12 0 <| .st 13 0 .done) (by kernel_rfl) (by kernel_rfl) (by kernel_rfl) ?_
      simp [-Int.natCast_add, -Int.natCast_mul, -Int.natCast_emod, -Int.natCast_ediv, hok, hq, hv7, hv8, seg, -List.getElem?_map]
      refine c_mark G h' _ _ ?_
      simp [-Int.natCast_add, -Int.natCast_mul, -Int.natCast_emod, -Int.natCast_ediv, hok, hq, hv7, hv8, seg, -List.getElem?_map]
      rw [Row.cpOk, hok, Bool.true_and] at hK2
      exact retK_all hK2
end Go.Proofs.YtkcdcogmnplhjaaDoor
