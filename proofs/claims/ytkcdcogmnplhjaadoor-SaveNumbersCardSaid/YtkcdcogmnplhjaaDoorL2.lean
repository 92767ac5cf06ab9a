/-
  Walks: chapter 17's runs: asks, known, the law.
-/
import Derived.Test.YtkcdcogmnplhjaaDoorL1
namespace Go.Proofs.YtkcdcogmnplhjaaDoor
open Go
set_option linter.unusedSimpArgs false
set_option linter.unusedVariables false
set_option linter.unnecessarySimpa false
set_option maxRecDepth 10000

def Ask.setR (a : Ask) (j : Nat) (v : BitVec 32) : Ask := ⟨a.kind, a.n, a.pc, a.regs.set j v, a.csrs, by simp [a.hr], a.hc⟩
def Ask.setC (a : Ask) (j : Nat) (v : BitVec 32) : Ask := ⟨a.kind, a.n, a.pc, a.regs, a.csrs.set j v, a.hr, by simp [a.hc]⟩
def Ask.setN (a : Ask) (v : Int) : Ask := ⟨a.kind, v, a.pc, a.regs, a.csrs, a.hr, a.hc⟩
theorem fAsk_setR (a : Ask) (j : Nat) (hj : j < 32) (v : BitVec 32) : (fAsk a).set (3 + j) (u32 v) = fAsk (a.setR j v) := by
  unfold fAsk Ask.setR
  rw [List.set_append_right _ _ (by simp), List.set_append_left _ _ (by simp [a.hr]; omega), show 3 + j - List.length _ = j from by simp, List.map_set]
theorem fAsk_setC (a : Ask) (j : Nat) (v : BitVec 32) : (fAsk a).set (35 + j) (u32 v) = fAsk (a.setC j v) := by
  unfold fAsk Ask.setC
  rw [List.set_append_right _ _ (by simp; omega), List.set_append_right _ _ (by simp [a.hr]; omega), show 35 + j - List.length _ - List.length _ = j from by simp [a.hr]; omega, List.map_set]
theorem fAsk_setN (a : Ask) (v : Int) : (fAsk a).set 1 (.int .i64 v) = fAsk (a.setN v) := rfl
def askZ (kind n : Int) (pc : BitVec 32) : Ask := ⟨kind, n, pc, List.replicate 32 0, List.replicate 5 0, by simp, by simp⟩

theorem rep_1 (z : List Value) : rep 1 z = z := by simp [rep]
theorem toAsk (a b : Int) (c : BitVec 32) : ([.int .i64 a, .int .i64 b, .int .u32 (bn c), .int .u32 0, .int .u32 0, .int .u32 0, .int .u32 0, .int .u32 0, .int .u32 0, .int .u32 0, .int .u32 0, .int .u32 0, .int .u32 0, .int .u32 0, .int .u32 0, .int .u32 0, .int .u32 0, .int .u32 0, .int .u32 0, .int .u32 0, .int .u32 0, .int .u32 0, .int .u32 0, .int .u32 0, .int .u32 0, .int .u32 0, .int .u32 0, .int .u32 0, .int .u32 0, .int .u32 0, .int .u32 0, .int .u32 0, .int .u32 0, .int .u32 0, .int .u32 0, .int .u32 0, .int .u32 0, .int .u32 0, .int .u32 0, .int .u32 0] : List Value) = fAsk (askZ a b c) := rfl
theorem fAsk_setC' (a : Ask) (j : Nat) (v : BitVec 32) : (fAsk a).set (35 + j) (.int .u32 (bn v)) = fAsk (a.setC j v) := fAsk_setC a j v
theorem fAsk_setR' (a : Ask) (j : Nat) (hj : j < 32) (v : BitVec 32) : (fAsk a).set (3 + j) (.int .u32 (bn v)) = fAsk (a.setR j v) := fAsk_setR a j hj v
theorem fAsk_setR0 (a : Ask) : (fAsk a).set 3 (.int .u32 5) = fAsk (a.setR 0 5) := fAsk_setR a 0 (by decide) 5
theorem fAsk_setN' (a : Ask) (v : Int) : (fAsk a).set 1 (.int .i64 v) = fAsk (a.setN v) := rfl
theorem askZ_k (a b : Int) (c : BitVec 32) : (askZ a b c).kind = a := rfl
set_option maxHeartbeats 1000000 in
theorem c_asks (G : Glob) (h : List Blk) (k : Int) (K : Value → List Blk → Prop) (hK : ∀ h' l v, l.length < 1000000 → SlA 0 h' l v → Gr h h' [] → K v h') :
    CC Tryd.prog G 5 [.int .i64 k] h K := by
  refine CC.introB Tryd.func5 (by rfl) rfl 57 rfl (fun hB hbA => ?_)
  simp
  refine loopP_g [6, 7, 10, 11, 12, 13, 14, 15, 16, 17, 18, 19, 20, 21, 22, 23, 24, 5, 25, 26, 27, 28, 29, 30, 31, 32, 33, 34, 35, 36, 37, 38, 39, 40, 41, 42, 43, 44, 45, 46, 47, 48, 49, 50, 51, 52, 53, 54, 55, 56, 3, 8, 9, 4] (α := List Blk × Nat × List Ask × Value) (fun a => [(4, .int .i64 (a.2.1 : Int)), (3, a.2.2.2)]) (fun a => a.1) (fun a => a.2.1 ≤ 50 ∧ a.2.2.1.length = a.2.1 ∧ SlA h.length a.1 a.2.2.1 a.2.2.2 ∧ Gr h a.1 []) (fun a => 50 - a.2.1) (h, 0, [], .slice none 0 0) ⟨by simp, rfl, .inl ⟨rfl, rfl⟩, Gr.refl _ _⟩ (by simp) ?_
  rintro ⟨h', i, l, v⟩ ⟨hi, hl, hv, hg⟩
  simp only at hi hl hv hg
  simp
  refine condP_split (fun h1 => ?_) (fun h1 => ?_)
  · have hlt : i < 50 := by simp at h1; omega
    have e1 : Int.tmod (i : Int) 32 = ((i % 32 : Nat) : Int) := rfl
    have e2 : Int.tmod (i : Int) 5 = ((i % 5 : Nat) : Int) := rfl
    have e3 : IntKind.i64.wrap ((i : Int) + 1) = ((i + 1 : Nat) : Int) := by rw [wrap_i64 (by omega)]; omega
    have e4 : ((i % 32 : Nat) : Int) < 32 := by omega
    have e5 : ((i % 5 : Nat) : Int) < 5 := by omega
    have e6 : i % 32 < 32 := by omega
    have e7 : i % 5 < 5 := by omega
    have e8 : 3 + i % 32 < 40 := by omega
    have e9 : 35 + i % 5 < 40 := by omega
    simp [-Int.natCast_add, -Int.natCast_mul, -Int.natCast_emod, -Int.natCast_ediv, e1, e2, e4, e5, e6, e8, e9, toAsk, fAsk_setR', fAsk_setC', fAsk_setR0, fAsk_setN', fAsk_len, fAsk_one]
    generalize Ask.setR (Ask.setC (Ask.setR _ _ _) _ _) 0 5#32 = x
    refine condP_split (fun k4 => ?_) (fun k4 => ?_)
    · have t40 : ∀ x, List.take 40 (fAsk x) = fAsk x := fun x => List.take_of_length_le (by rw [fAsk_len]; decide)
      simp [-Int.natCast_add, -Int.natCast_mul, -Int.natCast_emod, -Int.natCast_ediv, fAsk_setN', fAsk_len, fAsk_one, rep_1, t40]
      generalize Ask.setN x _ = x
      generalize hh : h' ++ [_, _] = h3
      have n3 : h3.length = h'.length + 2 := by rw [← hh]; simp
      have v3 : SlA h.length h3 l v := hv.mono fun q _ hq => by rw [← hh]; exact List.getElem?_append_left hq
      have g3 : Gr h h3 [] := by rw [← hh]; exact hg.trans (Gr.app _ _ _)
      have x3 : h3[h'.length + 1]? = some ⟨true, 30, fAsk x⟩ := by rw [← hh, List.getElem?_append_right (by omega)]; simp
      clear hh
      have hs : srcCells h3 ⟨h'.length + 1, 0, none⟩ ([x].length * 40) = some ([x].flatMap fAsk) := by
        have := fAsk_len x
        simp only [srcCells, x3]
        rw [if_pos (by simp [this])]
        simp [List.take_of_length_le, this]
      have hgl := hg.len
      refine ⟨rfl, app_sl (f := fAsk) qem23 fAsk_len fAsk_one fAsk_fl h.length h3 l [x] v ⟨h'.length + 1, 0, none⟩ 1 (by omega) v3 hs (by simp; omega) (by simp; omega) _ fun h4 v4 a b c _ => ?_⟩
      simp [e3]
      refine again (h4, i + 1, l ++ [x], v4) ⟨by show i + 1 ≤ 50; omega, by simp [hl], a, ⟨by show h.length ≤ h4.length; omega, fun j hj _ => ?_⟩⟩ (by simp) (by simp only; omega)
      rw [b j (by omega) (fun e => by have := (hv.blk e).1; omega)]; exact g3.same j hj (by simp)
    · have t40 : ∀ x, List.take 40 (fAsk x) = fAsk x := fun x => List.take_of_length_le (by rw [fAsk_len]; decide)
      simp [-Int.natCast_add, -Int.natCast_mul, -Int.natCast_emod, -Int.natCast_ediv, fAsk_len, fAsk_one, rep_1, t40]
      generalize hh : h' ++ [_, _] = h3
      have n3 : h3.length = h'.length + 2 := by rw [← hh]; simp
      have v3 : SlA h.length h3 l v := hv.mono fun q _ hq => by rw [← hh]; exact List.getElem?_append_left hq
      have g3 : Gr h h3 [] := by rw [← hh]; exact hg.trans (Gr.app _ _ _)
      have x3 : h3[h'.length + 1]? = some ⟨true, 30, fAsk x⟩ := by rw [← hh, List.getElem?_append_right (by omega)]; simp
      clear hh
      have hs : srcCells h3 ⟨h'.length + 1, 0, none⟩ ([x].length * 40) = some ([x].flatMap fAsk) := by
        have := fAsk_len x
        simp only [srcCells, x3]
        rw [if_pos (by simp [this])]
        simp [List.take_of_length_le, this]
      have hgl := hg.len
      refine ⟨rfl, app_sl (f := fAsk) qem23 fAsk_len fAsk_one fAsk_fl h.length h3 l [x] v ⟨h'.length + 1, 0, none⟩ 1 (by omega) v3 hs (by simp; omega) (by simp; omega) _ fun h4 v4 a b c _ => ?_⟩
      simp [e3]
      refine again (h4, i + 1, l ++ [x], v4) ⟨by show i + 1 ≤ 50; omega, by simp [hl], a, ⟨by show h.length ≤ h4.length; omega, fun j hj _ => ?_⟩⟩ (by simp) (by simp only; omega)
      rw [b j (by omega) (fun e => by have := (hv.blk e).1; omega)]; exact g3.same j hj (by simp)
  · simp
    exact retK_all (hK h' l v (by omega) (hv.le (by omega)) hg)
end Go.Proofs.YtkcdcogmnplhjaaDoor
