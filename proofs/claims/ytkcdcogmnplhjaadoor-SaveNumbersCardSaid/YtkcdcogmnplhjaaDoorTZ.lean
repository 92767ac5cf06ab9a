/-
  The library's count of low zeros: it reads a table that the program's start lays.
-/
import Derived.Test.YtkcdcogmnplhjaaDoorPm
import Derived.Test.YtkcdcogmnplhjaaDoorTy
namespace Go.Proofs.YtkcdcogmnplhjaaDoor
open Go
set_option linter.unusedSimpArgs false
set_option linter.unusedVariables false
set_option linter.unnecessarySimpa false
set_option maxRecDepth 10000

theorem ops_sound2 {P : Program} {G : Glob} {os : Array Oper} {K : St → Prop} {Q : Exit → Act → World → Prop} {ρ0 : List Ent} {w0 : World} (r : List Oper)
    (hQ : ∀ ρ s a w, K s → SR G ρ s a w → Ext ρ0 ρ w0 w → wpList P os Q r a w) :
    ∀ (l : List Oper) (s : St) (ρ : List Ent) (a : Act) (w : World), opsP P G os K l s → SR G ρ s a w → Ext ρ0 ρ w0 w → wpList P os Q (l ++ r) a w
  | [], s, ρ, a, w, h, hs, hx => hQ ρ s a w h hs hx
  | o :: rest, s, ρ, a, w, h, hs, hx => by
    rw [List.cons_append]
    unfold wpList
    rcases guard_sound hs h with ⟨h1, h2⟩ | ⟨h1, h2⟩
    · rw [if_pos h1]
      refine .inl (step_sound hs h2 fun ρ' v v' h' w' hK hv hh hext => ?_)
      exact ops_sound2 r hQ rest _ ρ' _ w' hK (hs.put hext.toPre o.dst hv hh) (hx.trans hext)
    · rw [if_neg (by simp [h1])]
      exact ops_sound2 r hQ rest _ ρ _ w h2 (hs.putU o.dst) hx

theorem TR.forget {ρ : List Ent} {t : List (Option Value)} {t' : Array Value} (h : TR ρ t t') (d : Nat) (v' : Value) : TR ρ (t.set d none) (t'.setIfInBounds d v') := by
  refine ⟨by simp [h.1], fun i u hi => ?_⟩
  by_cases hd : d = i
  · subst hd
    have hlt : d < t.length := by
      have := (List.getElem?_eq_some_iff.1 hi).1; simpa using this
    rw [List.getElem?_set_self hlt] at hi
    cases hi
  · rw [List.getElem?_set_ne hd] at hi
    obtain ⟨u', h1, h2⟩ := h.2 i u hi
    exact ⟨u', by rw [Array.getElem?_setIfInBounds_ne hd]; exact h1, h2⟩

/-- A cell of a table that is a package-level variable. -/
theorem glob_sound {P : Program} {G : Glob} {os : Array Oper} {Q : Exit → Act → World → Prop} {r : List Oper} {t e n g d1 d2 j ty1 ty2 : Nat} {p1 p2 : String} {af1 af2 : Array Edge} {ix : Operand} {k : IntKind}
    {c : List Value} {T : TypeId} {m : Nat × Nat} {v : Value} {s : St} {ρ : List Ent} {a : Act} {w : World}
    (hel : elO P t = some (some n, e, 1)) (hty : tyK P e = some none) (hg : g < G.n) (hobj : G.g g = some (.cells ⟨c⟩ T m)) (hi : s.ev ix = some (.int k (j : Int))) (hjn : j < n) (hc : c[j]? = some v) (hfl : fl v = true)
    (hs : SR G ρ s a w) (hd1 : d1 < s.t.length)
    (H : ∀ a', SR G ρ ⟨(s.t.set d1 none).set d2 (some v), s.h⟩ a' w → wpList P os Q r a' w) :
    wpList P os Q (⟨some d1, .indexAddr t (.global g) ix, ty1, p1, af1, none⟩ :: ⟨some d2, .load e (.tmp d1), ty2, p2, af2, none⟩ :: r) a w := by
  have hvi : a.eval ix = .int k (j : Int) := by
    have := hs.ev hi
    generalize a.eval ix = u at this
    cases this; rfl
  obtain ⟨inf, hu, hi', hsz⟩ := elO_arr hel
  have hc1 : (0 : Int) ≤ (j : Int) ∧ (j : Int) < (n : Int) := ⟨by omega, by omega⟩
  refine wpList_plain rfl fun K1 hK1 => ?_
  have hr1 : (execOp a.eval ⟨some d1, .indexAddr t (.global g) ix, ty1, p1, af1, none⟩).run P w = .ok (.value (.pointer (some ⟨g, j, none⟩))) w := by
    have hgv : a.eval (.global g) = .pointer (some ⟨g, 0, none⟩) := rfl
    have hnj : ¬ n ≤ j := by omega
    simp [execOp, hvi, hgv, hjn, hnj, Instr.indexAt, asIntOf, run_underlying hu, Instr.sureAddr, hc1, sizeOf, typeInfo, hi', hsz, add_eq, Nat.add_assoc]
  unfold Oper.wp
  rw [hr1]
  refine hK1 _ _ ?_
  refine wpList_plain rfl fun K2 hK2 => ?_
  have hcell : w.cell? ⟨g, j, none⟩ = some v := by
    have hb := (hs.h.glob g hg).trans hobj
    simp [World.cell?, hb, hc]
  have hlen : d1 < a.tmps.size := hs.t.1 ▸ hd1
  have hev : (a.put (some d1) (.pointer (some ⟨g, j, none⟩))).eval (.tmp d1) = .pointer (some ⟨g, j, none⟩) := by
    simp [Act.eval, Act.put, hlen]
  have hr2 : (execOp (a.put (some d1) (.pointer (some ⟨g, j, none⟩))).eval ⟨some d2, .load e (.tmp d1), ty2, p2, af2, none⟩).run P w = .ok (.value v) w := by
    simp [execOp, hev, run_loadAt_scal hty hcell]
  unfold Oper.wp
  rw [hr2]
  refine hK2 _ _ (H _ ⟨?_, ?_, hs.h⟩)
  · exact hs.d
  · exact (TR.forget hs.t d1 _).put d2 (VR.of_fl v hfl)

def tzT : List Nat := [0, 1, 56, 2, 57, 49, 28, 3, 61, 58, 42, 50, 38, 29, 17, 4, 62, 47, 59, 36, 45, 43, 51, 22, 53, 39, 33, 30, 24, 18, 12, 5, 63, 55, 48, 27, 60, 41, 37, 16, 46, 35, 44, 21, 52, 32, 23, 11, 54, 26, 40, 15, 34, 20, 31, 10, 25, 14, 19, 9, 13, 8, 7, 6]
/-- The table lies where the program lays it. -/
def TZG (G : Glob) : Prop := 0 < G.n ∧ ∃ T m, G.g 0 = some (.cells ⟨tzT.map fun n : Nat => Value.int .u8 (n : Int)⟩ T m)
theorem tz_at : ∀ k < 64, tzT[(((1#64 <<< k) * 285870213051353865#64) >>> 58).toNat]? = some k := by decide +kernel
theorem tz_lt (x : BitVec 64) : (x >>> 58).toNat < 64 := by
  rw [BitVec.toNat_ushiftRight, Nat.shiftRight_eq_div_pow]
  have := x.isLt
  omega

def TZC (G : Glob) : Prop := ∀ (x : BitVec 64) (k : Nat), k < 64 → x ≠ 0#64 → x &&& -x = 1#64 <<< k → ∀ (h : List Blk) (K : Value → List Blk → Prop), K (.int .i64 (k : Int)) h →
  CC Tryd.prog G 43 [.int .u64 (bn x)] h K
theorem c_TZ (G : Glob) (hG : TZG G) : TZC G := by
  intro x k hk hx hxk h K hK
  obtain ⟨hn, T, m, hg⟩ := hG
  have hb : (x == 0#64) = false := by simpa using hx
  have hidx := tz_lt ((1#64 <<< k) * 285870213051353865#64)
  have hat := tz_at k hk
  have hlt : tzT.length = 64 := rfl
  refine CC.introW Tryd.func43 (by rfl) rfl 13 rfl fun ρ a0 w0 hl hs => ?_
  refine wp_seq (Code.wp_mono (fun e a w hq => ?_) (swpE_sound (ρ0 := ρ) (w0 := w0) _ (fun e s => e = .normal ∧ s = ⟨[some (.int .u64 (bn x)), some undef, some (.int .i64 0), some undef, some undef, some undef, some undef, some undef, some undef, some undef, some undef, some undef, some undef, some undef], h⟩) _ ρ a0 w0 (by simp) hs (Ext.refl _ _)))
  cases e with
  | panic c => exact hq.elim
  | outgrown => exact hq.elim
  | exit i => obtain ⟨_, _, ⟨h1, _⟩, _⟩ := hq; cases h1
  | goto i => obtain ⟨_, _, ⟨h1, _⟩, _⟩ := hq; cases h1
  | ret => obtain ⟨_, _, ⟨h1, _⟩, _⟩ := hq; cases h1
  | normal =>
  obtain ⟨ρ1, s1, ⟨_, rfl⟩, hs1, hx1⟩ := hq
  simp only [Exit.then]
  refine wp_seq (Code.wp_mono (fun e a w hq => ?_) (swpE_sound (ρ0 := ρ) (w0 := w0) _ (fun e s => e = .normal ∧ s = ⟨[some (.int .u64 (bn x)), some undef, some (.int .i64 0), some (.int .u64 (bn x)), some (.bool false), some undef, some undef, some undef, some undef, some undef, some undef, some undef, some undef, some undef], h⟩) _ ρ1 _ _ (by simp [hb]) hs1 hx1))
  cases e with
  | panic c => exact hq.elim
  | outgrown => exact hq.elim
  | exit i => obtain ⟨_, _, ⟨h1, _⟩, _⟩ := hq; cases h1
  | goto i => obtain ⟨_, _, ⟨h1, _⟩, _⟩ := hq; cases h1
  | ret => obtain ⟨_, _, ⟨h1, _⟩, _⟩ := hq; cases h1
  | normal =>
  obtain ⟨ρ2, s2, ⟨_, rfl⟩, hs2, hx2⟩ := hq
  simp only [Exit.then]
  refine wp_seq (wp_region_lit (ops_sound2 (ρ0 := ρ) (w0 := w0) (l := [_, _, _, _, _, _]) (K := fun s => s = ⟨[some (.int .u64 (bn x)), some undef, some (.int .i64 0), some (.int .u64 (bn x)), some (.bool false), some (.int .u64 (bn x)), some (.int .u64 (bn x)), some (.int .u64 (bn (-x))), some (.int .u64 (bn (x &&& -x))), some (.int .u64 (bn ((x &&& -x) * 285870213051353865#64))), some (.int .u64 (bn (((x &&& -x) * 285870213051353865#64) >>> 58))), some undef, some undef, some undef], h⟩) _ (fun ρ3 s3 a3 w3 hs3e hs3 hx3 => ?_) _ ρ2 _ _ (opsE_ops _ _ (by simp [BitVec.ofInt_neg])) hs2 hx2))
  subst hs3e
  rw [hxk] at hs3
  clear hs2 hs1 hs
  simp only [bn_def] at hs3
  generalize (((1#64 <<< k) * 285870213051353865#64) >>> 58).toNat = j at hs3 hidx hat
  generalize ((1#64 <<< k) * 285870213051353865#64).toNat = jj at hs3
  refine glob_sound (t := 75) (e := 5) (n := 64) (k := .u64) (j := j) (v := .int .u8 (k : Int)) (by simp) (by simp) hn hg (by simp only [St.ev, List.getElem?_cons_succ, List.getElem?_cons_zero]) hidx (by rw [List.getElem?_map, hat]; rfl) (by simp) hs3 (by simp) fun a4 hs4 => ?_
  have e5 : IntKind.i64.wrap (k : Int) = (k : Int) := wrap_i64 (by omega)
  refine ops_sound (ρ0 := ρ) (w0 := w0) (K := fun s => goR (resV Tryd.prog s [ResultVar.tmp 2]) h.length K s.h) (fun ρ5 s5 a5 w5 hs5e hs5 hx5 => ?_) _ _ ρ3 _ _ (opsE_ops _ _ (by simp [e5]; exact retK_all hK)) hs4 hx3
  simp only [Exit.then]
  exact wp_ret ⟨ρ5, s5, hs5e, hs5, hx5⟩
end Go.Proofs.YtkcdcogmnplhjaaDoor
