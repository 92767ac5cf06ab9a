/-
  Walks: chapter 17's runs: play.
-/
import Derived.Test.YtkcdcogmnplhjaaDoorW12
namespace Go.Proofs.YtkcdcogmnplhjaaDoor
open Go
set_option linter.unusedSimpArgs false
set_option linter.unusedVariables false
set_option linter.unnecessarySimpa false
set_option maxRecDepth 10000

theorem flatMap_at {α : Type} {sz : Nat} {f : α → List Value} (hf : ∀ a, (f a).length = sz) {l : List α} {i : Nat} {a : α} (hi : l[i]? = some a) (rest : List Value) :
    (((l.flatMap f ++ rest).drop (i * sz)).take sz = f a) ∧ i * sz + sz ≤ (l.flatMap f ++ rest).length := by
  induction l generalizing i with
  | nil => simp at hi
  | cons x l ih =>
    cases i with
    | zero =>
      simp at hi; subst hi
      rw [List.flatMap_cons, List.append_assoc]
      refine ⟨?_, by simp [hf]⟩
      rw [Nat.zero_mul, List.drop_zero, List.take_left' (hf x)]
    | succ i =>
      simp at hi
      obtain ⟨h1, h2⟩ := ih hi
      rw [List.flatMap_cons, List.append_assoc]
      refine ⟨?_, ?_⟩
      · rw [Nat.succ_mul, Nat.add_comm, ← List.drop_drop, List.drop_left' (hf x)]; exact h1
      · rw [List.length_append, hf, Nat.succ_mul]; omega

/-- One call of chapter 17's runs. -/
structure Ask where
  kind : Int
  n : Int
  pc : BitVec 32
  regs : List (BitVec 32)
  csrs : List (BitVec 32)
  hr : regs.length = 32
  hc : csrs.length = 5
def fAsk (a : Ask) : List Value := [.int .i64 a.kind, .int .i64 a.n, u32 a.pc] ++ (a.regs.map u32 ++ a.csrs.map u32)
theorem fAsk_len (a : Ask) : (fAsk a).length = 40 := by simp [fAsk, a.hr, a.hc]
theorem fAsk_one (a : Ask) : (fAsk a).all Value.oneCell' = true := by
  unfold fAsk; rw [List.all_append, List.all_append, all_u32, all_u32]; rfl
theorem fAsk_fl (a : Ask) : fls (fAsk a) = true := by
  unfold fAsk; exact fls_append rfl (fls_append (fls_u32 _) (fls_u32 _))
theorem fAsk_regs (a : Ask) : List.take 32 (List.drop 3 (fAsk a)) = a.regs.map u32 := by
  show List.take 32 (a.regs.map u32 ++ a.csrs.map u32) = _
  rw [List.take_left' (by simp [a.hr])]
theorem fAsk_csrs (a : Ask) : List.take 5 (List.drop 35 (fAsk a)) = a.csrs.map u32 := by
  show List.take 5 (List.drop 32 (a.regs.map u32 ++ a.csrs.map u32)) = _
  rw [List.drop_left' (by simp [a.hr]), List.take_of_length_le (by simp [a.hc])]
abbrev SlA (n0 : Nat) (h : List Blk) (l : List Ask) (v : Value) : Prop := Sl 30 40 fAsk n0 h l v
theorem fA0 (a : Ask) : (fAsk a)[0]? = some (.int .i64 a.kind) := rfl
theorem fA1 (a : Ask) : (fAsk a)[1]? = some (.int .i64 a.n) := rfl
theorem fA2 (a : Ask) : (fAsk a)[2]? = some (u32 a.pc) := rfl
@[simp] theorem fAg0 (a : Ask) (h : 0 < (fAsk a).length) : (fAsk a)[0]'h = .int .i64 a.kind := rfl
@[simp] theorem fAg1 (a : Ask) (h : 1 < (fAsk a).length) : (fAsk a)[1]'h = .int .i64 a.n := rfl
@[simp] theorem fAg2 (a : Ask) (h : 2 < (fAsk a).length) : (fAsk a)[2]'h = u32 a.pc := rfl
theorem ldR_shape (ok : Bool) {l : List (BitVec 32)} (hl : l.length = 39) : ∃ (pc : BitVec 32) (y z : List (BitVec 32)) (n : Int) (b : Bool), ldR ok l = .tuple #[u32 pc, .agg ⟨y.map u32⟩, .agg ⟨z.map u32⟩, .int .i64 n, .bool b] ∧ y.length = 32 ∧ z.length = 5 := by
  cases ok
  · exact ⟨0, List.replicate 32 0#32, List.replicate 5 0#32, 0, false, rfl, by simp, by simp⟩
  · exact ⟨_, 0#32 :: (l.drop 1).take 31, (l.drop 32).take 5, _, true, rfl, by simp [hl], by simp [hl]⟩
theorem Sv.ld_ok {s : Sv} (h : s.Ok) : Sv.Ok ⟨s.row.ld, s.ix⟩ := ⟨by simp [h.len], h.lt⟩

/-- What play keeps: both checkpoints, at n and behind it. -/
structure PI (h : List Blk) (h' : List Blk) (s : Sv) : Prop where
  ok : s.Ok
  a : At h' h.length (encVi h.length s)
  b : At h' (h.length + 3) (encVr (h.length + 3) s)
  gr : Gr h h' []
theorem PI.app {h h' : List Blk} {s : Sv} (H : PI h h' s) (g : List Blk) : PI h (h' ++ g) s := ⟨H.ok, H.a.app g, H.b.app g, H.gr.trans (Gr.app _ _ _)⟩
theorem PI.len {h h' : List Blk} {s : Sv} (H : PI h h' s) : h.length + 6 ≤ h'.length := by have := encV_le H.b; omega
theorem PI.set {h h' : List Blk} {s : Sv} (H : PI h h' s) {k : Nat} (hk : h.length + 6 ≤ k) (b : Blk) : PI h (h'.set k b) s :=
  ⟨H.ok, H.a.same fun j h1 h2 => List.getElem?_set_ne (by simp at h2; omega), H.b.same fun j h1 h2 => List.getElem?_set_ne (by simp at h2; omega), H.gr.set fun j hj _ => by omega⟩
theorem PI.step {h h' h1 h2 : List Blk} {s s' : Sv} (H : PI h h' s) (ok : s'.Ok) (a : At h1 h.length (encVi h.length s')) (f1 : Fr h' h1 [(h.length, 3)]) (b : At h2 (h.length + 3) (encVr (h.length + 3) s')) (f2 : Fr h1 h2 [(h.length + 3, 3)]) : PI h h2 s' :=
  ⟨ok, a.same fun j h1 h2 => f2.same j (by simp at h2 ⊢; omega), b, (H.gr.then f1 fun j hj _ => by simp; omega).then f2 fun j hj _ => by simp; omega⟩

theorem Sl.form {α : Type} {e sz : Nat} {f : α → List Value} {n0 : Nat} {h : List Blk} {l : List α} {v : Value} (H : Sl e sz f n0 h l v) :
    ∃ a cap, v = .slice a l.length cap ∧ ∀ (i : Nat) (x : α), l[i]? = some x → ∃ q rest, a = some ⟨q, 0, none⟩ ∧ n0 ≤ q ∧ h[q]? = some ⟨true, e, l.flatMap f ++ rest⟩ := by
  rcases H with ⟨rfl, rfl⟩ | ⟨q, cap, rest, rfl, hn, hq, _⟩
  · exact ⟨none, 0, rfl, fun i x hx => by simp at hx⟩
  · exact ⟨_, cap, rfl, fun i x _ => ⟨q, rest, rfl, hn, hq⟩⟩

set_option maxHeartbeats 2000000 in
theorem c_play (G : Glob) (hT : TZC G) (h : List Blk) (l : List Ask) (hl : l.length < 1000000) (v : Value) (hv : SlA 0 h l v) (K : Value → List Blk → Prop) (hK : K (.bool true) h) :
    CC Tryd.prog G 4 [v] h K := by
  refine CC.introB Tryd.func4 (by rfl) rfl 170 rfl (fun hB hbA => ?_)
  obtain ⟨va, cap, rfl, hvi⟩ := hv.form
  simp
  refine c_sNew G hT h _ ?_
  simp
  refine c_rNewSave G _ _ ?_
  simp
  have P0 : PI h (h ++ (encVi h.length Sv.new ++ encVr (h.length + 3) Sv.new)) Sv.new :=
    ⟨Sv.new_ok, by have := at_new h (encVi h.length Sv.new ++ encVr (h.length + 3) Sv.new); rw [at_append] at this; exact this.1, at_new' _ _ _ (by simp), Gr.app _ _ _⟩
  generalize h ++ (_ ++ _) = h0 at P0
  refine loopP_m [29, 30, 31, 32, 33, 34, 35, 36, 39, 40, 41, 42, 6, 43, 44, 2, 45, 46, 68, 67, 70, 71, 69, 72, 73, 74, 75, 76, 8, 9, 7, 10, 11, 78, 79, 77, 80, 81, 82, 83, 84, 13, 14, 12, 15, 16, 85, 86, 87, 88, 89, 90, 91, 92, 93, 94, 95, 96, 97, 98, 99, 100, 101, 102, 103, 104, 105, 106, 107, 109, 108, 110, 111, 112, 113, 114, 116, 115, 117, 118, 119, 120, 121, 122, 123, 124, 125, 126, 127, 128, 129, 47, 48, 49, 50, 51, 52, 53, 54, 55, 56, 57, 58, 59, 60, 61, 62, 63, 64, 65, 66, 37, 38, 5] (α := List Blk × Nat × Sv) (fun a => [(5, .int .i64 (a.2.1 : Int))]) (fun a => a.1) (fun a => a.2.1 ≤ l.length ∧ PI h a.1 a.2.2) (fun a => l.length - a.2.1) (h0, 0, Sv.new) ⟨by simp, P0⟩ (by simp) ?_
  rintro ⟨h', i, s⟩ ⟨hi, P⟩
  simp only at hi P
  simp
  by_cases hlt1 : i < l.length
  case neg =>
    simp [hlt1]
    have P1 := P
    refine c_sLoad G hT _ h.length s P1.ok P1.a _ fun h1 a1 g1 => ?_
    obtain ⟨pc, y, z, n, b, eR, hy, hz⟩ := ldR_shape s.row.ldS s.row.ldL_len
    have ty := List.take_of_length_le (l := y.map u32) (i := 32) (by simp [hy])
    have tz := List.take_of_length_le (l := z.map u32) (i := 5) (by simp [hz])
    rw [eR]
    simp [hy, hz]
    have A1 := P1.b.same fun j h1 h2 => g1.same j (by simp at h2 ⊢; omega)
    have X1 := at_new h1 [⟨true, 27, y.map u32⟩, ⟨true, 28, z.map u32⟩]
    have A2 := A1.app [⟨true, 27, y.map u32⟩, ⟨true, 28, z.map u32⟩]
    have a2 := a1.app [⟨true, 27, y.map u32⟩, ⟨true, 28, z.map u32⟩]
    have n2 : (h1 ++ [⟨true, 27, y.map u32⟩, ⟨true, 28, z.map u32⟩] : List Blk).length = h1.length + 2 := by simp
    have G2 := (P1.gr.then g1 fun j hj _ => by simp; omega).trans (Gr.app h1 [⟨true, 27, y.map u32⟩, ⟨true, 28, z.map u32⟩] [])
    have l1 : h.length + 6 ≤ h1.length := by have := encV_le A1; omega
    generalize (h1 ++ [⟨true, 27, y.map u32⟩, ⟨true, 28, z.map u32⟩] : List Blk) = h2 at X1 A2 a2 n2 G2
    simp only [at_cons, at_nil, and_true] at X1
    refine c_rLoad G h2 (h.length + 3) s P1.ok A2 _ fun h3 a3 g3 => ?_
    rw [eR]
    simp [hy, hz]
    have a4 := (a2.same fun j h1 h2 => g3.same j (by simp at h2 ⊢; omega)).app [⟨true, 27, y.map u32⟩, ⟨true, 28, z.map u32⟩]
    have a5 := a3.app [⟨true, 27, y.map u32⟩, ⟨true, 28, z.map u32⟩]
    have G5 := (G2.then g3 fun j hj _ => by simp; omega).trans (Gr.app h3 [⟨true, 27, y.map u32⟩, ⟨true, 28, z.map u32⟩] [])
    have u0 : (h3 ++ [⟨true, 27, y.map u32⟩, ⟨true, 28, z.map u32⟩] : List Blk)[h1.length]? = _ := (List.getElem?_append_left (by rw [g3.len]; omega)).trans ((g3.same _ (by simp; omega)).trans X1.1)
    have u1 : (h3 ++ [⟨true, 27, y.map u32⟩, ⟨true, 28, z.map u32⟩] : List Blk)[h1.length + 1]? = _ := (List.getElem?_append_left (by rw [g3.len]; omega)).trans ((g3.same _ (by simp; omega)).trans X1.2)
    have X5 := at_new h3 [⟨true, 27, y.map u32⟩, ⟨true, 28, z.map u32⟩]
    simp only [at_cons, at_nil, and_true] at X5
    generalize (h3 ++ [⟨true, 27, y.map u32⟩, ⟨true, 28, z.map u32⟩] : List Blk) = h5 at a4 a5 G5 u0 u1 X5
    simp [u0, u1, X5.1, X5.2, hy, hz, ty, tz]
    exact retK_zero hB G5 (by simp [bd]) hK
  by_cases hlt2 : i < 60
  case neg =>
    have h2 : ¬ (i : Int) < 60 := by omega
    simp [hlt1, h2]
    have P1 := P
    refine c_sLoad G hT _ h.length s P1.ok P1.a _ fun h1 a1 g1 => ?_
    obtain ⟨pc, y, z, n, b, eR, hy, hz⟩ := ldR_shape s.row.ldS s.row.ldL_len
    have ty := List.take_of_length_le (l := y.map u32) (i := 32) (by simp [hy])
    have tz := List.take_of_length_le (l := z.map u32) (i := 5) (by simp [hz])
    rw [eR]
    simp [hy, hz]
    have A1 := P1.b.same fun j h1 h2 => g1.same j (by simp at h2 ⊢; omega)
    have X1 := at_new h1 [⟨true, 27, y.map u32⟩, ⟨true, 28, z.map u32⟩]
    have A2 := A1.app [⟨true, 27, y.map u32⟩, ⟨true, 28, z.map u32⟩]
    have a2 := a1.app [⟨true, 27, y.map u32⟩, ⟨true, 28, z.map u32⟩]
    have n2 : (h1 ++ [⟨true, 27, y.map u32⟩, ⟨true, 28, z.map u32⟩] : List Blk).length = h1.length + 2 := by simp
    have G2 := (P1.gr.then g1 fun j hj _ => by simp; omega).trans (Gr.app h1 [⟨true, 27, y.map u32⟩, ⟨true, 28, z.map u32⟩] [])
    have l1 : h.length + 6 ≤ h1.length := by have := encV_le A1; omega
    generalize (h1 ++ [⟨true, 27, y.map u32⟩, ⟨true, 28, z.map u32⟩] : List Blk) = h2 at X1 A2 a2 n2 G2
    simp only [at_cons, at_nil, and_true] at X1
    refine c_rLoad G h2 (h.length + 3) s P1.ok A2 _ fun h3 a3 g3 => ?_
    rw [eR]
    simp [hy, hz]
    have a4 := (a2.same fun j h1 h2 => g3.same j (by simp at h2 ⊢; omega)).app [⟨true, 27, y.map u32⟩, ⟨true, 28, z.map u32⟩]
    have a5 := a3.app [⟨true, 27, y.map u32⟩, ⟨true, 28, z.map u32⟩]
    have G5 := (G2.then g3 fun j hj _ => by simp; omega).trans (Gr.app h3 [⟨true, 27, y.map u32⟩, ⟨true, 28, z.map u32⟩] [])
    have u0 : (h3 ++ [⟨true, 27, y.map u32⟩, ⟨true, 28, z.map u32⟩] : List Blk)[h1.length]? = _ := (List.getElem?_append_left (by rw [g3.len]; omega)).trans ((g3.same _ (by simp; omega)).trans X1.1)
    have u1 : (h3 ++ [⟨true, 27, y.map u32⟩, ⟨true, 28, z.map u32⟩] : List Blk)[h1.length + 1]? = _ := (List.getElem?_append_left (by rw [g3.len]; omega)).trans ((g3.same _ (by simp; omega)).trans X1.2)
    have X5 := at_new h3 [⟨true, 27, y.map u32⟩, ⟨true, 28, z.map u32⟩]
    simp only [at_cons, at_nil, and_true] at X5
    generalize (h3 ++ [⟨true, 27, y.map u32⟩, ⟨true, 28, z.map u32⟩] : List Blk) = h5 at a4 a5 G5 u0 u1 X5
    simp [u0, u1, X5.1, X5.2, hy, hz, ty, tz]
    exact retK_zero hB G5 (by simp [bd]) hK
  obtain ⟨x, hx⟩ : ∃ x, l[i]? = some x := ⟨_, List.getElem?_eq_getElem hlt1⟩
  obtain ⟨q, rest, rfl, _, hq⟩ := hvi i x hx
  have h1 : (i : Int) < l.length := by omega
  have h2 : (i : Int) < 60 := by omega
  have hql := (List.getElem?_eq_some_iff.1 hq).1
  have hq' : h'[q]? = _ := (P.gr.same q hql (by simp)).trans hq
  obtain ⟨f1, f2⟩ := flatMap_at fAsk_len hx rest
  generalize l.flatMap fAsk ++ rest = qc at hq' f1 f2
  have f3 := fAsk_len x
  have f4 := fAsk_one x
  have e9 : IntKind.i64.wrap ((i : Int) + 1) = ((i + 1 : Nat) : Int) := by rw [wrap_i64 (by omega)]; omega
  simp [h1, h2, hlt1, hlt2, hq', f1, f2, f3, f4, fA0]
  have P1 := P.app [⟨true, 30, fAsk x⟩]
  have X1 := at_new h' [⟨true, 30, fAsk x⟩]
  have n1 : (h' ++ [⟨true, 30, fAsk x⟩] : List Blk).length = h'.length + 1 := by simp
  have l0 := P.len
  generalize (h' ++ [⟨true, 30, fAsk x⟩] : List Blk) = hx1 at P1 X1 n1
  simp only [at_cons, at_nil, and_true] at X1
  refine condP_split (fun k3 => ?_) (fun k3 => ?_)
  · simp
    refine c_sLoad G hT _ h.length s P1.ok P1.a _ fun h1 a1 g1 => ?_
    obtain ⟨pc, y, z, n, b, eR, hy, hz⟩ := ldR_shape s.row.ldS s.row.ldL_len
    have ty := List.take_of_length_le (l := y.map u32) (i := 32) (by simp [hy])
    have tz := List.take_of_length_le (l := z.map u32) (i := 5) (by simp [hz])
    rw [eR]
    simp [hy, hz]
    have A1 := P1.b.same fun j h1 h2 => g1.same j (by simp at h2 ⊢; omega)
    have X1 := at_new h1 [⟨true, 27, y.map u32⟩, ⟨true, 28, z.map u32⟩]
    have A2 := A1.app [⟨true, 27, y.map u32⟩, ⟨true, 28, z.map u32⟩]
    have a2 := a1.app [⟨true, 27, y.map u32⟩, ⟨true, 28, z.map u32⟩]
    have n2 : (h1 ++ [⟨true, 27, y.map u32⟩, ⟨true, 28, z.map u32⟩] : List Blk).length = h1.length + 2 := by simp
    have G2 := (P1.gr.then g1 fun j hj _ => by simp; omega).trans (Gr.app h1 [⟨true, 27, y.map u32⟩, ⟨true, 28, z.map u32⟩] [])
    have l1 : h.length + 6 ≤ h1.length := by have := encV_le A1; omega
    generalize (h1 ++ [⟨true, 27, y.map u32⟩, ⟨true, 28, z.map u32⟩] : List Blk) = h2 at X1 A2 a2 n2 G2
    simp only [at_cons, at_nil, and_true] at X1
    refine c_rLoad G h2 (h.length + 3) s P1.ok A2 _ fun h3 a3 g3 => ?_
    rw [eR]
    simp [hy, hz]
    have a4 := (a2.same fun j h1 h2 => g3.same j (by simp at h2 ⊢; omega)).app [⟨true, 27, y.map u32⟩, ⟨true, 28, z.map u32⟩]
    have a5 := a3.app [⟨true, 27, y.map u32⟩, ⟨true, 28, z.map u32⟩]
    have G5 := (G2.then g3 fun j hj _ => by simp; omega).trans (Gr.app h3 [⟨true, 27, y.map u32⟩, ⟨true, 28, z.map u32⟩] [])
    have u0 : (h3 ++ [⟨true, 27, y.map u32⟩, ⟨true, 28, z.map u32⟩] : List Blk)[h1.length]? = _ := (List.getElem?_append_left (by rw [g3.len]; omega)).trans ((g3.same _ (by simp; omega)).trans X1.1)
    have u1 : (h3 ++ [⟨true, 27, y.map u32⟩, ⟨true, 28, z.map u32⟩] : List Blk)[h1.length + 1]? = _ := (List.getElem?_append_left (by rw [g3.len]; omega)).trans ((g3.same _ (by simp; omega)).trans X1.2)
    have X5 := at_new h3 [⟨true, 27, y.map u32⟩, ⟨true, 28, z.map u32⟩]
    simp only [at_cons, at_nil, and_true] at X5
    generalize (h3 ++ [⟨true, 27, y.map u32⟩, ⟨true, 28, z.map u32⟩] : List Blk) = h5 at a4 a5 G5 u0 u1 X5
    simp [u0, u1, X5.1, X5.2, hy, hz, ty, tz]
    simp [e9]
    exact ⟨h5, i + 1, ⟨by omega, ⟨s.row.ld, s.ix⟩, Sv.ld_ok P1.ok, a4, a5, G5⟩, by simp, by omega⟩
  simp
  refine condP_split (fun k4 => ?_) (fun k4 => ?_)
  · simp
    refine c_sScrub G hT _ h.length s P1.ok P1.a _ fun h2 a2 g2 => ?_
    simp
    refine c_rScrub G h2 (h.length + 3) s P1.ok (P1.b.same fun j h1 h2 => g2.same j (by simp at h2 ⊢; omega)) _ fun h3 a3 g3 => ?_
    simp [e9]
    exact ⟨h3, i + 1, ⟨by omega, s.scrub, P1.step (Sv.scrub_ok P1.ok) a2 g2 a3 g3⟩, by simp, by omega⟩
  simp
  cases k5 : x.kind == 5
  case true =>
    simp
    have b0 := (encV_get P1.b).2
    refine drawE_intro (.st 0 0 <| .st 1 0 <| .st 2 0 <| .st 4 0 <| .st 5 0 <| .st 6 0 <| .st 7 0 <| .st 8 0 <| .st 9 0 <| .st 3 1 <| .st 10 1 <| .st 11 0 .done) (by kernel_rfl) (by kernel_rfl) (by kernel_rfl) ?_
    simp [X1, f3, b0, seg]
    refine c_sFlip G _ h.length s P1.ok P1.a x.n _ fun h2 a2 g2 => ?_
    have X2 : h2[h'.length]? = _ := (g2.same _ (by simp; omega)).trans X1
    have b2 := P1.b.same fun j h1 h2 => g2.same j (by simp at h2 ⊢; omega)
    have b3 := encV_get b2
    simp [X1, X2, f3, seg, b0, b3.2]
    refine c_rFlip G h2 (h.length + 3) s.row b3.1 (by rw [P1.ok.len]; decide) x.n _ fun h3 a3 g3 => ?_
    have a4 := encV_row b2 a3 g3
    have X3 : h3[h'.length]? = _ := (g3.same _ (by simp; omega)).trans X2
    have b4 := encV_get a4
    simp [X1, X2, X3, f3, seg, b0, b3.2, b4.2, e9]
    exact ⟨h3, i + 1, ⟨by omega, s.flip x.n, P1.step (Sv.flip_ok P1.ok _) a2 g2 a4 (fr23 g3)⟩, by simp, by omega⟩
  simp
  cases k6 : x.kind == 6
  case true =>
    simp
    have b0 := (encV_get P1.b).2
    refine drawE_intro (.st 0 0 <| .st 1 0 <| .st 2 0 <| .st 4 0 <| .st 5 0 <| .st 6 0 <| .st 7 0 <| .st 8 0 <| .st 9 0 <| .st 3 1 <| .st 10 1 <| .st 11 0 .done) (by kernel_rfl) (by kernel_rfl) (by kernel_rfl) ?_
    simp [X1, f3, b0, seg]
    refine c_sFlip G _ h.length s P1.ok P1.a x.n _ fun h2 a2 g2 => ?_
    have X2 : h2[h'.length]? = _ := (g2.same _ (by simp; omega)).trans X1
    have b2 := P1.b.same fun j h1 h2 => g2.same j (by simp at h2 ⊢; omega)
    have b3 := encV_get b2
    simp [X1, X2, f3, seg, b0, b3.2]
    refine c_rFlip G h2 (h.length + 3) s.row b3.1 (by rw [P1.ok.len]; decide) x.n _ fun h3 a3 g3 => ?_
    have a4 := encV_row b2 a3 g3
    have X3 : h3[h'.length]? = _ := (g3.same _ (by simp; omega)).trans X2
    have b4 := encV_get a4
    simp [X1, X2, X3, f3, seg, b0, b3.2, b4.2, e9]
    exact ⟨h3, i + 1, ⟨by omega, s.flip x.n, P1.step (Sv.flip_ok P1.ok _) a2 g2 a4 (fr23 g3)⟩, by simp, by omega⟩
  simp [X1, f3, fAsk_regs, fAsk_csrs]
  refine c_sSave G hT _ h.length s P1.ok P1.a x.pc x.regs x.csrs x.hr x.hc x.n _ fun h2 a2 g2 => ?_
  have X2 : h2[h'.length]? = _ := (g2.same _ (by simp; omega)).trans X1
  simp [X2, f3, fAsk_regs, fAsk_csrs]
  refine c_rSave G h2 (h.length + 3) s P1.ok (P1.b.same fun j h1 h2 => g2.same j (by simp at h2 ⊢; omega)) x.pc x.regs x.csrs x.hr x.hc x.n _ fun h3 a3 g3 => ?_
  simp [e9]
  exact ⟨h3, i + 1, ⟨by omega, s.save (svL x.pc x.regs x.csrs x.n), P1.step (Sv.save_ok P1.ok _) a2 g2 a3 g3⟩, by simp, by omega⟩
end Go.Proofs.YtkcdcogmnplhjaaDoor
