/-
  Places of a heap, and what a step leaves as it was. Generic in the program.
-/
import Derived.Test.YtkcdcogmnplhjaaDoorV
namespace Go.Proofs.YtkcdcogmnplhjaaDoor
open Go
set_option linter.unusedSimpArgs false
set_option linter.unusedVariables false
set_option linter.unnecessarySimpa false

/-- From place m on the heap bears these blocks. -/
def At (h : List Blk) : Nat → List Blk → Prop
  | _, [] => True
  | m, b :: l => h[m]? = some b ∧ At h (m + 1) l
/-- A place outside of all these pieces (where, how many). -/
def out (k : Nat) : List (Nat × Nat) → Prop
  | [] => True
  | (m, n) :: l => (k < m ∨ m + n ≤ k) ∧ out k l
/-- As long as it was, and the same outside of these pieces. -/
structure Fr (h h' : List Blk) (S : List (Nat × Nat)) : Prop where
  len : h'.length = h.length
  same : ∀ k, out k S → h'[k]? = h[k]?
/-- Perhaps longer, and the same where it was outside of these pieces. -/
structure Gr (h h' : List Blk) (S : List (Nat × Nat)) : Prop where
  len : h.length ≤ h'.length
  same : ∀ k, k < h.length → out k S → h'[k]? = h[k]?

@[simp] theorem at_nil (h : List Blk) (m : Nat) : At h m [] = True := by unfold At; rfl
@[simp] theorem at_cons (h : List Blk) (m : Nat) (b : Blk) (l : List Blk) : At h m (b :: l) = (h[m]? = some b ∧ At h (m + 1) l) := by rw [At]
@[simp] theorem out_nil (k : Nat) : out k [] = True := by unfold out; rfl
@[simp] theorem out_cons (k m n : Nat) (l : List (Nat × Nat)) : out k ((m, n) :: l) = ((k < m ∨ m + n ≤ k) ∧ out k l) := by rw [out]
@[simp] theorem at_append (h : List Blk) (m : Nat) (a b : List Blk) : At h m (a ++ b) = (At h m a ∧ At h (m + a.length) b) := by
  induction a generalizing m with
  | nil => simp
  | cons x a ih => simp only [List.cons_append, at_cons, ih, List.length_cons]; rw [and_assoc, show m + 1 + a.length = m + (a.length + 1) by omega]
theorem At.same {h h' : List Blk} {m : Nat} {l : List Blk} (H : At h m l) (hs : ∀ k, m ≤ k → k < m + l.length → h'[k]? = h[k]?) : At h' m l := by
  induction l generalizing m with
  | nil => simp
  | cons x l ih =>
    simp only [at_cons, List.length_cons] at H hs ⊢
    exact ⟨by rw [hs m (by omega) (by omega)]; exact H.1, ih H.2 fun k h1 h2 => hs k (by omega) (by omega)⟩
theorem At.le {h : List Blk} {m : Nat} {l : List Blk} (H : At h m l) (hl : l ≠ []) : m + l.length ≤ h.length := by
  induction l generalizing m with
  | nil => exact absurd rfl hl
  | cons x l ih =>
    simp only [at_cons, List.length_cons] at H ⊢
    have h1 := (List.getElem?_eq_some_iff.1 H.1).1
    cases l with
    | nil => simp; omega
    | cons y l => have := ih H.2 (by simp); simp only [List.length_cons] at this ⊢; omega
theorem At.get {h : List Blk} {m : Nat} {l : List Blk} (H : At h m l) {i : Nat} {b : Blk} (hb : l[i]? = some b) : h[m + i]? = some b := by
  induction l generalizing m i with
  | nil => simp at hb
  | cons x l ih =>
    simp only [at_cons] at H
    cases i with
    | zero => simp at hb; subst hb; exact H.1
    | succ i => simp at hb; rw [show m + (i + 1) = m + 1 + i by omega]; exact ih H.2 hb
theorem at_of_get {h : List Blk} {m : Nat} {l : List Blk} (H : ∀ i b, l[i]? = some b → h[m + i]? = some b) : At h m l := by
  induction l generalizing m with
  | nil => simp
  | cons x l ih =>
    simp only [at_cons]
    refine ⟨H 0 x rfl, ih fun i b hb => ?_⟩
    have := H (i + 1) b (by simpa using hb)
    rw [show m + 1 + i = m + (i + 1) by omega]; exact this
theorem at_new (h l : List Blk) : At (h ++ l) h.length l := at_of_get fun i b hb => by rw [List.getElem?_append_right (by omega)]; simpa using hb
theorem at_new' (h g l : List Blk) {m : Nat} (hm : m = h.length + g.length) : At (h ++ (g ++ l)) m l := by
  subst hm; rw [← List.append_assoc, ← List.length_append]; exact at_new _ _
theorem At.app {h : List Blk} {m : Nat} {l : List Blk} (H : At h m l) (g : List Blk) : At (h ++ g) m l := by
  cases l with
  | nil => simp
  | cons x l => exact H.same fun k h1 h2 => List.getElem?_append_left (by have := H.le (by simp); omega)

theorem Fr.refl (h : List Blk) (S : List (Nat × Nat)) : Fr h h S := ⟨rfl, fun _ _ => rfl⟩
theorem Fr.trans {h h' h'' : List Blk} {S : List (Nat × Nat)} (a : Fr h h' S) (b : Fr h' h'' S) : Fr h h'' S := ⟨b.len.trans a.len, fun k hk => (b.same k hk).trans (a.same k hk)⟩
theorem Fr.mono {h h' : List Blk} {S T : List (Nat × Nat)} (a : Fr h h' S) (hs : ∀ k, out k T → out k S) : Fr h h' T := ⟨a.len, fun k hk => a.same k (hs k hk)⟩
theorem Fr.gr {h h' : List Blk} {S : List (Nat × Nat)} (a : Fr h h' S) : Gr h h' S := ⟨by rw [a.len]; exact Nat.le_refl _, fun k _ hk => a.same k hk⟩
theorem Fr.set {h : List Blk} {k : Nat} {b : Blk} {S : List (Nat × Nat)} (hk : ∀ j, out j S → j ≠ k) : Fr h (h.set k b) S := ⟨by simp, fun j hj => List.getElem?_set_ne (fun e => hk j hj e.symm)⟩
theorem Fr.at {h h' : List Blk} {S : List (Nat × Nat)} (a : Fr h h' S) {m : Nat} {l : List Blk} (hs : ∀ k, m ≤ k → k < m + l.length → out k S) (H : At h m l) : At h' m l :=
  H.same fun k h1 h2 => a.same k (hs k h1 h2)
theorem Gr.refl (h : List Blk) (S : List (Nat × Nat)) : Gr h h S := ⟨Nat.le_refl _, fun _ _ _ => rfl⟩
theorem Gr.app (h g : List Blk) (S : List (Nat × Nat)) : Gr h (h ++ g) S := ⟨by simp, fun _ hk _ => List.getElem?_append_left hk⟩
theorem Gr.trans {h h' h'' : List Blk} {S : List (Nat × Nat)} (a : Gr h h' S) (b : Gr h' h'' S) : Gr h h'' S :=
  ⟨Nat.le_trans a.len b.len, fun k hl hk => (b.same k (Nat.lt_of_lt_of_le hl a.len) hk).trans (a.same k hl hk)⟩
theorem Gr.mono {h h' : List Blk} {S T : List (Nat × Nat)} (a : Gr h h' S) (hs : ∀ k, k < h.length → out k T → out k S) : Gr h h' T := ⟨a.len, fun k hl hk => a.same k hl (hs k hl hk)⟩
theorem Gr.at {h h' : List Blk} {S : List (Nat × Nat)} (a : Gr h h' S) {m : Nat} {l : List Blk} (hs : ∀ k, m ≤ k → k < m + l.length → out k S) (H : At h m l) : At h' m l := by
  cases l with
  | nil => simp
  | cons x l => exact H.same fun k h1 h2 => a.same k (by have := H.le (by simp); omega) (hs k h1 h2)
theorem Gr.set {h h' : List Blk} {k : Nat} {b : Blk} {S : List (Nat × Nat)} (a : Gr h h' S) (hk : ∀ j, j < h.length → out j S → j ≠ k) : Gr h (h'.set k b) S :=
  ⟨by simpa using a.len, fun j hl hj => by rw [List.getElem?_set_ne (fun e => hk j hl hj e.symm)]; exact a.same j hl hj⟩
theorem Gr.then {h h' h'' : List Blk} {S T : List (Nat × Nat)} (a : Gr h h' S) (b : Fr h' h'' T) (hs : ∀ k, k < h.length → out k S → out k T) : Gr h h'' S :=
  ⟨by rw [b.len]; exact a.len, fun k hl hk => (b.same k (hs k hl hk)).trans (a.same k hl hk)⟩
theorem Gr.then' {h h' h'' : List Blk} {S T : List (Nat × Nat)} (a : Gr h h' S) (b : Gr h' h'' T) (hs : ∀ k, k < h.length → out k S → out k T) : Gr h h'' S :=
  ⟨Nat.le_trans a.len b.len, fun k hl hk => (b.same k (Nat.lt_of_lt_of_le hl a.len) (hs k hl hk)).trans (a.same k hl hk)⟩
theorem at_set {h : List Blk} {m : Nat} {b b' : Blk} (hm : h[m]? = some b) : At (h.set m b') m [b'] := by
  have := (List.getElem?_eq_some_iff.1 hm).1
  simp [this]

theorem bdH_get {n : Nat} : ∀ {l : List Blk} {i : Nat} {b : Blk}, bdH n l = true → l[i]? = some b → bds n b.c = true
  | [], i, b, _, hi => by simp at hi
  | x :: l, 0, b, h, hi => by simp at hi; subst hi; simp only [bdH, Bool.and_eq_true] at h; exact h.1
  | x :: l, i + 1, b, h, hi => by simp at hi; simp only [bdH, Bool.and_eq_true] at h; exact bdH_get h.2 hi
/-- At a return: what was made on the way is dropped. -/
theorem retK_fr {K : Value → List Blk → Prop} {r : Value} {h h2 : List Blk} {S : List (Nat × Nat)} (hB : bdH h.length h = true) (hg : Gr h h2 S)
    (hS : ∀ k b, k < h.length → ¬ out k S → h2[k]? = some b → bds h.length b.c = true) (hr : bd h.length r = true)
    (H : ∀ h', Fr h h' S → (∀ k, k < h.length → h'[k]? = h2[k]?) → K r h') : retK h.length K r h2 := by
  have ht : ∀ k, k < h.length → (h2.take h.length)[k]? = h2[k]? := fun k hk => List.getElem?_take_of_lt hk
  have hl : (h2.take h.length).length = h.length := by rw [List.length_take]; have := hg.len; omega
  refine retK_cut h.length (Nat.le_refl _) hg.len hr (bdH_of_all fun i b hi => ?_) (H _ ⟨hl, fun k hk => ?_⟩ ht)
  · have hi' := (List.getElem?_eq_some_iff.1 hi).1
    rw [ht i (by omega)] at hi
    by_cases ho : out i S
    · rw [hg.same i (by omega) ho] at hi; exact bdH_get hB hi
    · exact hS i b (by omega) ho hi
  · by_cases hk' : k < h.length
    · rw [ht k hk']; exact hg.same k hk' hk
    · rw [List.getElem?_eq_none (by omega), List.getElem?_eq_none (by omega)]
theorem retK_zero {K : Value → List Blk → Prop} {r : Value} {h h2 : List Blk} (hB : bdH h.length h = true) (hg : Gr h h2 []) (hr : bd h.length r = true) (H : K r h) : retK h.length K r h2 :=
  retK_fr hB hg (fun k b _ ho _ => absurd trivial (by simpa using ho)) hr fun h' hf _ => by
    have : h' = h := List.ext_getElem? fun k => hf.same k (by simp)
    rw [this]; exact H
theorem retK_one {K : Value → List Blk → Prop} {r : Value} {h h2 : List Blk} {m n : Nat} {l : List Blk} (hB : bdH h.length h = true) (hA : At h2 m l) (hn : l.length = n) (hg : Gr h h2 [(m, n)]) (hm : m + n ≤ h.length)
    (hl : bdH h.length l = true) (hr : bd h.length r = true) (H : ∀ h', At h' m l → Fr h h' [(m, n)] → K r h') : retK h.length K r h2 := by
  subst hn
  refine retK_fr hB hg (fun k b hk ho hb => ?_) hr fun h' hf hs => H h' (hA.same fun k h1 h2 => hs k (by omega)) hf
  simp at ho
  obtain ⟨i, rfl⟩ := Nat.exists_eq_add_of_le ho.1
  obtain ⟨x, hx⟩ : ∃ x, l[i]? = some x := ⟨_, List.getElem?_eq_getElem (by omega)⟩
  have := hA.get hx
  rw [this] at hb; cases hb
  exact bdH_get hl hx

/-! Loops: what a round writes is forgotten but for some slots -/
def msk : List Nat → List (Option Value) → List (Option Value)
  | [], t => t
  | k :: M, t => msk M (t.set k none)
def ovr : List (Nat × Value) → List (Option Value) → List (Option Value)
  | [], t => t
  | (k, v) :: l, t => ovr l (t.set k (some v))
@[simp] theorem msk_nil (t : List (Option Value)) : msk [] t = t := id rfl
@[simp] theorem msk_cons (k : Nat) (M : List Nat) (t : List (Option Value)) : msk (k :: M) t = msk M (t.set k none) := id rfl
@[simp] theorem ovr_nil (t : List (Option Value)) : ovr [] t = t := id rfl
@[simp] theorem ovr_cons (k : Nat) (v : Value) (l : List (Nat × Value)) (t : List (Option Value)) : ovr ((k, v) :: l) t = ovr l (t.set k (some v)) := id rfl
theorem loopP_m {m : Nat} {W : (Exit → St → Prop) → St → Prop} {Q : Exit → St → Prop} {t : List (Option Value)} {h : List Blk} {α : Type} (M : List Nat) (up : α → List (Nat × Value)) (hp : α → List Blk) (inv : α → Prop) (μ : α → Nat) (a0 : α)
    (h1 : inv a0) (h2 : Le m ⟨ovr (up a0) (msk M t), hp a0⟩ ⟨t, h⟩)
    (h3 : ∀ a, inv a → W (thn (fun s' => ∃ a', inv a' ∧ Le m ⟨ovr (up a') (msk M t), hp a'⟩ s' ∧ μ a' < μ a) Q) ⟨ovr (up a) (msk M t), hp a⟩) : loopP m W Q ⟨t, h⟩ :=
  loopP_intro (fun a => ⟨ovr (up a) (msk M t), hp a⟩) inv μ a0 h1 h2 h3
/-- Another round of a loop: with less left. -/
def Again {α : Type} (m : Nat) (F : α → St) (inv : α → Prop) (μ : α → Nat) (b : Nat) (s' : St) : Prop := ∃ a', inv a' ∧ Le m (F a') s' ∧ μ a' < b
@[congr] theorem Again_c {α : Type} {m : Nat} {F : α → St} {inv : α → Prop} {μ : α → Nat} {b : Nat} {s s' : St} (h : s = s') : Again m F inv μ b s = Again m F inv μ b s' := by rw [h]
theorem again {α : Type} {m : Nat} {F : α → St} {inv : α → Prop} {μ : α → Nat} {b : Nat} {s' : St} (a' : α) (h1 : inv a') (h2 : Le m (F a') s') (h3 : μ a' < b) : Again m F inv μ b s' := ⟨a', h1, h2, h3⟩
theorem loopP_g {m : Nat} {W : (Exit → St → Prop) → St → Prop} {Q : Exit → St → Prop} {t : List (Option Value)} {h : List Blk} {α : Type} (M : List Nat) (up : α → List (Nat × Value)) (hp : α → List Blk) (inv : α → Prop) (μ : α → Nat) (a0 : α)
    (h1 : inv a0) (h2 : Le m ⟨ovr (up a0) (msk M t), hp a0⟩ ⟨t, h⟩)
    (h3 : ∀ a, inv a → W (thn (Again m (fun a => ⟨ovr (up a) (msk M t), hp a⟩) inv μ (μ a)) Q) ⟨ovr (up a) (msk M t), hp a⟩) : loopP m W Q ⟨t, h⟩ :=
  loopP_intro (fun a => ⟨ovr (up a) (msk M t), hp a⟩) inv μ a0 h1 h2 h3
end Go.Proofs.YtkcdcogmnplhjaaDoor
