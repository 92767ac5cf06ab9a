/-
  Slices that a walk makes itself, and what 'append' does to them. Generic in the program.
-/
import Derived.Test.YtkcdcogmnplhjaaDoorH
namespace Go.Proofs.YtkcdcogmnplhjaaDoor
open Go
set_option linter.unusedSimpArgs false
set_option linter.unusedVariables false
set_option linter.unnecessarySimpa false

/-- The block of a slice. -/
def slB : Value → Option Nat
  | .slice (some a) _ _ => some a.block
  | _ => none
/-- A slice of a list's things (each: f), in a block of its own behind the first n0; nil of none. -/
def Sl {α : Type} (e sz : Nat) (f : α → List Value) (n0 : Nat) (h : List Blk) (l : List α) (v : Value) : Prop :=
  (l = [] ∧ v = .slice none 0 0) ∨ ∃ q cap rest, v = .slice (some ⟨q, 0, none⟩) l.length cap ∧ n0 ≤ q ∧ h[q]? = some ⟨true, e, l.flatMap f ++ rest⟩ ∧ l.length ≤ cap ∧ rest.length = (cap - l.length) * sz ∧ fls rest = true
theorem Sl.mono {α : Type} {e sz : Nat} {f : α → List Value} {n0 : Nat} {h h' : List Blk} {l : List α} {v : Value} (H : Sl e sz f n0 h l v) (hs : ∀ q, slB v = some q → q < h.length → h'[q]? = h[q]?) : Sl e sz f n0 h' l v := by
  rcases H with H | ⟨q, cap, rest, e, hn, hq, hc, hr, hf⟩
  · exact .inl H
  · subst e
    exact .inr ⟨q, cap, rest, rfl, hn, by rw [hs q rfl (List.getElem?_eq_some_iff.1 hq).1]; exact hq, hc, hr, hf⟩
theorem Sl.le {α : Type} {e sz : Nat} {f : α → List Value} {n0 n1 : Nat} {h : List Blk} {l : List α} {v : Value} (H : Sl e sz f n0 h l v) (hn : n1 ≤ n0) : Sl e sz f n1 h l v := by
  rcases H with H | ⟨q, cap, rest, e, hn', hq, hc, hr, hf⟩
  · exact .inl H
  · exact .inr ⟨q, cap, rest, e, by omega, hq, hc, hr, hf⟩
theorem Sl.blk {α : Type} {e sz : Nat} {f : α → List Value} {n0 : Nat} {h : List Blk} {l : List α} {v : Value} (H : Sl e sz f n0 h l v) {q : Nat} (hq : slB v = some q) : n0 ≤ q ∧ q < h.length := by
  rcases H with ⟨_, e⟩ | ⟨q', cap, rest, e, hn, hq', _⟩ <;> subst e <;> simp [slB] at hq
  subst hq
  exact ⟨hn, (List.getElem?_eq_some_iff.1 hq').1⟩
theorem flatMap_len {α : Type} {sz : Nat} {f : α → List Value} (hf : ∀ a, (f a).length = sz) (l : List α) : (l.flatMap f).length = l.length * sz := by
  induction l with
  | nil => simp
  | cons x l ih => simp only [List.flatMap_cons, List.length_append, hf, ih, List.length_cons]; rw [Nat.succ_mul, Nat.add_comm]
theorem flatMap_one {α : Type} {f : α → List Value} (h1 : ∀ a, (f a).all Value.oneCell' = true) (l : List α) : (l.flatMap f).all Value.oneCell' = true := by
  induction l with
  | nil => rfl
  | cons x l ih => rw [List.flatMap_cons, List.all_append, h1, ih]; rfl
theorem flatMap_fl {α : Type} {f : α → List Value} (h1 : ∀ a, fls (f a) = true) (l : List α) : fls (l.flatMap f) = true := by
  induction l with
  | nil => rfl
  | cons x l ih => rw [List.flatMap_cons]; exact fls_append (h1 x) ih
theorem fls_drop (l : List Value) (n : Nat) (h : fls l = true) : fls (l.drop n) = true := by
  induction l generalizing n with
  | nil => simp
  | cons x l ih =>
    cases n with
    | zero => exact h
    | succ n => simp only [fls, Bool.and_eq_true] at h; exact ih n h.2

theorem app_sl {P : Program} {α : Type} {t e sz by' : Nat} {z : List Value} {f : α → List Value} (hel : elemT P t = some (e, sz, by', z)) (hf : ∀ a, (f a).length = sz) (hone : ∀ a, (f a).all Value.oneCell' = true) (hfl : ∀ a, fls (f a) = true)
    (n0 : Nat) (h : List Blk) (l l2 : List α) (sl : Value) (ad : Addr) (c2 : Nat) (hn : n0 ≤ h.length) (Hs : Sl e sz f n0 h l sl) (hx : srcCells h ad (l2.length * sz) = some (l2.flatMap f))
    (hb : (l.length + l2.length) * by' ≤ 140737488355328) (hb2 : l.length + l2.length < 9223372036854775807) (K : Value → List Blk → Prop)
    (hK : ∀ h' v, Sl e sz f n0 h' (l ++ l2) v → (∀ k < h.length, slB sl ≠ some k → h'[k]? = h[k]?) → h.length ≤ h'.length → (slB v = slB sl ∨ slB v = some h.length) → K v h') :
    appendStep P h t sl (.slice (some ad) l2.length c2) K := by
  have hfl2 := flatMap_fl hfl
  have hlen := flatMap_len hf
  unfold appendStep
  rcases Hs with ⟨rfl, rfl⟩ | ⟨q, cap, rest, rfl, hnq, hq, hcap, hrl, hfr⟩
  · simp only [hel]
    refine ⟨l2.flatMap f, hx, flatMap_one hone l2, by simpa using hb, by simpa using hb2, fun h0 => ?_, fun _ cap rest hc hr hr2 => ?_⟩
    · have : l2 = [] := List.length_eq_zero_iff.1 h0
      subst this
      exact hK h _ (.inl ⟨rfl, rfl⟩) (fun _ _ _ => rfl) (Nat.le_refl _) (.inl rfl)
    · refine hK _ _ (.inr ⟨h.length, cap, rest, by simp, hn, by simp, by simpa using hc, by simpa using hr, hr2⟩) (fun k hk _ => List.getElem?_append_left hk) (by simp) (.inr rfl)
  · have hql : q < h.length := (List.getElem?_eq_some_iff.1 hq).1
    have ht : (l.flatMap f ++ rest).take (l.length * sz) = l.flatMap f := by rw [← hlen l, List.take_left']; rfl
    have hd : (l.flatMap f ++ rest).drop (l.length * sz) = rest := by rw [← hlen l, List.drop_left']; rfl
    have hd1 : (l.flatMap f ++ rest).drop ((l.length + l2.length) * sz) = rest.drop (l2.length * sz) := by rw [Nat.add_mul, ← List.drop_drop, hd]
    have hcs : (cap - l.length) * sz + l.length * sz = cap * sz := by rw [← Nat.add_mul, Nat.sub_add_cancel hcap]
    simp only [hel]
    refine ⟨_, l2.flatMap f, trivial, hq, rfl, rfl, by simp only [List.length_append, hlen]; omega, hcap, hx, flatMap_one hone l2, ?_⟩
    simp only
    rw [ht, hd, hd1]
    by_cases hc : l.length + l2.length ≤ cap
    · refine .inl ⟨hc, hK _ _ (.inr ⟨q, cap, rest.drop (l2.length * sz), by simp, hnq, by simp [hql], by simpa using hc, ?_, fls_drop _ _ hfr⟩) (fun k hk hne => ?_) (by simp) (.inl rfl)⟩
      · rw [List.length_drop, hrl, List.length_append, ← Nat.sub_mul, Nat.sub_sub]
      · exact List.getElem?_set_ne (fun e => hne (by rw [← e]; rfl))
    · refine .inr ⟨hb, hb2, hfr, fun cap' rest' hc' hr hr2 => ?_⟩
      refine hK _ _ (.inr ⟨h.length, cap', rest', by simp, hn, by simp, by simpa using hc', by simpa using hr, hr2⟩) (fun k hk hne => ?_) (by simp) (.inr rfl)
      rw [List.getElem?_append_left (by simpa using hk), List.getElem?_set_ne (fun e => hne (by rw [← e]; rfl))]
theorem app_nil {P : Program} {t e sz by' : Nat} {z : List Value} (hel : elemT P t = some (e, sz, by', z)) {h : List Blk} {b : Option Addr} {n cap c2 : Nat} {K : Value → List Blk → Prop} (hn : n ≤ cap) (hK : K (.slice b n cap) h) :
    appendStep P h t (.slice b n cap) (.slice none 0 c2) K := by
  unfold appendStep
  simp only [hel]
  exact ⟨hn, hK⟩

theorem copy_sl {P : Program} {t t' e sz by' : Nat} {z : List Value} (hel : elemT P t = some (e, sz, by', z)) {h : List Blk} {a ad : Addr} {dl sl c1 c2 : Nat} {K : Value → List Blk → Prop} (b : Blk) (hb : h[a.block]? = some b) (ho : b.own = true)
    (news : List Value) (hx : srcCells h ad (min sl dl * sz) = some news) (h1 : news.all Value.oneCell' = true) (hle : a.off + min sl dl * sz ≤ b.c.length)
    (hK : K (.int .i64 (min sl dl : Nat)) (h.set a.block ⟨b.own, b.T, b.c.take a.off ++ news ++ b.c.drop (a.off + min sl dl * sz)⟩)) : copyE P [t, t'] (some [.slice (some a) dl c1, .slice (some ad) sl c2]) K h := by
  unfold copyE copyStep
  simp only [hel]
  exact ⟨b, news, hb, ho, hx, h1, hle, hK⟩

mutual
theorem bd_mono {n m : Nat} (hm : n ≤ m) : ∀ (v : Value), bd n v = true → bd m v = true
  | .pointer (some a), h => by simp [bd, Addr.bd] at h ⊢; omega
  | .pointer none, _ => rfl
  | .slice (some a) _ _, h => by simp [bd, Addr.bd] at h ⊢; omega
  | .slice none _ _, _ => rfl
  | .iface _ v, h => by simp only [bd] at h ⊢; exact bd_mono hm v h
  | .agg ⟨c⟩, h => by simp only [bd] at h ⊢; exact bds_mono' hm c h
  | .tuple ⟨c⟩, h => by simp only [bd] at h ⊢; exact bds_mono' hm c h
  | .bool _, _ => rfl
  | .int _ _, _ => rfl
  | .string _, _ => rfl
  | .nilFunc, _ => rfl
  | .nilIface, _ => rfl
  | .float _ _, _ => rfl
  | .complex _ _ _, _ => rfl
  | .map _, _ => rfl
  | .chan _, _ => rfl
  | .func _ _ _, _ => rfl
theorem bds_mono' {n m : Nat} (hm : n ≤ m) : ∀ (l : List Value), bds n l = true → bds m l = true
  | [], _ => rfl
  | v :: l, h => by simp only [bds, Bool.and_eq_true] at h ⊢; exact ⟨bd_mono hm v h.1, bds_mono' hm l h.2⟩
end
theorem bds_mono {n m : Nat} (hm : n ≤ m) {l : List Value} (h : bds n l = true) : bds m l = true := bds_mono' hm l h
theorem bdH_mono {n m : Nat} (hm : n ≤ m) : ∀ {l : List Blk}, bdH n l = true → bdH m l = true
  | [], _ => rfl
  | b :: l, h => by simp only [bdH, Bool.and_eq_true] at h ⊢; exact ⟨bds_mono hm h.1, bdH_mono hm h.2⟩
theorem bdH_append {n : Nat} : ∀ {a b : List Blk}, bdH n a = true → bdH n b = true → bdH n (a ++ b) = true
  | [], _, _, h => h
  | x :: a, b, h, h' => by simp only [List.cons_append, bdH, Bool.and_eq_true] at h ⊢; exact ⟨h.1, bdH_append h.2 h'⟩
/-- At a return: of what was made on the way the first blocks are kept. -/
theorem retK_new {K : Value → List Blk → Prop} {r : Value} {h h2 l : List Blk} (hB : bdH h.length h = true) (hg : Gr h h2 []) (hA : At h2 h.length l) (hl : bdH (h.length + l.length) l = true)
    (hr : bd (h.length + l.length) r = true) (H : K r (h ++ l)) : retK h.length K r h2 := by
  have hle : h.length + l.length ≤ h2.length := by
    cases l with
    | nil => simpa using hg.len
    | cons x l => exact hA.le (by simp)
  have e : h2.take (h.length + l.length) = h ++ l := by
    apply List.ext_getElem?
    intro i
    by_cases h1 : i < h.length
    · rw [List.getElem?_take_of_lt (by omega), hg.same i h1 (by simp), List.getElem?_append_left h1]
    · by_cases h3 : i < h.length + l.length
      · rw [List.getElem?_take_of_lt h3, List.getElem?_append_right (by omega)]
        obtain ⟨x, hx⟩ : ∃ x, l[i - h.length]? = some x := ⟨_, List.getElem?_eq_getElem (by omega)⟩
        have := hA.get hx
        rw [show h.length + (i - h.length) = i by omega] at this
        rw [this, hx]
      · rw [List.getElem?_eq_none (by simp; omega), List.getElem?_eq_none (by simp; omega)]
  refine retK_cut (h.length + l.length) (by omega) hle hr ?_ ?_
  · rw [e]; exact bdH_append (bdH_mono (by omega) hB) hl
  · rw [e]; exact H
end Go.Proofs.YtkcdcogmnplhjaaDoor
