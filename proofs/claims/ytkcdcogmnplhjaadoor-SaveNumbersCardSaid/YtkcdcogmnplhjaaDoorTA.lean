/-
  A symbolic logic for the walks of this claim: canonical heaps under list positions, their relation to the model's worlds, a weakest-precondition function over the model's code, and its soundness against the kit's own calculus. Generic in the program; no statement of the claim is proved here.
-/
import Derived.OrdersHeld
import Derived.Tactics
import Derived.WalkKit
import Derived.Deep.LoopGhost
import Derived.Scope
import Derived.ChangeKeysEq
namespace Go.Proofs.YtkcdcogmnplhjaaDoor
open Go
set_option linter.unusedSimpArgs false
set_option linter.unusedVariables false
set_option linter.unnecessarySimpa false

/-! ### Part 1 -/
structure Ent where
  r : Nat
  base : Nat
  own : Bool

structure Blk where
  own : Bool
  T : Nat
  c : List Value

mutual
inductive VR (ρ : List Ent) : Value → Value → Prop
  | bool (b : Bool) : VR ρ (.bool b) (.bool b)
  | int (k : IntKind) (n : Int) : VR ρ (.int k n) (.int k n)
  | string (s : ByteArray) : VR ρ (.string s) (.string s)
  | pnil : VR ρ (.pointer none) (.pointer none)
  | ptr {k : Nat} {e : Ent} (o : Nat) : ρ[k]? = some e → VR ρ (.pointer (some ⟨k, o, none⟩)) (.pointer (some ⟨e.r, e.base + o, none⟩))
  | snil (l c : Nat) : VR ρ (.slice none l c) (.slice none l c)
  | slice {k : Nat} {e : Ent} (o l c : Nat) : ρ[k]? = some e → VR ρ (.slice (some ⟨k, o, none⟩) l c) (.slice (some ⟨e.r, e.base + o, none⟩) l c)
  | func (f : Nat) : VR ρ (.func (.func f) #[] #[]) (.func (.func f) #[] #[])
  | nilFunc : VR ρ .nilFunc .nilFunc
  | nilIface : VR ρ .nilIface .nilIface
  | iface (t : Nat) {v v' : Value} : VR ρ v v' → VR ρ (.iface t v) (.iface t v')
  | agg {c c' : List Value} : VRs ρ c c' → VR ρ (.agg ⟨c⟩) (.agg ⟨c'⟩)
  | tuple {c c' : List Value} : VRs ρ c c' → VR ρ (.tuple ⟨c⟩) (.tuple ⟨c'⟩)
inductive VRs (ρ : List Ent) : List Value → List Value → Prop
  | nil : VRs ρ [] []
  | cons {v v' : Value} {l l' : List Value} : VR ρ v v' → VRs ρ l l' → VRs ρ (v :: l) (v' :: l')
end

def Pre (ρ ρ' : List Ent) : Prop := ∃ t, ρ' = ρ ++ t

theorem Pre.refl (ρ : List Ent) : Pre ρ ρ := ⟨[], by simp⟩
theorem Pre.trans {a b c : List Ent} (h : Pre a b) (h' : Pre b c) : Pre a c := by
  obtain ⟨t, rfl⟩ := h; obtain ⟨u, rfl⟩ := h'; exact ⟨t ++ u, by simp⟩
theorem Pre.get {ρ ρ' : List Ent} (h : Pre ρ ρ') {k : Nat} {e : Ent} (hk : ρ[k]? = some e) : ρ'[k]? = some e := by
  obtain ⟨t, rfl⟩ := h
  have hlt : k < ρ.length := (List.getElem?_eq_some_iff.1 hk).1
  rw [List.getElem?_append_left hlt]; exact hk

mutual
theorem VR.mono {ρ ρ' : List Ent} (hp : Pre ρ ρ') : ∀ {v v' : Value}, VR ρ v v' → VR ρ' v v'
  | _, _, .bool b => .bool b
  | _, _, .int k n => .int k n
  | _, _, .string s => .string s
  | _, _, .pnil => .pnil
  | _, _, .ptr o h => .ptr o (hp.get h)
  | _, _, .snil l c => .snil l c
  | _, _, .slice o l c h => .slice o l c (hp.get h)
  | _, _, .func f => .func f
  | _, _, .nilFunc => .nilFunc
  | _, _, .nilIface => .nilIface
  | _, _, .iface t h => .iface t (VR.mono hp h)
  | _, _, .agg h => .agg (VRs.mono hp h)
  | _, _, .tuple h => .tuple (VRs.mono hp h)
theorem VRs.mono {ρ ρ' : List Ent} (hp : Pre ρ ρ') : ∀ {v v' : List Value}, VRs ρ v v' → VRs ρ' v v'
  | _, _, .nil => .nil
  | _, _, .cons h t => .cons (VR.mono hp h) (VRs.mono hp t)
end

mutual
theorem VR.func_eq {ρ : List Ent} : ∀ {v a b : Value}, VR ρ v a → VR ρ v b → a = b
  | _, _, _, .bool _, h => by cases h; rfl
  | _, _, _, .int _ _, h => by cases h; rfl
  | _, _, _, .string _, h => by cases h; rfl
  | _, _, _, .pnil, h => by cases h; rfl
  | _, _, _, .ptr o h1, h => by cases h with | ptr _ h2 => rw [h1] at h2; cases h2; rfl
  | _, _, _, .snil _ _, h => by cases h; rfl
  | _, _, _, .slice o l c h1, h => by cases h with | slice _ _ _ h2 => rw [h1] at h2; cases h2; rfl
  | _, _, _, .func _, h => by cases h; rfl
  | _, _, _, .nilFunc, h => by cases h; rfl
  | _, _, _, .nilIface, h => by cases h; rfl
  | _, _, _, .iface _ h1, h => by cases h with | iface _ h2 => rw [VR.func_eq h1 h2]
  | _, _, _, .agg h1, h => by cases h with | agg h2 => rw [VRs.func_eq h1 h2]
  | _, _, _, .tuple h1, h => by cases h with | tuple h2 => rw [VRs.func_eq h1 h2]
theorem VRs.func_eq {ρ : List Ent} : ∀ {v a b : List Value}, VRs ρ v a → VRs ρ v b → a = b
  | _, _, _, .nil, h => by cases h; rfl
  | _, _, _, .cons h1 t1, h => by cases h with | cons h2 t2 => rw [VR.func_eq h1 h2, VRs.func_eq t1 t2]
end

theorem VRs.length {ρ : List Ent} : ∀ {v v' : List Value}, VRs ρ v v' → v.length = v'.length
  | _, _, .nil => rfl
  | _, _, .cons _ t => by simp [t.length]

theorem VRs.get {ρ : List Ent} : ∀ {l l' : List Value} {i : Nat} {v : Value}, VRs ρ l l' → l[i]? = some v → ∃ v', l'[i]? = some v' ∧ VR ρ v v'
  | _, _, i, v, .nil, hi => by simp at hi
  | _, _, 0, v, .cons h t, hi => by simp at hi; subst hi; exact ⟨_, rfl, h⟩
  | _, _, i + 1, v, .cons h t, hi => by simp at hi; obtain ⟨v', h1, h2⟩ := VRs.get t hi; exact ⟨v', by simpa using h1, h2⟩

theorem VRs.set {ρ : List Ent} : ∀ {l l' : List Value} (i : Nat) {v v' : Value}, VRs ρ l l' → VR ρ v v' → VRs ρ (l.set i v) (l'.set i v')
  | _, _, _, _, _, .nil, _ => by simpa using VRs.nil
  | _, _, 0, _, _, .cons h t, hv => by simpa using VRs.cons hv t
  | _, _, i + 1, _, _, .cons h t, hv => by simpa using VRs.cons h (VRs.set i t hv)

theorem VRs.append {ρ : List Ent} : ∀ {l l' m m' : List Value}, VRs ρ l l' → VRs ρ m m' → VRs ρ (l ++ m) (l' ++ m')
  | _, _, _, _, .nil, h => by simpa using h
  | _, _, _, _, .cons h t, hm => by simpa using VRs.cons h (VRs.append t hm)

theorem VRs.drop {ρ : List Ent} : ∀ {l l' : List Value} (n : Nat), VRs ρ l l' → VRs ρ (l.drop n) (l'.drop n)
  | _, _, 0, h => by simpa using h
  | _, _, n + 1, .nil => by simpa using VRs.nil
  | _, _, n + 1, .cons h t => by simpa using VRs.drop n t

theorem VRs.take {ρ : List Ent} : ∀ {l l' : List Value} (n : Nat), VRs ρ l l' → VRs ρ (l.take n) (l'.take n)
  | _, _, 0, h => by simpa using VRs.nil
  | _, _, n + 1, .nil => by simpa using VRs.nil
  | _, _, n + 1, .cons h t => by simpa using VRs.cons h (VRs.take n t)

/-- All pointers lie below n. -/
def Addr.bd (n : Nat) : Option Addr → Bool
  | none => true
  | some a => decide (a.block < n)
mutual
def bd (n : Nat) : Value → Bool
  | .pointer a => Addr.bd n a
  | .slice a _ _ => Addr.bd n a
  | .iface _ v => bd n v
  | .agg ⟨c⟩ => bds n c
  | .tuple ⟨c⟩ => bds n c
  | _ => true
def bds (n : Nat) : List Value → Bool
  | [] => true
  | v :: l => bd n v && bds n l
end

theorem take_get {ρ : List Ent} {n k : Nat} {e : Ent} (h : ρ[k]? = some e) (hk : k < n) : (ρ.take n)[k]? = some e := by
  rw [List.getElem?_take_of_lt hk]; exact h

mutual
theorem VR.take {ρ : List Ent} {n : Nat} : ∀ {v v' : Value}, VR ρ v v' → bd n v = true → VR (ρ.take n) v v'
  | _, _, .bool b, _ => .bool b
  | _, _, .int k m, _ => .int k m
  | _, _, .string s, _ => .string s
  | _, _, .pnil, _ => .pnil
  | _, _, .ptr o h, hb => .ptr o (take_get h (by simpa [bd, Addr.bd] using hb))
  | _, _, .snil l c, _ => .snil l c
  | _, _, .slice o l c h, hb => .slice o l c (take_get h (by simpa [bd, Addr.bd] using hb))
  | _, _, .func f, _ => .func f
  | _, _, .nilFunc, _ => .nilFunc
  | _, _, .nilIface, _ => .nilIface
  | _, _, .iface t h, hb => .iface t (VR.take h (by simpa [bd] using hb))
  | _, _, .agg h, hb => .agg (VRs.take' h (by simpa [bd] using hb))
  | _, _, .tuple h, hb => .tuple (VRs.take' h (by simpa [bd] using hb))
theorem VRs.take' {ρ : List Ent} {n : Nat} : ∀ {v v' : List Value}, VRs ρ v v' → bds n v = true → VRs (ρ.take n) v v'
  | _, _, .nil, _ => .nil
  | _, _, .cons h t, hb => by
    simp only [bds, Bool.and_eq_true] at hb
    exact .cons (VR.take h hb.1) (VRs.take' t hb.2)
end

mutual
def fl : Value → Bool
  | .bool _ | .int _ _ | .string _ | .pointer none | .slice none _ _ | .nilFunc | .nilIface => true
  | .func (.func _) ⟨[]⟩ ⟨[]⟩ => true
  | .iface _ v => fl v
  | .agg ⟨c⟩ => fls c
  | .tuple ⟨c⟩ => fls c
  | _ => false
def fls : List Value → Bool
  | [] => true
  | v :: l => fl v && fls l
end

mutual
theorem VR.of_fl {ρ : List Ent} : ∀ (v : Value), fl v = true → VR ρ v v
  | .bool b, _ => .bool b
  | .int k n, _ => .int k n
  | .string s, _ => .string s
  | .pointer none, _ => .pnil
  | .slice none l c, _ => .snil l c
  | .nilFunc, _ => .nilFunc
  | .nilIface, _ => .nilIface
  | .func (.func f) ⟨[]⟩ ⟨[]⟩, _ => .func f
  | .iface t v, h => .iface t (VR.of_fl v (by simpa [fl] using h))
  | .agg ⟨c⟩, h => .agg (VRs.of_fl c (by simpa [fl] using h))
  | .tuple ⟨c⟩, h => .tuple (VRs.of_fl c (by simpa [fl] using h))
  | .pointer (some a), h => by simp [fl] at h
  | .slice (some a) _ _, h => by simp [fl] at h
  | .float _ _, h => by simp [fl] at h
  | .complex _ _ _, h => by simp [fl] at h
  | .map _, h => by simp [fl] at h
  | .chan _, h => by simp [fl] at h
  | .func (.func f) ⟨_ :: _⟩ _, h => by simp [fl] at h
  | .func (.func f) ⟨[]⟩ ⟨_ :: _⟩, h => by simp [fl] at h
  | .func (.method _) _ _, h => by simp [fl] at h
  | .func (.methodOf _ _) _ _, h => by simp [fl] at h
  | .func (.via _ _ _ _) _ _, h => by simp [fl] at h
  | .func (.yield _) _ _, h => by simp [fl] at h
theorem VRs.of_fl {ρ : List Ent} : ∀ (v : List Value), fls v = true → VRs ρ v v
  | [], _ => .nil
  | v :: l, h => by
    simp only [fls, Bool.and_eq_true] at h
    exact .cons (VR.of_fl v h.1) (VRs.of_fl l h.2)
end

theorem VR.flat {ρ : List Ent} {v v' : Value} (h : VR ρ v v') (hf : fl v = true) : v' = v := VR.func_eq h (VR.of_fl v hf)
theorem VRs.flat {ρ : List Ent} {v v' : List Value} (h : VRs ρ v v') (hf : fls v = true) : v' = v := VRs.func_eq h (VRs.of_fl v hf)

/-! The heap -/
def BR (ρ : List Ent) (e : Ent) (b : Blk) (w : World) : Prop :=
  (b.own = true ∧ e.own = true ∧ e.base = 0 ∧ ∃ c', w.heap[e.r]? = some (.cells ⟨c'⟩ b.T (0, 0)) ∧ VRs ρ b.c c') ∨
  (b.own = false ∧ ∀ o v, b.c[o]? = some v → ∃ v', w.cell? ⟨e.r, e.base + o, none⟩ = some v' ∧ VR ρ v v')

structure Glob where
  n : Nat
  g : Nat → Option Obj

structure HR (G : Glob) (ρ : List Ent) (h : List Blk) (w : World) : Prop where
  len : ρ.length = h.length
  blk : ∀ (k : Nat) (e : Ent) (b : Blk), ρ[k]? = some e → h[k]? = some b → BR ρ e b w
  sep : ∀ (i j : Nat) (ei ej : Ent) (bi bj : Blk), i ≠ j → ρ[i]? = some ei → ρ[j]? = some ej → h[i]? = some bi → h[j]? = some bj → bi.own = true → (bj.own = true ∨ bj.c ≠ []) → ei.r ≠ ej.r
  old : ∀ (k : Nat) (e : Ent), ρ[k]? = some e → e.r < w.heap.size
  ng : ∀ (k : Nat) (e : Ent), ρ[k]? = some e → e.own = true → G.n ≤ e.r
  nw : G.n ≤ w.heap.size
  glob : ∀ b, b < G.n → w.heap[b]? = G.g b

structure Ext (ρ ρ' : List Ent) (w w' : World) : Prop where
  pre : ∃ t, ρ' = ρ ++ t ∧ ∀ e ∈ t, w.heap.size ≤ e.r ∨ ∃ e0 ∈ ρ, e0.own = true ∧ e0.r = e.r
  size : w.heap.size ≤ w'.heap.size
  os : w'.os = w.os
  tape : w'.tape = w.tape
  output : w'.output = w.output
  frame : ∀ b, b < w.heap.size → (∀ e ∈ ρ, e.own = true → e.r ≠ b) → w'.heap[b]? = w.heap[b]?

theorem Ext.refl (ρ : List Ent) (w : World) : Ext ρ ρ w w := ⟨⟨[], by simp⟩, Nat.le_refl _, rfl, rfl, rfl, fun _ _ _ => rfl⟩
theorem Ext.toPre {ρ ρ' : List Ent} {w w' : World} (h : Ext ρ ρ' w w') : Pre ρ ρ' := let ⟨t, ht, _⟩ := h.pre; ⟨t, ht⟩
theorem Ext.trans {a b c : List Ent} {u v w : World} (h : Ext a b u v) (k : Ext b c v w) : Ext a c u w := by
  obtain ⟨t, rfl, ht⟩ := h.pre
  obtain ⟨s, rfl, hs⟩ := k.pre
  refine ⟨⟨t ++ s, by simp, fun e he => ?_⟩, Nat.le_trans h.size k.size, k.os.trans h.os, k.tape.trans h.tape, k.output.trans h.output, fun x hx hn => ?_⟩
  · rcases List.mem_append.1 he with he | he
    · exact ht e he
    · rcases hs e he with h1 | ⟨e0, h0, ho, hr⟩
      · exact .inl (Nat.le_trans h.size h1)
      · rcases List.mem_append.1 h0 with h0 | h0
        · exact .inr ⟨e0, h0, ho, hr⟩
        · rcases ht e0 h0 with h2 | ⟨e1, h1, ho1, hr1⟩
          · exact .inl (hr ▸ h2)
          · exact .inr ⟨e1, h1, ho1, hr1.trans hr⟩
  · rw [k.frame x (Nat.lt_of_lt_of_le hx h.size) (fun e he ho heq => ?_), h.frame x hx hn]
    rcases List.mem_append.1 he with he | he
    · exact hn e he ho heq
    · rcases ht e he with h1 | ⟨e0, h0, ho0, hr0⟩
      · omega
      · exact hn e0 h0 ho0 (hr0.trans heq)

/-- A draw changes nothing. -/
def World.same (w w' : World) : Prop := w'.heap = w.heap ∧ w'.os = w.os ∧ w'.tape = w.tape ∧ w'.output = w.output

theorem cell_congr {w w' : World} (h : w'.heap = w.heap) (a : Addr) : w'.cell? a = w.cell? a := by simp [World.cell?, h]

theorem BR.congr {ρ : List Ent} {e : Ent} {b : Blk} {w w' : World} (hw : w'.heap[e.r]? = w.heap[e.r]?) (h : BR ρ e b w) : BR ρ e b w' := by
  rcases h with ⟨h0, h1, h2, c', h3, h4⟩ | ⟨h1, h2⟩
  · exact .inl ⟨h0, h1, h2, c', by rw [hw]; exact h3, h4⟩
  · refine .inr ⟨h1, fun o v ho => ?_⟩
    obtain ⟨v', hv, hr⟩ := h2 o v ho
    exact ⟨v', by simp only [World.cell?] at hv ⊢; rw [hw]; exact hv, hr⟩

theorem HR.same {G : Glob} {ρ : List Ent} {h : List Blk} {w w' : World} (hw : w'.heap = w.heap) (H : HR G ρ h w) : HR G ρ h w' :=
  ⟨H.len, fun k e b he hb => (H.blk k e b he hb).congr (by rw [hw]), H.sep, fun k e he => by rw [hw]; exact H.old k e he, H.ng, by rw [hw]; exact H.nw, fun b hb => by rw [hw]; exact H.glob b hb⟩

theorem BR.mono {ρ ρ' : List Ent} (hp : Pre ρ ρ') {e : Ent} {b : Blk} {w : World} (h : BR ρ e b w) : BR ρ' e b w := by
  rcases h with ⟨h0, h1, h2, c', h3, h4⟩ | ⟨h1, h2⟩
  · exact .inl ⟨h0, h1, h2, c', h3, h4.mono hp⟩
  · exact .inr ⟨h1, fun o v ho => let ⟨v', hv, hr⟩ := h2 o v ho; ⟨v', hv, hr.mono hp⟩⟩

/-- A new block. -/
theorem HR.alloc {G : Glob} {ρ : List Ent} {h : List Blk} {w : World} (H : HR G ρ h w) {T : Nat} {c c' : List Value} (hc : VRs ρ c c') :
    HR G (ρ ++ [⟨w.heap.size, 0, true⟩]) (h ++ [⟨true, T, c⟩]) { w with heap := w.heap.push (.cells ⟨c'⟩ T) } ∧
    Ext ρ (ρ ++ [⟨w.heap.size, 0, true⟩]) w { w with heap := w.heap.push (.cells ⟨c'⟩ T) } := by
  have hp : Pre ρ (ρ ++ [⟨w.heap.size, 0, true⟩]) := ⟨_, rfl⟩
  have hl := H.len
  refine ⟨⟨by simp [hl], ?_, ?_, ?_, ?_, by simp; have := H.nw; omega, ?_⟩, ⟨⟨_, rfl, by simp⟩, by simp, rfl, rfl, rfl, ?_⟩⟩
  · intro k e b he hb
    by_cases hk : k < ρ.length
    · rw [List.getElem?_append_left hk] at he
      rw [List.getElem?_append_left (hl ▸ hk)] at hb
      have := H.blk k e b he hb
      refine (this.congr (w' := { w with heap := w.heap.push (.cells ⟨c'⟩ T) }) ?_).mono hp
      have := H.old k e he
      simp [Array.getElem?_push]; omega
    · have hk' : k = ρ.length := by
        have := (List.getElem?_eq_some_iff.1 he).1; simp at this; omega
      subst hk'
      simp at he
      rw [hl] at hb; simp at hb
      subst he; subst hb
      exact .inl ⟨rfl, rfl, rfl, c', by simp, hc.mono hp⟩
  · intro i j ei ej bi bj hij hi hj hbi hbj ho hne
    have hi' := (List.getElem?_eq_some_iff.1 hi).1
    have hj' := (List.getElem?_eq_some_iff.1 hj).1
    simp at hi' hj'
    by_cases h1 : i < ρ.length <;> by_cases h2 : j < ρ.length
    · rw [List.getElem?_append_left h1] at hi; rw [List.getElem?_append_left h2] at hj
      rw [List.getElem?_append_left (hl ▸ h1)] at hbi; rw [List.getElem?_append_left (hl ▸ h2)] at hbj
      exact H.sep i j ei ej bi bj hij hi hj hbi hbj ho hne
    · rw [List.getElem?_append_left h1] at hi
      have : j = ρ.length := by omega
      subst this; simp at hj; subst hj
      have := H.old i ei hi; simp; omega
    · rw [List.getElem?_append_left h2] at hj
      have : i = ρ.length := by omega
      subst this; simp at hi; subst hi
      have := H.old j ej hj; simp; omega
    · omega
  · intro k e he
    by_cases hk : k < ρ.length
    · rw [List.getElem?_append_left hk] at he; have := H.old k e he; simp; omega
    · have : k = ρ.length := by have := (List.getElem?_eq_some_iff.1 he).1; simp at this; omega
      subst this; simp at he; subst he; simp
  · intro k e he ho
    by_cases hk : k < ρ.length
    · rw [List.getElem?_append_left hk] at he; exact H.ng k e he ho
    · have : k = ρ.length := by have := (List.getElem?_eq_some_iff.1 he).1; simp at this; omega
      subst this; simp at he; subst he; exact H.nw
  · intro b hb
    rw [← H.glob b hb]; have := H.nw
    simp [Array.getElem?_push]; omega
  · intro b hb _
    simp [Array.getElem?_push]; omega

/-- Forgetting blocks behind the n-th. -/
theorem HR.take {G : Glob} {ρ : List Ent} {h g : List Blk} {w : World} (H : HR G ρ (h ++ g) w) (hb : ∀ b ∈ h, bds h.length b.c = true) : HR G (ρ.take h.length) h w := by
  have hl := H.len
  simp at hl
  have get : ∀ {k : Nat} {e : Ent}, (ρ.take h.length)[k]? = some e → k < h.length ∧ ρ[k]? = some e := by
    intro k e hk
    have h1 := (List.getElem?_eq_some_iff.1 hk).1
    rw [List.length_take] at h1
    rw [List.getElem?_take_of_lt (by omega)] at hk
    exact ⟨by omega, hk⟩
  refine ⟨by simp; omega, ?_, ?_, fun k e he => H.old k e (get he).2, fun k e he => H.ng k e (get he).2, H.nw, H.glob⟩
  · intro k e b he hk
    obtain ⟨h1, h2⟩ := get he
    have hB := H.blk k e b h2 (by rw [List.getElem?_append_left h1]; exact hk)
    have hbb := hb b (List.mem_of_getElem? hk)
    rcases hB with ⟨a0, a1, a2, c', a3, a4⟩ | ⟨a1, a2⟩
    · exact .inl ⟨a0, a1, a2, c', a3, a4.take' hbb⟩
    · refine .inr ⟨a1, fun o v hv => ?_⟩
      obtain ⟨v', hv', hr⟩ := a2 o v hv
      refine ⟨v', hv', hr.take ?_⟩
      have : ∀ (l : List Value) (o : Nat) (v : Value), bds h.length l = true → l[o]? = some v → bd h.length v = true := by
        intro l
        induction l with
        | nil => intro o v _ ho; simp at ho
        | cons x l ih =>
          intro o v hl ho
          simp only [bds, Bool.and_eq_true] at hl
          cases o with
          | zero => simp at ho; subst ho; exact hl.1
          | succ o => simp at ho; exact ih o v hl.2 ho
      exact this _ _ _ hbb hv
  · intro i j ei ej bi bj hij hi hj hbi hbj ho hne
    exact H.sep i j ei ej bi bj hij (get hi).2 (get hj).2 (by rw [List.getElem?_append_left (get hi).1]; exact hbi) (by rw [List.getElem?_append_left (get hj).1]; exact hbj) ho hne

theorem Ext.take {ρ ρ' : List Ent} {w w' : World} (h : Ext ρ ρ' w w') {n : Nat} (hn : ρ.length ≤ n) : Ext ρ (ρ'.take n) w w' := by
  obtain ⟨t, rfl, ht⟩ := h.pre
  refine ⟨⟨t.take (n - ρ.length), by rw [List.take_append, List.take_of_length_le hn], fun e he => ht e (List.mem_of_mem_take he)⟩, h.size, h.os, h.tape, h.output, h.frame⟩

theorem HR.own {G : Glob} {ρ : List Ent} {h : List Blk} {w : World} (H : HR G ρ h w) {k : Nat} {b : Blk} (hk : h[k]? = some b) (ho : b.own = true) :
    ∃ e c', ρ[k]? = some e ∧ e.own = true ∧ e.base = 0 ∧ w.heap[e.r]? = some (.cells ⟨c'⟩ b.T (0, 0)) ∧ VRs ρ b.c c' := by
  have hlt : k < ρ.length := by rw [H.len]; exact (List.getElem?_eq_some_iff.1 hk).1
  obtain ⟨e, he⟩ : ∃ e, ρ[k]? = some e := ⟨_, List.getElem?_eq_getElem hlt⟩
  have hB := H.blk k e b he hk
  rcases hB with ⟨a0, a1, a2, c', a3, a4⟩ | ⟨a1, _⟩
  · exact ⟨e, c', he, a1, a2, a3, a4⟩
  · rw [ho] at a1; cases a1

/-- What a canonical cell holds, the world's cell holds. -/
theorem HR.cell {G : Glob} {ρ : List Ent} {h : List Blk} {w : World} (H : HR G ρ h w) {k o : Nat} {b : Blk} {v : Value} (hk : h[k]? = some b) (hv : b.c[o]? = some v) :
    ∃ e v', ρ[k]? = some e ∧ w.cell? ⟨e.r, e.base + o, none⟩ = some v' ∧ VR ρ v v' := by
  have hlt : k < ρ.length := by rw [H.len]; exact (List.getElem?_eq_some_iff.1 hk).1
  obtain ⟨e, he⟩ : ∃ e, ρ[k]? = some e := ⟨_, List.getElem?_eq_getElem hlt⟩
  have hB := H.blk k e b he hk
  rcases hB with ⟨a0, a1, a2, c', a3, a4⟩ | ⟨a1, a2⟩
  · obtain ⟨v', hv', hr⟩ := a4.get hv
    exact ⟨e, v', he, by simp [World.cell?, a3, a2, hv'], hr⟩
  · obtain ⟨v', hv', hr⟩ := a2 o v hv
    exact ⟨e, v', he, hv', hr⟩

theorem heap_setCell_other (w : World) (a : Addr) (v : Value) {b : Nat} (h : b ≠ a.block) : (w.setCell a v).heap[b]? = w.heap[b]? := by
  simp only [World.setCell, Array.getElem?_modify]
  rw [if_neg (fun e => h e.symm)]

/-! ### Part 2 -/
structure St where
  t : List (Option Value)
  h : List Blk

def St.ev (s : St) : Operand → Option Value
  | .tmp i => match s.t[i]? with | some (some v) => some v | _ => none
  | .const v => if fl v then some v else none
  | .func f => some (.func (.func f) #[] #[])
  | .global _ => none

def St.put (s : St) (d : Option Nat) (v : Value) : St :=
  match d with
  | some d => { s with t := s.t.set d (some v) }
  | none => s

def TR (ρ : List Ent) (t : List (Option Value)) (t' : Array Value) : Prop :=
  t.length = t'.size ∧ ∀ (i : Nat) (v : Value), t[i]? = some (some v) → ∃ v', t'[i]? = some v' ∧ VR ρ v v'

structure SR (G : Glob) (ρ : List Ent) (s : St) (a : Act) (w : World) : Prop where
  d : a.defers = []
  t : TR ρ s.t a.tmps
  h : HR G ρ s.h w

theorem TR.mono {ρ ρ' : List Ent} (hp : Pre ρ ρ') {t : List (Option Value)} {t' : Array Value} (h : TR ρ t t') : TR ρ' t t' :=
  ⟨h.1, fun i v hi => let ⟨v', h1, h2⟩ := h.2 i v hi; ⟨v', h1, h2.mono hp⟩⟩

theorem TR.put {ρ : List Ent} {t : List (Option Value)} {t' : Array Value} (h : TR ρ t t') (d : Nat) {v v' : Value} (hv : VR ρ v v') : TR ρ (t.set d (some v)) (t'.setIfInBounds d v') := by
  refine ⟨by simp [h.1], fun i u hi => ?_⟩
  by_cases hd : d = i
  · subst hd
    have hlt : d < t.length := by
      have := (List.getElem?_eq_some_iff.1 hi).1; simpa using this
    rw [List.getElem?_set_self hlt] at hi
    simp at hi; subst hi
    exact ⟨v', by rw [Array.getElem?_setIfInBounds_self_of_lt (by rw [← h.1]; exact hlt)], hv⟩
  · rw [List.getElem?_set_ne hd] at hi
    obtain ⟨u', h1, h2⟩ := h.2 i u hi
    exact ⟨u', by rw [Array.getElem?_setIfInBounds_ne hd]; exact h1, h2⟩

theorem SR.put {G : Glob} {ρ ρ' : List Ent} {s : St} {a : Act} {w w' : World} (hs : SR G ρ s a w) (hp : Pre ρ ρ') (d : Option Nat) {v v' : Value} {h' : List Blk} (hv : VR ρ' v v') (hh : HR G ρ' h' w') :
    SR G ρ' (St.put ⟨s.t, h'⟩ d v) (a.put d v') w' := by
  cases d with
  | none => exact ⟨hs.d, hs.t.mono hp, hh⟩
  | some d => exact ⟨hs.d, (hs.t.mono hp).put d hv, hh⟩

theorem SR.ev {G : Glob} {ρ : List Ent} {s : St} {a : Act} {w : World} (hs : SR G ρ s a w) {x : Operand} {v : Value} (h : s.ev x = some v) : VR ρ v (a.eval x) := by
  cases x with
  | tmp i =>
    simp only [St.ev] at h
    split at h
    · rename_i u hu
      cases h
      obtain ⟨v', h1, h2⟩ := hs.t.2 i v hu
      simp only [Act.eval, Array.getD_eq_getD_getElem?, h1, Option.getD_some]
      exact h2
    · cases h
  | const u =>
    simp only [St.ev] at h
    split at h
    · rename_i hf; cases h; exact VR.of_fl _ hf
    · cases h
  | global g => simp [St.ev] at h
  | func f => simp only [St.ev] at h; cases h; exact .func f

/-! Types -/
def tyK (P : Program) (t : Nat) : Option (Option Nat) :=
  match P.underlying t, P.info? t with
  | some (.struct _), some i => some (some i.size)
  | some (.array _ _), some i => some (some i.size)
  | some _, some i => if i.size = 1 then some none else none
  | _, _ => none

def zeroT (P : Program) (t : Nat) : Option Value :=
  match P.info? t with
  | some i => i.zero
  | none => none

def vcells : Value → List Value
  | .agg ⟨c⟩ => c
  | v => [v]

theorem vcells_eq (v : Value) : v.cells.toList = vcells v := by
  cases v <;> rfl

def addO (a : Addr) (n : Nat) : Addr := ⟨a.block, a.off + n, none⟩

theorem add_eq (b o n : Nat) : (⟨b, o, none⟩ : Addr).add n = ⟨b, o + n, none⟩ := by
  unfold Addr.add; split <;> simp_all

def fldO (P : Program) (s i : Nat) : Option (Nat × Nat) :=
  match P.underlying s with
  | some (.struct fs) => match fs[i]? with
    | some f => match P.info? f.type with
      | some n => if n.size = 0 then none else some (f.offset, f.type)
      | none => none
    | none => none
  | _ => none

/-- Of an array's type its length, of a slice's none; the element's type; its cells. -/
def elO (P : Program) (t : Nat) : Option (Option Nat × Nat × Nat) :=
  match P.underlying t with
  | some (.array n e) => match P.info? e with | some i => some (some n, e, i.size) | none => none
  | some (.slice e) => match P.info? e with | some i => some (none, e, i.size) | none => none
  | _ => none

def partC (P : Program) (t : Nat) (cs : List Value) (off : Nat) : Option Value :=
  match tyK P t with
  | some none => cs[off]?
  | some (some n) => if off + n ≤ cs.length then some (.agg ⟨(cs.drop off).take n⟩) else none
  | none => none

def loadV (P : Program) (h : List Blk) (t k o : Nat) : Option Value :=
  match h[k]? with
  | some b => partC P t b.c o
  | none => none

def storeV (P : Program) (h : List Blk) (t k o : Nat) (v : Value) : Option (List Blk) :=
  match h[k]?, tyK P t with
  | some b, some none => if b.own = true ∧ o < b.c.length ∧ v.oneCell' = true then some (h.set k { b with c := b.c.set o v }) else none
  | some b, some (some n) => match v with
    | .agg ⟨vs⟩ => if b.own = true ∧ o + n ≤ b.c.length ∧ vs.length = n ∧ vs.all Value.oneCell' = true then some (h.set k { b with c := b.c.take o ++ vs ++ b.c.drop (o + n) }) else none
    | _ => none
  | _, _ => none

section runs
variable {P : Program} {w : World}

theorem tyK_scal {t : Nat} (h : tyK P t = some none) : (isAgg t).run P w = .ok false w ∧ (sizeOf t).run P w = .ok 1 w := by
  unfold tyK at h
  unfold isAgg sizeOf Go.underlying typeInfo
  split at h
  · cases h
  · cases h
  · rename_i d i hd hi h1 h2
    split at h
    · rename_i hs
      simp only [Sem.run_bind, run_program, Result.andThen_ok, hd, hi]
      cases d <;> simp_all
    · cases h
  · cases h

theorem tyK_agg {t n : Nat} (h : tyK P t = some (some n)) : (isAgg t).run P w = .ok true w ∧ (sizeOf t).run P w = .ok n w := by
  unfold tyK at h
  unfold isAgg sizeOf Go.underlying typeInfo
  split at h
  · rename_i hd hi; cases h
    simp [Sem.run_bind, run_program, Result.andThen_ok, hd, hi]
  · rename_i hd hi; cases h
    simp [Sem.run_bind, run_program, Result.andThen_ok, hd, hi]
  · split at h <;> cases h
  · cases h

theorem run_loadAt_scal {t b o : Nat} {v : Value} (h : tyK P t = some none) (hc : w.cell? ⟨b, o, none⟩ = some v) :
    (Instr.loadAt t (.pointer (some ⟨b, o, none⟩))).run P w = .ok v w := by
  simp [Instr.loadAt, Instr.sureAddr, loadVar, tyK_scal h, hc]

theorem run_loadAt_agg {t b o n : Nat} {vs : List Value} (h : tyK P t = some (some n)) (hn : vs.length = n) (hc : ∀ j v, vs[j]? = some v → w.cell? ⟨b, o + j, none⟩ = some v) :
    (Instr.loadAt t (.pointer (some ⟨b, o, none⟩))).run P w = .ok (.agg vs.toArray) w := by
  have := run_loadCells_list (P := P) w ⟨b, o, none⟩ vs (fun j v hj => by rw [add_eq]; exact hc j v hj)
  rw [hn] at this
  simp [Instr.loadAt, Instr.sureAddr, loadVar, tyK_agg h, this]

end runs

theorem partC_sound {G : Glob} {P : Program} {ρ : List Ent} {h : List Blk} {w : World} (H : HR G ρ h w) {t k o : Nat} {v : Value} {e : Ent} (he : ρ[k]? = some e) (hv : loadV P h t k o = some v) :
    ∃ v', (Instr.loadAt t (.pointer (some ⟨e.r, e.base + o, none⟩))).run P w = .ok v' w ∧ VR ρ v v' := by
  unfold loadV at hv
  split at hv
  · rename_i b hb
    unfold partC at hv
    split at hv
    · rename_i ht
      obtain ⟨e', v', he', hc, hr⟩ := H.cell hb hv
      rw [he] at he'; cases he'
      exact ⟨v', run_loadAt_scal ht hc, hr⟩
    · rename_i n ht
      split at hv
      · rename_i hle
        cases hv
        have key : ∀ (m : Nat), m ≤ n → ∃ vs', vs'.length = m ∧ VRs ρ ((b.c.drop o).take m) vs' ∧ ∀ j v, vs'[j]? = some v → w.cell? ⟨e.r, e.base + o + j, none⟩ = some v := by
          intro m
          induction m with
          | zero => intro _; exact ⟨[], rfl, by simpa using VRs.nil, by simp⟩
          | succ m ih =>
            intro hm
            obtain ⟨vs', h1, h2, h3⟩ := ih (by omega)
            have hlt : o + m < b.c.length := by omega
            obtain ⟨e', v', he', hc, hr⟩ := H.cell hb (List.getElem?_eq_getElem hlt)
            rw [he] at he'; cases he'
            refine ⟨vs' ++ [v'], by simp [h1], ?_, ?_⟩
            · rw [List.take_succ_eq_append_getElem (by simp; omega)]
              refine h2.append (.cons ?_ .nil)
              simpa using hr
            · intro j v hj
              by_cases hjm : j < vs'.length
              · rw [List.getElem?_append_left hjm] at hj; exact h3 j v hj
              · have hj' := (List.getElem?_eq_some_iff.1 hj).1
                simp at hj'
                have : j = vs'.length := by omega
                subst this
                simp at hj; subst hj
                rw [h1, Nat.add_assoc]; exact hc
        obtain ⟨vs', h1, h2, h3⟩ := key n (Nat.le_refl _)
        exact ⟨_, run_loadAt_agg ht h1 h3, .agg h2⟩
      · cases hv
    · cases hv
  · cases hv

/-- An own block's cells are all replaced. -/
theorem HR.row {G : Glob} {ρ : List Ent} {h : List Blk} {w : World} (H : HR G ρ h w) {k : Nat} {b : Blk} {e : Ent} {c c' : List Value} (he : ρ[k]? = some e)
    (hk : h[k]? = some b) (ho : b.own = true) (hc2 : VRs ρ c c') :
    HR G ρ (h.set k { b with c := c }) (w.setRow e.r c'.toArray) ∧ Ext ρ ρ w (w.setRow e.r c'.toArray) := by
  obtain ⟨e', c0, he', hown, hbase, hheap, hc⟩ := H.own hk ho
  rw [he] at he'; cases he'
  have hsame : (w.setRow e.r c'.toArray).heap[e.r]? = some (.cells ⟨c'⟩ b.T (0, 0)) := setRow_heap w e.r _ _ _ _ hheap
  have hsz : (w.setRow e.r c'.toArray).heap.size = w.heap.size := by simp
  have hklt := (List.getElem?_eq_some_iff.1 hk).1
  refine ⟨⟨by simp [H.len], ?_, ?_, fun k e he => by rw [hsz]; exact H.old k e he, H.ng, by rw [hsz]; exact H.nw, fun x hx => ?_⟩,
    ⟨⟨[], by simp⟩, by rw [hsz]; exact Nat.le_refl _, rfl, rfl, rfl, fun x hx hn => setRow_other _ _ _ _ (fun heq => hn e (List.mem_of_getElem? he) hown heq.symm)⟩⟩
  · intro k2 e2 b2 he2 hb2
    by_cases hkk : k2 = k
    · subst hkk
      rw [he] at he2; cases he2
      rw [List.getElem?_set_self hklt] at hb2; cases hb2
      exact .inl ⟨ho, hown, hbase, c', hsame, hc2⟩
    · rw [List.getElem?_set_ne (fun h => hkk h.symm)] at hb2
      by_cases hd : b2.own = true ∨ b2.c ≠ []
      · refine (H.blk k2 e2 b2 he2 hb2).congr (setRow_other _ _ _ _ ?_)
        exact fun heq => H.sep k k2 e e2 b b2 (fun h => hkk h.symm) he he2 hk hb2 ho hd heq.symm
      · have h1 : b2.own = false := by cases hh : b2.own <;> simp_all
        have h2 : b2.c = [] := Classical.byContradiction fun hx => hd (.inr hx)
        exact .inr ⟨h1, by simp [h2]⟩
  · intro i j ei ej bi bj hij hi hj hbi hbj hoi hne
    have fix : ∀ {q : Nat} {bq : Blk}, (h.set k { b with c := c })[q]? = some bq → ∃ bq', h[q]? = some bq' ∧ bq'.own = bq.own ∧ (q ≠ k → bq' = bq) ∧ (q = k → bq' = b) := by
      intro q bq hq
      by_cases hqk : q = k
      · subst hqk
        rw [List.getElem?_set_self hklt] at hq; cases hq
        exact ⟨b, hk, rfl, fun h => absurd rfl h, fun _ => rfl⟩
      · rw [List.getElem?_set_ne (fun h => hqk h.symm)] at hq
        exact ⟨bq, hq, rfl, fun _ => rfl, fun h => absurd h hqk⟩
    obtain ⟨bi', h1, h2, h3, h4⟩ := fix hbi
    obtain ⟨bj', g1, g2, g3, g4⟩ := fix hbj
    refine H.sep i j ei ej bi' bj' hij hi hj h1 g1 (h2.trans hoi) ?_
    by_cases hjk : j = k
    · rw [g4 hjk]; exact .inl ho
    · rw [g3 hjk]; exact hne
  · rw [← H.glob x hx]
    exact setRow_other _ _ _ _ (fun heq => by have := H.ng k e he hown; omega)

theorem VRs.all1 {ρ : List Ent} : ∀ {l l' : List Value}, VRs ρ l l' → l.all Value.oneCell' = true → l'.all Value.oneCell' = true
  | _, _, .nil, _ => rfl
  | _, _, .cons h t, hl => by
    simp only [List.all_cons, Bool.and_eq_true] at hl ⊢
    refine ⟨?_, VRs.all1 t hl.2⟩
    cases h <;> first | rfl | (simp [Value.oneCell'] at hl)

theorem list_set_splice {α : Type} (l : List α) (o : Nat) (v : α) (h : o < l.length) : l.take o ++ [v] ++ l.drop (o + 1) = l.set o v := by
  rw [List.set_eq_take_append_cons_drop, if_pos h]; simp

/-- The simp of a store of cells into an own block. -/
theorem run_storeCells_own {G : Glob} {P : Program} {ρ : List Ent} {h : List Blk} {w : World} (H : HR G ρ h w) {k o : Nat} {b : Blk} {e : Ent} {vs vs' : List Value} (he : ρ[k]? = some e)
    (hk : h[k]? = some b) (ho : b.own = true) (hle : o + vs.length ≤ b.c.length) (hv : VRs ρ vs vs') (h1 : vs.all Value.oneCell' = true) :
    ∃ w', (storeCells ⟨e.r, e.base + o, none⟩ vs' 0).run P w = .ok () w' ∧
    HR G ρ (h.set k { b with c := b.c.take o ++ vs ++ b.c.drop (o + vs.length) }) w' ∧ Ext ρ ρ w w' := by
  obtain ⟨e', c0, he', hown, hbase, hheap, hc⟩ := H.own hk ho
  rw [he] at he'; cases he'
  have hl := hc.length
  have hlv := hv.length
  have hrun := run_storeCells_at P e.r (e.base + o) b.T vs' 0 ⟨c0⟩ w hheap (by simp; omega) (fun v hm => List.all_eq_true.1 (hv.all1 h1) v hm)
  obtain ⟨a1, a2⟩ := H.row he hk ho (c := b.c.take o ++ vs ++ b.c.drop (o + vs.length)) (c' := c0.take o ++ vs' ++ c0.drop (o + vs'.length))
    (((hc.take o).append hv).append (by rw [hlv]; exact hc.drop _))
  refine ⟨_, hrun, ?_, ?_⟩
  · rw [hbase]; simpa using a1
  · rw [hbase]; simpa using a2

theorem store_sound {G : Glob} {P : Program} {ρ : List Ent} {h h' : List Blk} {w : World} (H : HR G ρ h w) {t k o : Nat} {v v' : Value} {e : Ent} (he : ρ[k]? = some e)
    (hv : VR ρ v v') (hs : storeV P h t k o v = some h') :
    ∃ w', (Instr.storeAt t (.pointer (some ⟨e.r, e.base + o, none⟩)) v').run P w = .ok () w' ∧ HR G ρ h' w' ∧ Ext ρ ρ w w' := by
  unfold storeV at hs
  split at hs
  · rename_i b hb ht
    split at hs
    · rename_i hc
      cases hs
      obtain ⟨w', h1, h2, h3⟩ := run_storeCells_own (P := P) H he hb hc.1 (o := o) (vs := [v]) (vs' := [v']) (by simp; omega) (.cons hv .nil) (by simp [hc.2.2])
      refine ⟨w', ?_, by rw [← list_set_splice _ _ _ hc.2.1]; exact h2, h3⟩
      have hcells : v'.cells = #[v'] := by cases hv <;> first | rfl | (simp [Value.oneCell'] at hc)
      simp [Instr.storeAt, Instr.sureAddr, storeVar, tyK_scal ht, hcells, h1]
    · cases hs
  · rename_i b n hb ht
    split at hs
    · rename_i vs
      split at hs
      · rename_i hc
        cases hs
        cases hv with
        | agg hvs =>
          rename_i vs'
          obtain ⟨w', h1, h2, h3⟩ := run_storeCells_own (P := P) H he hb hc.1 (o := o) (vs := vs) (vs' := vs') (by omega) hvs hc.2.2.2
          refine ⟨w', ?_, by rw [hc.2.2.1] at h2; exact h2, h3⟩
          have hcells : (Value.agg ⟨vs'⟩).cells = ⟨vs'⟩ := rfl
          have hl := hvs.length
          have hsz : vs'.length = n := by omega
          simp [Instr.storeAt, Instr.sureAddr, storeVar, tyK_agg ht, hcells, h1, hsz]
      · cases hs
    · cases hs
  · cases hs

theorem alloc_sound {G : Glob} {P : Program} {ρ : List Ent} {h : List Blk} {w : World} (H : HR G ρ h w) (T : Nat) {c c' : List Value} (hc : VRs ρ c c') :
    ∃ w' ρ', (newRow T ⟨c'⟩).run P w = .ok ⟨w.heap.size, 0, none⟩ w' ∧ HR G ρ' (h ++ [⟨true, T, c⟩]) w' ∧ Ext ρ ρ' w w' ∧ ρ'[h.length]? = some ⟨w.heap.size, 0, true⟩ := by
  obtain ⟨h1, h2⟩ := H.alloc (T := T) hc
  refine ⟨_, _, ?_, h1, h2, by rw [← H.len]; simp⟩
  simp [newRow]

/-! ### Part 3 -/
def shV (op : BinOp) (k : IntKind) (x y : Int) : Option Value :=
  if y < 0 then none else
  match op with
  | .shl => some (.int k (k.wrap (x * 2 ^ min y.toNat k.bits)))
  | _ => some (.int k (x.fdiv (2 ^ min y.toNat k.bits)))

def intV (op : BinOp) (k : IntKind) (x y : Int) : Option Value :=
  match op with
  | .add => some (.int k (k.wrap (x + y)))
  | .sub => some (.int k (k.wrap (x - y)))
  | .mul => some (.int k (k.wrap (x * y)))
  | .quo => if y = 0 then none else some (.int k (k.wrap (x.tdiv y)))
  | .rem => if y = 0 then none else some (.int k (x.tmod y))
  | .and => some (.int k (bits .and k x y))
  | .or => some (.int k (bits .or k x y))
  | .xor => some (.int k (bits .xor k x y))
  | .andNot => some (.int k (bits .andNot k x y))
  | .eql => some (.bool (x == y))
  | .neq => some (.bool (x != y))
  | .lss => some (.bool (decide (x < y)))
  | .leq => some (.bool (decide (x ≤ y)))
  | .gtr => some (.bool (decide (x > y)))
  | .geq => some (.bool (decide (x ≥ y)))
  | _ => none

/-! Whether aggregates of numbers are the same -/
def ints (k : IntKind) : List Value → Option (List Int)
  | [] => some []
  | .int k' n :: l => if k' = k then (match ints k l with | some m => some (n :: m) | none => none) else none
  | _ => none
def eqF (P : Program) : List Field → Option (List (Nat × Option IntKind))
  | [] => some []
  | f :: fs => if f.name = "_" then none else match tyK P f.type, P.underlying f.type, eqF P fs with
    | some none, some (.int k), some l => some ((f.offset, some k) :: l)
    | some none, some .bool, some l => some ((f.offset, none) :: l)
    | _, _, _ => none
def eqK (P : Program) (t : Nat) : Option (Option (Nat × IntKind) × List (Nat × Option IntKind)) :=
  if P.eqGuardType P.depth t then none else
  match P.underlying t with
  | some (.array n e) => match tyK P e, P.underlying e, P.info? e with
    | some none, some (.int k), some i => if i.size = 1 then some (some (n, k), []) else none
    | _, _, _ => none
  | some (.struct fs) => if P.stoodInHeld t then none else match eqF P fs.toList with
    | some l => some (none, l)
    | none => none
  | _ => none
def eqC : List (Nat × Option IntKind) → List Value → List Value → Option Bool
  | [], _, _ => some true
  | (o, some _) :: l, xs, ys => match xs[o]?, ys[o]?, eqC l xs ys with
    | some (.int k1 a), some (.int k2 b), some r => if k1 = k2 then some ((a == b) && r) else none
    | _, _, _ => none
  | (o, none) :: l, xs, ys => match xs[o]?, ys[o]?, eqC l xs ys with
    | some (.bool a), some (.bool b), some r => some ((a == b) && r)
    | _, _, _ => none
def eqA (P : Program) (t : Nat) (xs ys : List Value) : Option Bool :=
  if fls xs = true ∧ fls ys = true then
    match eqK P t with
    | some (some (n, k), _) => match ints k xs, ints k ys with
      | some a, some b => if a.length = n ∧ b.length = n then some (a == b) else none
      | _, _ => none
    | some (none, l) => eqC l xs ys
    | none => none
  else none
theorem ints_get {k : IntKind} : ∀ {l : List Value} {a : List Int}, ints k l = some a → ∀ i (hi : i < a.length), l[i]? = some (.int k (a[i]'hi))
  | [], a, h, i, hi => by simp only [ints] at h; cases h; simp at hi
  | .int k' n :: l, a, h, i, hi => by
    simp only [ints] at h
    split at h
    · rename_i hk; subst hk
      split at h
      · rename_i m hm
        cases h
        cases i with
        | zero => simp
        | succ i => simpa using ints_get hm i (by simpa using hi)
      · cases h
    · cases h
  | .bool _ :: _, _, h, _, _ => by simp [ints] at h
  | .string _ :: _, _, h, _, _ => by simp [ints] at h
  | .pointer _ :: _, _, h, _, _ => by simp [ints] at h
  | .slice _ _ _ :: _, _, h, _, _ => by simp [ints] at h
  | .nilFunc :: _, _, h, _, _ => by simp [ints] at h
  | .nilIface :: _, _, h, _, _ => by simp [ints] at h
  | .float _ _ :: _, _, h, _, _ => by simp [ints] at h
  | .complex _ _ _ :: _, _, h, _, _ => by simp [ints] at h
  | .map _ :: _, _, h, _, _ => by simp [ints] at h
  | .chan _ :: _, _, h, _, _ => by simp [ints] at h
  | .func _ _ _ :: _, _, h, _, _ => by simp [ints] at h
  | .iface _ _ :: _, _, h, _, _ => by simp [ints] at h
  | .agg _ :: _, _, h, _, _ => by simp [ints] at h
  | .tuple _ :: _, _, h, _, _ => by simp [ints] at h

section runs
variable {P : Program}
theorem part_scal {t o : Nat} {cs : List Value} {v : Value} (ht : tyK P t = some none) (hv : cs[o]? = some v) (w : World) : (part t ⟨cs⟩ o).run P w = .ok v w := by
  simp [part, tyK_scal ht, hv]
theorem items_run {e : Nat} {k : IntKind} (ht : tyK P e = some none) (hu : P.underlying e = some (.int k)) {xs ys : List Value} {a b : List Int} (ha : ints k xs = some a) (hb : ints k ys = some b) (d : Nat) (w : World) :
    ∀ (m s : Nat), s + m = a.length → s + m = b.length → (Op.eqItems (d + 1) e 1 ⟨xs⟩ ⟨ys⟩ (List.range' s m)).run P w = .ok (a.drop s == b.drop s) w
  | 0, s, h1, h2 => by
    simp only [List.range'_zero, Op.eqItems, Sem.run_pure]
    rw [List.drop_of_length_le (by omega), List.drop_of_length_le (by omega)]; rfl
  | m + 1, s, h1, h2 => by
    have ea := ints_get ha s (by omega)
    have eb := ints_get hb s (by omega)
    rw [List.range'_succ]
    simp only [Op.eqItems, Sem.run_bind, Nat.mul_one, part_scal ht ea, part_scal ht eb, Result.andThen_ok, run_equalIn_int w d e k k _ _ hu]
    have hd : (a.drop s == b.drop s) = ((a[s]'(by omega) == b[s]'(by omega)) && (a.drop (s + 1) == b.drop (s + 1))) := by
      rw [List.drop_eq_getElem_cons (show s < a.length by omega), List.drop_eq_getElem_cons (show s < b.length by omega), List.cons_beq_cons]
    have ih := items_run ht hu ha hb d w m (s + 1) (by omega) (by omega)
    rw [hd]
    cases hq : (a[s]'(by omega) == b[s]'(by omega))
    · simp
    · simp only [Bool.not_true, Bool.false_eq_true, if_false, Bool.true_and]
      exact ih
theorem fields_run {d : Nat} {xs ys : List Value} (w : World) : ∀ (fs : List Field) (l : List (Nat × Option IntKind)) (r : Bool), eqF P fs = some l → eqC l xs ys = some r → (Op.eqFields (d + 1) ⟨xs⟩ ⟨ys⟩ fs).run P w = .ok r w
  | [], l, r, hf, hc => by simp only [eqF] at hf; cases hf; simp only [eqC] at hc; cases hc; simp [Op.eqFields]
  | f :: fs, l, r, hf, hc => by
    unfold eqF at hf
    split at hf
    · cases hf
    · rename_i hn
      split at hf
      · rename_i k l' h1 h2 h3
        cases hf
        simp only [eqC] at hc
        split at hc
        · rename_i k1 x k2 y r' hx hy hr
          split at hc
          · rename_i hk; subst hk
            cases hc
            have ih := fields_run (d := d) w fs _ _ h3 hr
            unfold Op.eqFields
            rw [if_pos hn]
            simp only [Sem.run_bind, part_scal h1 hx, part_scal h1 hy, Result.andThen_ok, run_equalIn_int w d f.type k1 k x y h2]
            cases hq : (x == y)
            · simp
            · simp only [Bool.not_true, Bool.false_eq_true, if_false, Bool.true_and]; exact ih
          · cases hc
        · cases hc
      · rename_i l' h1 h2 h3
        cases hf
        simp only [eqC] at hc
        split at hc
        · rename_i x y r' hx hy hr
          cases hc
          have ih := fields_run (d := d) w fs _ _ h3 hr
          unfold Op.eqFields
          rw [if_pos hn]
          simp only [Sem.run_bind, part_scal h1 hx, part_scal h1 hy, Result.andThen_ok, run_equalIn_bool w d f.type x y h2]
          cases hq : (x == y)
          · simp
          · simp only [Bool.not_true, Bool.false_eq_true, if_false, Bool.true_and]; exact ih
        · cases hc
      · cases hf
theorem eqA_run {t : Nat} {xs ys : List Value} {r : Bool} (h : eqA P t xs ys = some r) : fls xs = true ∧ fls ys = true ∧ P.eqGuardType P.depth t = false ∧ ∀ w, (Op.equalIn 10000 t (.agg ⟨xs⟩) (.agg ⟨ys⟩)).run P w = .ok r w := by
  unfold eqA at h
  split at h
  · rename_i hfl
    refine ⟨hfl.1, hfl.2, ?_⟩
    split at h
    · rename_i n k l hk
      split at h
      · rename_i a b ha hb
        split at h
        · rename_i hl
          cases h
          unfold eqK at hk
          split at hk
          · cases hk
          · rename_i hg
            split at hk
            · rename_i n' e hu
              split at hk
              · rename_i k' i h1 h2 h3
                split at hk
                · rename_i hs
                  cases hk
                  refine ⟨by simpa using hg, fun w => ?_⟩
                  have hc : P.cellsOf e = 1 := by simp [Program.cellsOf, h3, hs]
                  rw [run_equalIn_array w 9999 _ _ hu h3, hc, List.range_eq_range']
                  have := items_run h1 h2 ha hb 9998 w n 0 (by omega) (by omega)
                  simpa using this
                · cases hk
              · cases hk
            · split at hk
              · cases hk
              · split at hk <;> cases hk
            · cases hk
        · cases h
      · cases h
    · rename_i l hk
      unfold eqK at hk
      split at hk
      · cases hk
      · rename_i hg
        split at hk
        · split at hk
          · split at hk <;> cases hk
          · cases hk
        · rename_i fs hu
          split at hk
          · cases hk
          · rename_i hst
            split at hk
            · rename_i l' hl
              cases hk
              refine ⟨by simpa using hg, fun w => ?_⟩
              have hfo : P.fieldsOf t = fs := by simp [Program.fieldsOf, hu]
              rw [run_equalIn_struct w 9999 t _ _ (by rw [hfo]; exact hu) (by simpa using hst), hfo]
              exact fields_run w _ _ _ hl h
            · cases hk
        · cases hk
    · cases h
  · cases h
end runs

def binV (P : Program) (op : BinOp) (t : Nat) : Value → Value → Option Value
  | .int k x, .int k' y =>
    match op with
    | .shl | .shr => shV op k x y
    | _ => if k = k' then intV op k x y else none
  | .bool a, .bool b =>
    match P.underlying t, op with
    | some .bool, .eql => some (.bool (a == b))
    | some .bool, .neq => some (.bool (a != b))
    | _, _ => none
  | .pointer a, .pointer none =>
    match P.underlying t, op with
    | some (.pointer _), .eql => some (.bool a.isNone)
    | some (.pointer _), .neq => some (.bool (!a.isNone))
    | _, _ => none
  | .agg ⟨xs⟩, .agg ⟨ys⟩ =>
    match eqA P t xs ys, op with
    | some b, .eql => some (.bool b)
    | some b, .neq => some (.bool (!b))
    | _, _ => none
  | _, _ => none

section runs
variable {P : Program} {w : World}

theorem intV_run {op : BinOp} {k : IntKind} {x y : Int} {v : Value} (h : intV op k x y = some v) (hs : op ≠ .shl) (hr : op ≠ .shr) (t : Nat) :
    (Go.binOp op t (.int k x) (.int k y)).run P w = .ok v w := by
  cases op <;> simp only [intV] at h <;> first
    | (cases h; simp [Go.binOp, Op.intArith, Op.intCmp]; done)
    | (cases h; simp [Go.binOp, Op.intBits, bits]; done)
    | (split at h <;> first | (cases h; done) | (cases h; rename_i hy; simp [Go.binOp, Op.intDiv, hy]))
    | (exact absurd rfl hs)
    | (exact absurd rfl hr)

theorem shV_run {op : BinOp} {k k' : IntKind} {x y : Int} {v : Value} (h : shV op k x y = some v) (hs : op = .shl ∨ op = .shr) (t : Nat) :
    (Go.binOp op t (.int k x) (.int k' y)).run P w = .ok v w := by
  unfold shV at h
  split at h
  · cases h
  · rename_i hy
    rcases hs with rfl | rfl <;> (cases h; simp [Go.binOp, Op.shift, hy])

theorem eqGuard_run (op : BinOp) (t : Nat) (x y : Operand) (a b : Value) (h1 : a ≠ .nilIface) (h2 : ∀ c, a ≠ .agg c) : (eqGuard op t x y a b).run P w = .ok () w := by
  cases op <;> first
    | rfl
    | (cases a <;> first | rfl | exact absurd rfl h1 | exact absurd rfl (h2 _))

theorem underlying_run {t : Nat} {d : TypeDesc} (h : P.underlying t = some d) : (Go.underlying t).run P w = .ok d w := by
  simp [Go.underlying, h]

theorem binV_sound {ρ : List Ent} {op : BinOp} {t : Nat} {a b v a' b' : Value} (h : binV P op t a b = some v) (ha : VR ρ a a') (hb : VR ρ b b') (x y : Operand) (w : World) :
    fl v = true ∧ (do eqGuard op t x y a' b'; Go.binOp op t a' b' : Sem Value).run P w = .ok v w := by
  unfold binV at h
  split at h
  · rename_i k m k' n
    cases ha; cases hb
    rw [Sem.run_bind, eqGuard_run op t x y _ _ (by simp) (by simp)]
    simp only [Result.andThen_ok]
    split at h
    · refine ⟨?_, shV_run h (.inl rfl) t⟩
      unfold shV at h; split at h <;> (cases h; try rfl)
    · refine ⟨?_, shV_run h (.inr rfl) t⟩
      unfold shV at h; split at h <;> (cases h; try rfl)
    · rename_i h1 h2
      split at h
      · rename_i hk; subst hk
        refine ⟨?_, intV_run h h1 h2 t⟩
        cases op <;> simp only [intV] at h <;> first
          | (cases h; done)
          | (cases h; rfl)
          | (split at h <;> first | (cases h; done) | (cases h; rfl))
      · cases h
  · cases ha; cases hb
    rw [Sem.run_bind, eqGuard_run op t x y _ _ (by simp) (by simp)]
    simp only [Result.andThen_ok]
    split at h
    · rename_i hu; cases h
      exact ⟨rfl, run_eql_bool w t _ _ hu⟩
    · rename_i hu; cases h
      exact ⟨rfl, run_neq_bool w t _ _ hu⟩
    · cases h
  · rename_i aa
    cases hb
    have hne : a' ≠ .nilIface ∧ ∀ c, a' ≠ .agg c := by cases ha <;> simp
    rw [Sem.run_bind, eqGuard_run op t x y _ _ hne.1 hne.2]
    simp only [Result.andThen_ok]
    split at h
    · rename_i e hu; cases h
      refine ⟨rfl, ?_⟩
      cases ha <;> exact run_eql_pointer_nil w t _ (by rw [hu]; simp [Program.pointee, hu])
    · rename_i e hu; cases h
      refine ⟨rfl, ?_⟩
      cases ha <;> exact run_neq_pointer_nil w t _ (by rw [hu]; simp [Program.pointee, hu])
    · cases h
  · rename_i xs ys
    split at h
    · rename_i b0 he
      obtain ⟨f1, f2, hg, hr⟩ := eqA_run he
      have e1 := ha.flat (by simpa [fl] using f1)
      have e2 := hb.flat (by simpa [fl] using f2)
      subst e1; subst e2
      cases h
      refine ⟨rfl, ?_⟩
      rw [Sem.run_bind, run_eqGuard_agg w .eql t x y ⟨xs⟩ ⟨ys⟩ hg]
      simp only [Result.andThen_ok, run_eql_struct, hr]
    · rename_i b0 he
      obtain ⟨f1, f2, hg, hr⟩ := eqA_run he
      have e1 := ha.flat (by simpa [fl] using f1)
      have e2 := hb.flat (by simpa [fl] using f2)
      subst e1; subst e2
      cases h
      refine ⟨rfl, ?_⟩
      rw [Sem.run_bind, run_eqGuard_agg w .neq t x y ⟨xs⟩ ⟨ys⟩ hg]
      simp only [Result.andThen_ok, run_neq_struct, hr]
    · cases h
  · cases h

end runs

def unV (op : UnOp) : Value → Option Value
  | .int k n => match op with
    | .neg => some (.int k (k.wrap (0 - n)))
    | .xor => some (.int k (bits .xor k (if k.signed then -1 else k.max) n))
    | _ => none
  | .bool b => match op with
    | .not => some (.bool (!b))
    | _ => none
  | _ => none

theorem unV_sound {P : Program} {ρ : List Ent} {op : UnOp} {a v a' : Value} (h : unV op a = some v) (ha : VR ρ a a') (w : World) :
    fl v = true ∧ (Op.unary op a').run P w = .ok v w := by
  unfold unV at h
  split at h
  · cases ha
    split at h
    · cases h; exact ⟨rfl, by simp [Op.unary, Op.intArith]⟩
    · cases h; exact ⟨rfl, by simp [Op.unary, Op.intBits, bits]⟩
    · cases h
  · cases ha
    split at h
    · cases h; exact ⟨rfl, by simp [Op.unary]⟩
    · cases h
  · cases h

/-! Building -/
def fillC (place : Nat → Option (Nat × Nat)) : List Value → List (Nat × Value) → Option (List Value)
  | c, [] => some c
  | c, (i, v) :: rest =>
    match place i with
    | none => none
    | some (off, size) =>
      if (vcells v).length = size ∧ off + size ≤ c.length then fillC place (c.take off ++ vcells v ++ c.drop (off + size)) rest else none

def PRs (ρ : List Ent) : List (Nat × Value) → List (Nat × Value) → Prop
  | [], [] => True
  | (i, v) :: l, (j, u) :: m => i = j ∧ VR ρ v u ∧ PRs ρ l m
  | _, _ => False

theorem VR.vcells {ρ : List Ent} {v v' : Value} (h : VR ρ v v') : VRs ρ (vcells v) (vcells v') := by
  cases h with
  | agg h => exact h
  | bool b => exact .cons (.bool b) .nil
  | int k n => exact .cons (.int k n) .nil
  | string s => exact .cons (.string s) .nil
  | pnil => exact .cons .pnil .nil
  | ptr o h => exact .cons (.ptr o h) .nil
  | snil l c => exact .cons (.snil l c) .nil
  | slice o l c h => exact .cons (.slice o l c h) .nil
  | func f => exact .cons (.func f) .nil
  | nilFunc => exact .cons .nilFunc .nil
  | nilIface => exact .cons .nilIface .nil
  | iface t h => exact .cons (.iface t h) .nil
  | tuple h => exact .cons (.tuple h) .nil

theorem foldl_splice : ∀ (vs : List Value) (n off : Nat) (c : List Value), off + n + vs.length ≤ c.length →
    (vs.zipIdx n).foldl (fun (cs : Array Value) (p : Value × Nat) => cs.setIfInBounds (off + p.2) p.1) ⟨c⟩ = ⟨c.take (off + n) ++ vs ++ c.drop (off + n + vs.length)⟩
  | [], n, off, c, h => by simp
  | v :: vs, n, off, c, h => by
    simp only [List.zipIdx_cons, List.foldl_cons]
    rw [List.setIfInBounds_toArray]
    rw [foldl_splice vs (n + 1) off (c.set (off + n) v) (by simp at h ⊢; omega)]
    simp only [List.length_cons] at h
    have h2 : off + n < c.length := by omega
    congr 1
    rw [show off + (n + 1) = (off + n) + 1 by omega, List.take_set, List.drop_set_of_lt (by omega)]
    rw [List.take_succ_eq_append_getElem h2, List.set_append_right _ _ (by simp; omega)]
    simp only [List.length_take, Nat.min_eq_left (Nat.le_of_lt h2), Nat.sub_self, List.set_cons_zero, List.length_cons, List.append_assoc, List.singleton_append, List.cons_append, List.nil_append]
    rw [show off + n + 1 + vs.length = off + n + (vs.length + 1) by omega]

theorem fill_sound {ρ : List Ent} (place : Nat → Option (Nat × Nat)) : ∀ (ps ps' : List (Nat × Value)) (c c' d : List Value), PRs ρ ps ps' → VRs ρ c c' → fillC place c ps = some d →
    ∃ d', Instr.fill place ⟨c'⟩ ps' = some ⟨d'⟩ ∧ VRs ρ d d'
  | [], [], c, c', d, _, hc, h => by simp only [fillC] at h; cases h; exact ⟨c', rfl, hc⟩
  | (i, v) :: l, (j, u) :: m, c, c', d, hp, hc, h => by
    obtain ⟨rfl, hv, hm⟩ := hp
    simp only [fillC] at h
    split at h
    · cases h
    · rename_i off size hpl
      split at h
      · rename_i hcond
        have hvc := hv.vcells
        have hl := hvc.length
        have hcl := hc.length
        have e : u.cells = ⟨vcells u⟩ := by rw [← vcells_eq]
        obtain ⟨d', h1, h2⟩ := fill_sound place l m _ (c'.take off ++ vcells u ++ c'.drop (off + size)) d hm (((hc.take _).append hvc).append (hc.drop _)) h
        refine ⟨d', ?_, h2⟩
        simp only [Instr.fill, hpl]
        rw [if_neg (by rw [e]; simp; omega)]
        rw [e]
        have hf := foldl_splice (vcells u) 0 off c' (by omega)
        simp only [Nat.add_zero] at hf
        rw [← hl, hcond.1] at hf
        have hz : (Array.zipIdx ⟨vcells u⟩ : Array (Value × Nat)) = ⟨(vcells u).zipIdx 0⟩ := by simp
        rw [hz]
        simp only [List.foldl_toArray']
        rw [hf]
        exact h1
      · cases h
  | [], _ :: _, _, _, _, hp, _, _ => hp.elim
  | _ :: _, [], _, _, _, hp, _, _ => hp.elim

/-! ### Part 4 -/
def placesL (P : Program) : List Field → Option (List (Nat × Nat))
  | [] => some []
  | f :: l => match P.info? f.type, placesL P l with
    | some i, some r => some ((f.offset, i.size) :: r)
    | _, _ => none

def bldK (P : Program) (t : Nat) : Option (List Value × (Nat → Option (Nat × Nat))) :=
  match P.underlying t, zeroT P t with
  | some (.struct fs), some z => match placesL P fs.toList with
    | some l => some (vcells z, fun i => l[i]?)
    | none => none
  | some (.array _ e), some z => match P.info? e with
    | some i => some (vcells z, fun j => some (j * i.size, i.size))
    | none => none
  | _, _ => none

def partsEv (s : St) : List (Nat × Operand) → Option (List (Nat × Value))
  | [] => some []
  | (i, x) :: l => match s.ev x, partsEv s l with
    | some v, some r => some ((i, v) :: r)
    | _, _ => none

def argsEv (s : St) : List Operand → Option (List Value)
  | [] => some []
  | x :: l => match s.ev x, argsEv s l with
    | some v, some r => some (v :: r)
    | _, _ => none

def bndV (s : St) (x : Option Operand) (dflt y : Nat) : Option Nat :=
  match x with
  | none => some dflt
  | some x => match s.ev x with
    | some (.int _ i) => if 0 ≤ i ∧ i ≤ y then some i.toNat else none
    | _ => none

def sliceV (P : Program) (s : St) (t : Nat) (x : Operand) (lo hi : Option Operand) : Option Value :=
  match elO P t, s.ev x with
  | some (some n, _, sz), some (.pointer (some a)) =>
    match bndV s hi n n with
    | some h => match bndV s lo 0 h with
      | some l => some (.slice (some (if n = l then a else addO a (l * sz))) (h - l) (n - l))
      | none => none
    | none => none
  | some (none, _, sz), some (.slice a len cap) =>
    match bndV s hi len cap with
    | some h => match bndV s lo 0 h with
      | some l => some (.slice (if cap = l then a else a.map (fun a => addO a (l * sz))) (h - l) (cap - l))
      | none => none
    | none => none
  | _, _ => none

def isIface (P : Program) (t : Nat) : Option Bool :=
  match P.underlying t with
  | some (.interface _) => some true
  | some _ => some false
  | none => none

def intT (P : Program) (t : Nat) : Option IntKind :=
  match P.underlying t with
  | some (.int k) => some k
  | _ => none

def sizeT (P : Program) (t : Nat) : Option Nat :=
  match P.info? t with
  | some i => some i.size
  | none => none

def lenV (P : Program) (t : Nat) : Value → Option Value
  | .slice _ n _ => match elO P t with | some (none, _, _) => some (.int .i64 n) | _ => none
  | .pointer _ => none
  | _ => match elO P t with | some (some n, _, _) => some (.int .i64 n) | _ => none

def mm2 (mx : Bool) : Value → Value → Option Value
  | .int k x, .int _ y => some (.int k (if mx then (if y > x then y else x) else (if y < x then y else x)))
  | _, _ => none

def mmL (mx : Bool) : Value → List Value → Option Value
  | v, [] => some v
  | v, x :: l => match mm2 mx v x with | some u => mmL mx u l | none => none

def pureV (P : Program) (s : St) (op : Op) : Option Value :=
  match op with
  | .move x | .assign x => s.ev x
  | .extract x i => match s.ev x with
    | some (.tuple ⟨vs⟩) => vs[i]?
    | _ => none
  | .nilCheck x => match s.ev x with
    | some (.pointer (some a)) => some (.pointer (some a))
    | some (.iface t v) => some (.iface t v)
    | _ => none
  | .fieldAddr t x i => match s.ev x, fldO P t i with
    | some (.pointer (some a)), some (o, _) => some (.pointer (some (addO a o)))
    | _, _ => none
  | .indexAddr t x ix => match elO P t, s.ev x, s.ev ix with
    | some (some n, _, sz), some (.pointer (some a)), some (.int _ i) => if 0 ≤ i ∧ i < n then some (.pointer (some (addO a (i.toNat * sz)))) else none
    | some (none, _, sz), some (.slice (some a) l _), some (.int _ i) => if 0 ≤ i ∧ i < l then some (.pointer (some (addO a (i.toNat * sz)))) else none
    | _, _, _ => none
  | .field t x i => match fldO P t i, s.ev x with
    | some (o, ft), some (.agg ⟨cs⟩) => partC P ft cs o
    | _, _ => none
  | .index t x ix => match elO P t, s.ev x, s.ev ix with
    | some (some n, e, sz), some (.agg ⟨cs⟩), some (.int _ i) => if 0 ≤ i ∧ i < n then partC P e cs (i.toNat * sz) else none
    | _, _, _ => none
  | .build t parts => match bldK P t, partsEv s parts.toList with
    | some (z, pl), some ps => if fls z = true then (match fillC pl z ps with | some c => some (.agg ⟨c⟩) | none => none) else none
    | _, _ => none
  | .makeInterface t x => match isIface P t, s.ev x with
    | some false, some v => some (.iface t v)
    | _, _ => none
  | .slice t x lo hi none => sliceV P s t x lo hi
  | .sliceToArrayPointer t x => match elO P t, s.ev x with
    | some (some n, _, _), some (.slice (some a) l _) => if n ≤ l then some (.pointer (some a)) else none
    | _, _ => none
  | .binOp op t x y _ => match s.ev x, s.ev y with
    | some a, some b => binV P op t a b
    | _, _ => none
  | .unOp op _ x => match s.ev x with
    | some a => unV op a
    | _ => none
  | .convert src dst x => match intT P src, intT P dst, s.ev x with
    | some _, some k, some (.int _ n) => some (.int k (k.wrap n))
    | _, _, _ => none
  | .call c => match c.callee with
    | .builtin .len => match argsEv s c.args.toList, c.argTypes[0]? with
      | some [v], some t => lenV P t v
      | _, _ => none
    | .builtin .max => match argsEv s c.args.toList with
      | some (v :: l) => mmL true v l
      | _ => none
    | .builtin .min => match argsEv s c.args.toList with
      | some (v :: l) => mmL false v l
      | _ => none
    | _ => none
  | _ => none

section sound
variable {P : Program} {G : Glob} {ρ : List Ent} {s : St} {a : Act} {w : World}

theorem partC_value {t o : Nat} {cs cs' : List Value} {v : Value} (hc : VRs ρ cs cs') (hv : partC P t cs o = some v) :
    ∃ v', VR ρ v v' ∧ ∀ w, (part t ⟨cs'⟩ o).run P w = .ok v' w := by
  unfold partC at hv
  split at hv
  · rename_i ht
    obtain ⟨v', h1, h2⟩ := hc.get hv
    exact ⟨v', h2, fun w => by simp [part, tyK_scal ht, h1]⟩
  · rename_i n ht
    split at hv
    · rename_i hle
      cases hv
      refine ⟨.agg ⟨(cs'.drop o).take n⟩, .agg ((hc.drop o).take n), fun w => ?_⟩
      simp [part, tyK_agg ht]
    · cases hv
  · cases hv

theorem placesL_run : ∀ (fs : List Field) (l : List (Nat × Nat)), placesL P fs = some l → ∀ w,
    (fs.mapM (m := Sem) fun f => do pure (f.offset, ← sizeOf f.type)).run P w = .ok l w
  | [], l, h, w => by simp only [placesL] at h; cases h; simp
  | f :: fs, l, h, w => by
    simp only [placesL] at h
    split at h
    · rename_i i r hi hr
      cases h
      have := placesL_run fs r hr w
      simp only [List.mapM_cons, Sem.run_bind]
      simp [sizeOf, typeInfo, hi] at this ⊢
      simp [this]
    · cases h

theorem SR.parts (hs : SR G ρ s a w) : ∀ (l : List (Nat × Operand)) (r : List (Nat × Value)), partsEv s l = some r → PRs ρ r (l.map fun (i, x) => (i, a.eval x))
  | [], r, h => by simp only [partsEv] at h; cases h; trivial
  | (i, x) :: l, r, h => by
    simp only [partsEv] at h
    split at h
    · rename_i v r' hv hr
      cases h
      exact ⟨rfl, hs.ev hv, SR.parts hs l r' hr⟩
    · cases h

theorem SR.args (hs : SR G ρ s a w) : ∀ (l : List Operand) (r : List Value), argsEv s l = some r → VRs ρ r (l.map a.eval)
  | [], r, h => by simp only [argsEv] at h; cases h; exact .nil
  | x :: l, r, h => by
    simp only [argsEv] at h
    split at h
    · rename_i v r' hv hr
      cases h
      exact .cons (hs.ev hv) (SR.args hs l r' hr)
    · cases h

theorem mmL_sound (mx : Bool) : ∀ (l l' : List Value) (v v' u : Value), VRs ρ l l' → VR ρ v v' → mmL mx v l = some u → l ≠ [] →
    fl u = true ∧ ∀ w, (l'.foldlM (m := Sem) (if mx then Builtin.max2 else Builtin.min2) v').run P w = .ok u w
  | [], _, _, _, _, _, _, _, hne => absurd rfl hne
  | x :: l, _, v, v', u, .cons hx ht, hv, h, _ => by
    simp only [mmL] at h
    split at h
    · rename_i y hy
      unfold mm2 at hy
      split at hy
      · cases hv; cases hx; cases hy
        cases l with
        | nil =>
          cases ht
          simp only [mmL] at h; cases h
          refine ⟨rfl, fun w => ?_⟩
          cases mx <;> simp [Builtin.max2, Builtin.min2]
        | cons z l =>
          rename_i k xx k' yy l'
          obtain ⟨h1, h2⟩ := mmL_sound mx (z :: l) _ _ _ u ht (VR.int _ _) h (by simp)
          refine ⟨h1, fun w => ?_⟩
          have h3 := h2 w
          cases mx
          · simp only [List.foldlM_cons, Sem.run_bind, Bool.false_eq_true, if_false] at h3 ⊢
            simpa [Builtin.min2] using h3
          · simp only [List.foldlM_cons, Sem.run_bind, if_true] at h3 ⊢
            simpa [Builtin.max2] using h3
      · cases hy
    · cases h

end sound

/-! ### Part 5 -/
section sound
variable {P : Program} {G : Glob} {ρ : List Ent} {s : St} {a : Act} {w0 : World}

theorem elO_arr {t n e sz : Nat} (h : elO P t = some (some n, e, sz)) : ∃ i, P.underlying t = some (.array n e) ∧ P.info? e = some i ∧ i.size = sz := by
  unfold elO at h
  split at h
  · rename_i hu
    split at h
    · rename_i i hi; cases h; exact ⟨i, hu, hi, rfl⟩
    · cases h
  · split at h <;> cases h
  · cases h

theorem elO_sl {t e sz : Nat} (h : elO P t = some (none, e, sz)) : ∃ i, P.underlying t = some (.slice e) ∧ P.info? e = some i ∧ i.size = sz := by
  unfold elO at h
  split at h
  · split at h <;> cases h
  · rename_i hu
    split at h
    · rename_i i hi; cases h; exact ⟨i, hu, hi, rfl⟩
    · cases h
  · cases h

theorem fldO_spec {t i o ft : Nat} (h : fldO P t i = some (o, ft)) : ∃ fs f inf, P.underlying t = some (.struct fs) ∧ fs[i]? = some f ∧ P.info? f.type = some inf ∧ inf.size ≠ 0 ∧ f.offset = o ∧ f.type = ft := by
  unfold fldO at h
  split at h
  · rename_i fs hu
    split at h
    · rename_i f hf
      split at h
      · rename_i n hn
        split at h
        · cases h
        · rename_i hz; cases h; exact ⟨fs, f, n, hu, hf, hn, hz, rfl, rfl⟩
      · cases h
    · cases h
  · cases h

theorem bnd_sound (hs : SR G ρ s a w0) {x : Operand} {d y r : Nat} (h : bndV s (some x) d y = some r) (code : BoundsCode) (w : World) : (Instr.sliceBound (a.eval x) y code).run P w = .ok r w := by
  simp only [bndV] at h
  split at h
  · rename_i k i hx
    have hv := hs.ev hx
    split at h
    · rename_i hc
      cases h
      generalize a.eval x = v at hv
      cases hv
      simp [Instr.sliceBound, asIntOf, hc]
    · cases h
  · cases h

theorem bounds_sound (hs : SR G ρ s a w0) {lo hi : Option Operand} {len cap h l : Nat} (hh : bndV s hi len cap = some h) (hl : bndV s lo 0 h = some l) (b : Bool) (w : World) :
    (Instr.sliceBounds b len cap (lo.map a.eval) (hi.map a.eval) none).run P w = .ok (l, h, cap) w := by
  unfold Instr.sliceBounds
  cases hi with
  | none =>
    simp only [bndV] at hh; cases hh
    cases lo with
    | none => simp only [bndV] at hl; cases hl; simp
    | some x => simp [bnd_sound hs hl]
  | some y =>
    cases lo with
    | none => simp only [bndV] at hl; cases hl; simp [bnd_sound hs hh]
    | some x => simp [bnd_sound hs hh, bnd_sound hs hl]

theorem sliceV_sound (hs : SR G ρ s a w0) {t : Nat} {x : Operand} {lo hi : Option Operand} {v : Value} (h : sliceV P s t x lo hi = some v) :
    ∃ v', VR ρ v v' ∧ ∀ w, (Instr.sliceAt t (a.eval x) (lo.map a.eval) (hi.map a.eval) none).run P w = .ok v' w := by
  unfold sliceV at h
  split at h
  · rename_i n e sz ad ht hx
    have hv := hs.ev hx
    obtain ⟨inf, hu, hi', hsz⟩ := elO_arr ht
    split at h
    · rename_i hh hhh
      split at h
      · rename_i l hll
        cases h
        generalize a.eval x = v at hv
        cases hv with
        | ptr o hk =>
          rename_i k e'
          refine ⟨.slice (some (if n = l then ⟨e'.r, e'.base + o, none⟩ else ⟨e'.r, e'.base + (o + l * sz), none⟩)) (hh - l) (n - l), ?_, fun w => ?_⟩
          · split
            · exact .slice o _ _ hk
            · exact .slice (o + l * sz) _ _ hk
          · simp [Instr.sliceAt, run_underlying hu, Instr.sureAddr, bounds_sound hs hhh hll, sizeOf, typeInfo, hi', hsz, add_eq, Nat.add_assoc]
      · cases h
    · cases h
  · rename_i e sz ad len cap ht hx
    have hv := hs.ev hx
    obtain ⟨inf, hu, hi', hsz⟩ := elO_sl ht
    split at h
    · rename_i hh hhh
      split at h
      · rename_i l hll
        cases h
        generalize a.eval x = v at hv
        cases hv with
        | snil =>
          refine ⟨.slice none (hh - l) (cap - l), ?_, fun w => ?_⟩
          · simp; exact .snil _ _
          · simp [Instr.sliceAt, Instr.slice, run_underlying hu, bounds_sound hs hhh hll, sizeOf, typeInfo, hi', hsz]
        | slice o _ _ hk =>
          rename_i k e'
          refine ⟨.slice (some (if cap = l then ⟨e'.r, e'.base + o, none⟩ else ⟨e'.r, e'.base + (o + l * sz), none⟩)) (hh - l) (cap - l), ?_, fun w => ?_⟩
          · split
            · exact .slice o _ _ hk
            · exact .slice (o + l * sz) _ _ hk
          · simp only [Instr.sliceAt, Instr.slice, run_underlying hu, bounds_sound hs hhh hll, sizeOf, typeInfo, Sem.run_bind, run_program, Result.andThen_ok, hi', Sem.run_pure, hsz]
            split <;> simp [add_eq, Nat.add_assoc]
      · cases h
    · cases h
  · cases h

theorem pureV_sound (hs : SR G ρ s a w0) {o : Oper} {v : Value} (h : pureV P s o.op = some v) :
    ∃ v', VR ρ v v' ∧ ∀ w, (execOp a.eval o).run P w = .ok (.value v') w := by
  obtain ⟨dst, op, ty, pos, af, gd⟩ := o
  simp only at h
  unfold pureV at h
  split at h
  · exact ⟨_, hs.ev h, fun w => by simp [execOp]⟩
  · exact ⟨_, hs.ev h, fun w => by simp [execOp]⟩
  · rename_i x i
    split at h
    · rename_i vs hx
      have hv := hs.ev hx
      cases hv' : a.eval x with
      | tuple vs' =>
        rw [hv'] at hv
        cases hv with
        | tuple hh =>
          obtain ⟨u, h1, h2⟩ := hh.get h
          exact ⟨u, h2, fun w => by simp [execOp, hv', Instr.extract, h1]⟩
      | _ => rw [hv'] at hv; cases hv
    · cases h
  · rename_i x
    split at h
    · rename_i ad hx
      cases h
      have hv := hs.ev hx
      refine ⟨_, hv, fun w => ?_⟩
      generalize hv' : a.eval x = u at hv
      cases hv; simp [execOp, hv']
    · rename_i t u hx
      cases h
      have hv := hs.ev hx
      refine ⟨_, hv, fun w => ?_⟩
      generalize hv' : a.eval x = u at hv
      cases hv; simp [execOp, hv']
    · cases h
  · rename_i t x i
    split at h
    · rename_i ad off ft hx hf
      cases h
      obtain ⟨fs, f, inf, h1, h2, h3, h4, h5, h6⟩ := fldO_spec hf
      have hv := hs.ev hx
      generalize hv' : a.eval x = u at hv
      cases hv with
      | ptr oo hk =>
        rename_i k e'
        refine ⟨_, .ptr (oo + off) hk, fun w => ?_⟩
        simp [execOp, hv', Instr.fieldAt, run_underlying h1, h2, Instr.sureAddr, fieldPlace, sizeOf, typeInfo, h3, h4, h5, add_eq, Nat.add_assoc]
    · cases h
  · rename_i t x ix
    split at h
    · rename_i n e sz ad k i ht hx hi
      split at h
      · rename_i hc
        cases h
        obtain ⟨inf, hu, hi', hsz⟩ := elO_arr ht
        have hv := hs.ev hx
        have hvi := hs.ev hi
        generalize hv' : a.eval x = u at hv
        generalize hvi' : a.eval ix = ui at hvi
        cases hvi
        cases hv with
        | ptr oo hk =>
          refine ⟨_, .ptr (oo + i.toNat * sz) hk, fun w => ?_⟩
          simp [execOp, hv', hvi', Instr.indexAt, asIntOf, run_underlying hu, Instr.sureAddr, hc, sizeOf, typeInfo, hi', hsz, add_eq, Nat.add_assoc]
      · cases h
    · rename_i e sz ad l cap k i ht hx hi
      split at h
      · rename_i hc
        cases h
        obtain ⟨inf, hu, hi', hsz⟩ := elO_sl ht
        have hv := hs.ev hx
        have hvi := hs.ev hi
        generalize hv' : a.eval x = u at hv
        generalize hvi' : a.eval ix = ui at hvi
        cases hvi
        cases hv with
        | slice oo _ _ hk =>
          refine ⟨_, .ptr (oo + i.toNat * sz) hk, fun w => ?_⟩
          simp [execOp, hv', hvi', Instr.indexAt, asIntOf, run_underlying hu, hc, sizeOf, typeInfo, hi', hsz, add_eq, Nat.add_assoc]
      · cases h
    · cases h
  · rename_i t x i
    split at h
    · rename_i off ft cs hf hx
      obtain ⟨fs, f, inf, h1, h2, h3, h4, h5, h6⟩ := fldO_spec hf
      have hv := hs.ev hx
      generalize hv' : a.eval x = u at hv
      cases hv with
      | agg hcs =>
        obtain ⟨v', hr, hrun⟩ := partC_value hcs h
        refine ⟨v', hr, fun w => ?_⟩
        simp [execOp, hv', Instr.field, run_underlying h1, h2, asAgg, h5, h6, hrun]
    · cases h
  · rename_i t x ix
    split at h
    · rename_i n e sz cs k i ht hx hi
      split at h
      · rename_i hc
        obtain ⟨inf, hu, hi', hsz⟩ := elO_arr ht
        have hv := hs.ev hx
        have hvi := hs.ev hi
        generalize hv' : a.eval x = u at hv
        generalize hvi' : a.eval ix = ui at hvi
        cases hvi
        cases hv with
        | agg hcs =>
          obtain ⟨v', hr, hrun⟩ := partC_value hcs h
          refine ⟨v', hr, fun w => ?_⟩
          simp [execOp, hv', hvi', Instr.index, asIntOf, run_underlying hu, hc, sizeOf, typeInfo, hi', hsz, hrun]
      · cases h
    · cases h
  · rename_i t parts
    split at h
    · rename_i z pl ps hb hp
      split at h
      · rename_i hz
        split at h
        · rename_i c hc
          cases h
          have hpr := hs.parts _ _ hp
          have hzr : VRs ρ z z := VRs.of_fl z hz
          obtain ⟨d', h1, h2⟩ := fill_sound pl _ _ _ _ _ hpr hzr hc
          refine ⟨_, .agg h2, fun w => ?_⟩
          have hpl : (parts.map fun x => (x.1, a.eval x.2)).toList = parts.toList.map fun x => (x.1, a.eval x.2) := by simp
          unfold bldK at hb
          split at hb
          · rename_i fs zz hu hzz
            split at hb
            · rename_i l hl
              cases hb
              unfold zeroT at hzz
              split at hzz
              · rename_i inf hinf
                have hm := placesL_run fs.toList l hl w
                have hcells : zz.cells = ⟨vcells zz⟩ := by rw [← vcells_eq]
                have hma : (fs.mapM (m := Sem) fun f => do pure (f.offset, ← sizeOf f.type)).run P w = .ok l.toArray w := by
                  rw [← Array.toArray_toList (xs := fs)]
                  simp only [List.mapM_toArray, Sem.run_map, hm, Result.andThen_ok]
                simp [execOp, Instr.build, zeroValue, typeInfo, hinf, hzz, run_underlying hu] at hma ⊢
                simp [hma, hpl, hcells, h1]
              · cases hzz
            · cases hb
          · rename_i n e zz hu hzz
            split at hb
            · rename_i inf2 hinf2
              cases hb
              unfold zeroT at hzz
              split at hzz
              · rename_i inf hinf
                have hcells : zz.cells = ⟨vcells zz⟩ := by rw [← vcells_eq]
                simp [execOp, Instr.build, zeroValue, typeInfo, hinf, hzz, run_underlying hu, sizeOf, hinf2, hpl, hcells, h1]
              · cases hzz
            · cases hb
          · cases hb
        · cases h
      · cases h
    · cases h
  · rename_i t x
    split at h
    · rename_i v0 hi hx
      cases h
      have hv := hs.ev hx
      refine ⟨_, .iface t hv, fun w => ?_⟩
      unfold isIface at hi
      split at hi
      · cases hi
      · rename_i d hd hu
        simp only [execOp, Instr.makeInterface, Sem.run_bind, run_underlying hu, Result.andThen_ok]
        cases d <;> first | (exact absurd rfl (hd _)) | simp
      · cases hi
    · cases h
  · rename_i t x lo hi
    obtain ⟨v', hr, hrun⟩ := sliceV_sound hs h
    exact ⟨v', hr, fun w => by simp [execOp, hrun]⟩
  · rename_i t x
    split at h
    · rename_i n e sz ad l cap ht hx
      split at h
      · rename_i hc
        cases h
        obtain ⟨inf, hu, hi', hsz⟩ := elO_arr ht
        have hv := hs.ev hx
        generalize hv' : a.eval x = u at hv
        cases hv with
        | slice oo _ _ hk =>
          refine ⟨_, .ptr oo hk, fun w => ?_⟩
          simp [execOp, hv', Instr.arrayAt, run_underlying hu, Nat.not_lt.2 hc]
      · cases h
    · cases h
  · rename_i op t x y ty2
    split at h
    · rename_i va vb hx hy
      have := fun w => binV_sound h (hs.ev hx) (hs.ev hy) x y w
      refine ⟨v, VR.of_fl v (this default).1, fun w => ?_⟩
      have h2 := (this w).2
      simp only [execOp, Sem.run_bind] at h2 ⊢
      rw [h2]; rfl
    · cases h
  · rename_i op t x
    split at h
    · rename_i va hx
      have := fun w => unV_sound (P := P) h (hs.ev hx) w
      refine ⟨v, VR.of_fl v (this default).1, fun w => ?_⟩
      simp [execOp, (this w).2]
    · cases h
  · rename_i src dst x
    split at h
    · rename_i sz k k2 n hsz hk hx
      cases h
      have hv := hs.ev hx
      generalize hv' : a.eval x = u at hv
      cases hv
      refine ⟨_, .int _ _, fun w => ?_⟩
      unfold intT at hk hsz
      split at hk
      · rename_i hu
        cases hk
        split at hsz
        · rename_i hd
          simp only [execOp, Go.convert, Sem.run_bind, run_underlying hd, run_underlying hu, Result.andThen_ok, hv']
          simp [Conv.intToInt]
        · cases hsz
      · cases hk
    · cases h
  · rename_i c
    split at h
    · rename_i hcal
      split at h
      · rename_i v0 t hargs ht
        have hv := hs.args _ _ hargs
        have hl : ∃ x, c.args.toList = [x] := by
          cases hc : c.args.toList with
          | nil => rw [hc] at hargs; simp [argsEv] at hargs
          | cons x l =>
            rw [hc] at hargs hv
            cases hv with
            | cons _ h2 => cases l with
              | nil => exact ⟨x, rfl⟩
              | cons => cases h2
        obtain ⟨x, hl⟩ := hl
        have hca : c.args = #[x] := by rw [← Array.toArray_toList (xs := c.args), hl]
        rw [hl] at hv
        cases hv with
        | cons hv _ =>
          simp only [execOp, resolve, hcal, invoke, Go.builtin, hca, Builtin.len_]
          unfold lenV at h
          generalize hv' : a.eval x = u at hv
          split at h
          · split at h
            · rename_i e sz hel
              obtain ⟨inf, hu, _, _⟩ := elO_sl hel
              cases h
              refine ⟨_, .int _ _, fun w => ?_⟩
              cases hv <;> simp [hv', ht, run_underlying hu, goInt]
            · cases h
          · cases h
          · split at h
            · rename_i n e sz hel
              obtain ⟨inf, hu, _, _⟩ := elO_arr hel
              cases h
              refine ⟨_, .int _ _, fun w => ?_⟩
              simp [hv', ht, run_underlying hu, goInt]
            · cases h
      · cases h
    · rename_i hcal
      split at h
      · rename_i v0 l hargs
        have hv := hs.args _ _ hargs
        cases hl : c.args.toList with
        | nil => rw [hl] at hv; cases hv
        | cons x xs =>
          rw [hl] at hv
          have hca : (c.args.map a.eval).toList = a.eval x :: xs.map a.eval := by simp [hl]
          cases hv with
          | cons hv ht =>
            cases l with
            | nil =>
              simp only [mmL] at h; cases h
              refine ⟨_, hv, fun w => ?_⟩
              cases xs with
              | nil => simp [execOp, resolve, hcal, invoke, Go.builtin, Builtin.max_, hl]
              | cons => cases ht
            | cons y ys =>
              have := mmL_sound (P := P) true (y :: ys) _ v0 _ v ht hv h (by simp)
              refine ⟨v, VR.of_fl v this.1, fun w => ?_⟩
              have h2 := this.2 w
              simp only [if_true] at h2
              simp only [execOp, resolve, hcal, invoke, Go.builtin, Builtin.max_, Sem.run_bind, Sem.run_pure, Result.andThen_ok, hca, h2]
      · cases h
    · rename_i hcal
      split at h
      · rename_i v0 l hargs
        have hv := hs.args _ _ hargs
        cases hl : c.args.toList with
        | nil => rw [hl] at hv; cases hv
        | cons x xs =>
          rw [hl] at hv
          have hca : (c.args.map a.eval).toList = a.eval x :: xs.map a.eval := by simp [hl]
          cases hv with
          | cons hv ht =>
            cases l with
            | nil =>
              simp only [mmL] at h; cases h
              refine ⟨_, hv, fun w => ?_⟩
              cases xs with
              | nil => simp [execOp, resolve, hcal, invoke, Go.builtin, Builtin.min_, hl]
              | cons => cases ht
            | cons y ys =>
              have := mmL_sound (P := P) false (y :: ys) _ v0 _ v ht hv h (by simp)
              refine ⟨v, VR.of_fl v this.1, fun w => ?_⟩
              have h2 := this.2 w
              simp only [Bool.false_eq_true, if_false] at h2
              simp only [execOp, resolve, hcal, invoke, Go.builtin, Builtin.min_, Sem.run_bind, Sem.run_pure, Result.andThen_ok, hca, h2]
      · cases h
    · cases h
  · cases h

end sound

/-! ### Part 6 -/
def CC (P : Program) (G : Glob) (n : Nat) (as : List Value) (h : List Blk) (K : Value → List Blk → Prop) : Prop :=
  (∃ fn, P.funcs[n]? = some fn ∧ (fn.name == "runtime.NumGoroutine") = false ∧ fn.body.isNone = false) ∧
  ∀ (ρ : List Ent) (w : World) (as' : List Value), HR G ρ h w → VRs ρ as as' → Calls P n as'.toArray w fun e w' =>
    ∃ ρ' r r' h', K r h' ∧ e = .returned r' ∧ VR ρ' r r' ∧ HR G ρ' h' w' ∧ Ext ρ ρ' w w'

theorem CC.mono {P : Program} {G : Glob} {n : Nat} {as : List Value} {h : List Blk} {K K' : Value → List Blk → Prop} (H : CC P G n as h K) (hk : ∀ r h', K r h' → K' r h') : CC P G n as h K' :=
  ⟨H.1, fun ρ w as' hr hv => (H.2 ρ w as' hr hv).mono fun _ _ ⟨ρ', r, r', h', a, b⟩ => ⟨ρ', r, r', h', hk r h' a, b⟩⟩

def methT (P : Program) (t : Nat) (name : String) : Option Nat :=
  match P.info? t with
  | some i => match i.methods.find? (·.name == name) with
    | some m => if m.path.toList = [] then (match m.func, P.underlying t with
      | some (f, true), some (.pointer _) => some f
      | some (f, false), some (.struct _) => some f
      | _, _ => none) else none
    | none => none
  | none => none

def bytesT (P : Program) (t : Nat) : Option Nat :=
  match P.info? t with
  | some i => some i.bytes
  | none => none

def srcCells (h : List Blk) (ad : Addr) (n : Nat) : Option (List Value) :=
  match h[ad.block]? with
  | some b => if ad.off + n ≤ b.c.length then some ((b.c.drop ad.off).take n) else none
  | none => none

/-- An element's type: its cells, its bytes, the cells of its zero. -/
def elemT (P : Program) (t : Nat) : Option (Nat × Nat × Nat × List Value) :=
  match P.underlying t with
  | some (.slice e) => match P.info? e with
    | some i => match i.zero with
      | some z => if (vcells z).length = i.size ∧ fls (vcells z) = true ∧ 0 < i.size then some (e, i.size, i.bytes, vcells z) else none
      | none => none
    | none => none
  | _ => none

def rep (n : Nat) (z : List Value) : List Value := (List.replicate n z).flatten

def appendStep (P : Program) (h : List Blk) (t : Nat) (sl xs : Value) (K : Value → List Blk → Prop) : Prop :=
  match elemT P t, sl, xs with
  | some _, .slice b n cap, .slice none 0 _ => n ≤ cap ∧ K (.slice b n cap) h
  | some (e, sz, by', _), .slice none 0 0, .slice (some ad) m _ =>
    ∃ news, srcCells h ad (m * sz) = some news ∧ news.all Value.oneCell' = true ∧ m * by' ≤ 140737488355328 ∧ m < 9223372036854775807 ∧
      (m = 0 → K (.slice none 0 0) h) ∧
      (0 < m → ∀ cap rest, m ≤ cap → rest.length = (cap - m) * sz → fls rest = true → K (.slice (some ⟨h.length, 0, none⟩) m cap) (h ++ [⟨true, e, news ++ rest⟩]))
  | some (e, sz, by', _), .slice (some a) n cap, .slice (some ad) m _ =>
    ∃ b news, a.off = 0 ∧ h[a.block]? = some b ∧ b.own = true ∧ b.T = e ∧ b.c.length = cap * sz ∧ n ≤ cap ∧ srcCells h ad (m * sz) = some news ∧ news.all Value.oneCell' = true ∧
      ((n + m ≤ cap ∧ K (.slice (some a) (n + m) cap) (h.set a.block ⟨true, e, b.c.take (n * sz) ++ news ++ b.c.drop ((n + m) * sz)⟩)) ∨
       ((n + m) * by' ≤ 140737488355328 ∧ n + m < 9223372036854775807 ∧ fls (b.c.drop (n * sz)) = true ∧
        ∀ cap' rest, n + m ≤ cap' → rest.length = (cap' - (n + m)) * sz → fls rest = true →
          K (.slice (some ⟨h.length, 0, none⟩) (n + m) cap') (h.set a.block ⟨false, 0, []⟩ ++ [⟨true, e, b.c.take (n * sz) ++ news ++ rest⟩])))
  | _, _, _ => False

def copyStep (P : Program) (h : List Blk) (t : Nat) (dst src : Value) (K : Value → List Blk → Prop) : Prop :=
  match elemT P t, dst, src with
  | some _, .slice _ _ _, .slice none 0 _ => K (.int .i64 0) h
  | some (e, sz, _, _), .slice (some a) dl _, .slice (some ad) sl _ =>
    ∃ b news, h[a.block]? = some b ∧ b.own = true ∧ srcCells h ad (min sl dl * sz) = some news ∧ news.all Value.oneCell' = true ∧ a.off + min sl dl * sz ≤ b.c.length ∧
      K (.int .i64 (min sl dl : Nat)) (h.set a.block { b with c := b.c.take a.off ++ news ++ b.c.drop (a.off + min sl dl * sz) })
  | _, _, _ => False

def clearStep (P : Program) (h : List Blk) (t : Nat) (x : Value) (K : Value → List Blk → Prop) : Prop :=
  match elemT P t, x with
  | some _, .slice none _ _ => K undef h
  | some (_, sz, _, z), .slice (some a) n _ =>
    ∃ b, h[a.block]? = some b ∧ b.own = true ∧ z.all Value.oneCell' = true ∧ a.off + n * sz ≤ b.c.length ∧
      K undef (h.set a.block { b with c := b.c.take a.off ++ rep n z ++ b.c.drop (a.off + n * sz) })
  | _, _ => False

def FlatRun (P : Program) (s : St) (o : Oper) (v : Value) : Prop :=
  (∀ x ∈ o.op.operands, ∃ u, s.ev x = some u ∧ fl u = true) ∧ fl v = true ∧ (∀ cs b, o.op ≠ .select cs b) ∧
  ∀ w, (execOp (fun x => (s.ev x).getD undef) o).run P w = .ok (.value v) w

def step (P : Program) (G : Glob) (s : St) (o : Oper) (K : Value → List Blk → Prop) : Prop :=
  match o.op with
  | .pick c a b => match s.ev c with
    | some (.bool cb) => (cb = true → ∃ v, s.ev a = some v ∧ K v s.h) ∧ (cb = false → ∃ v, s.ev b = some v ∧ K v s.h)
    | _ => False
  | .load t x => match s.ev x with
    | some (.pointer (some ad)) => ∃ v, loadV P s.h t ad.block ad.off = some v ∧ K v s.h
    | _ => False
  | .store t x y => match s.ev x, s.ev y with
    | some (.pointer (some ad)), some v => ∃ h', storeV P s.h t ad.block ad.off v = some h' ∧ K undef h'
    | _, _ => False
  | .alloc t => match zeroT P t with
    | some z => fl z = true ∧ K (.pointer (some ⟨s.h.length, 0, none⟩)) (s.h ++ [⟨true, t, vcells z⟩])
    | none => False
  | .box t x => match s.ev x with
    | some v => K (.pointer (some ⟨s.h.length, 0, none⟩)) (s.h ++ [⟨true, t, vcells v⟩])
    | none => False
  | .buildSlice t n parts => match elemT P t, partsEv s parts.toList with
    | some (e, sz, _, z), some ps => n * sz ≤ 16777216 ∧ ∃ c, fillC (fun i => some (i * sz, sz)) (rep n z) ps = some c ∧
        K (.slice (some ⟨s.h.length, 0, none⟩) n n) (s.h ++ [⟨true, e, c⟩])
    | _, _ => False
  | .makeSlice t l c => match elemT P t, s.ev l, s.ev c with
    | some (e, _, by', z), some (.int _ l), some (.int _ c) => 0 ≤ l ∧ l ≤ c ∧ c < 9223372036854775807 ∧ by' * c ≤ 281474976710656 ∧
        K (.slice (some ⟨s.h.length, 0, none⟩) l.toNat c.toNat) (s.h ++ [⟨true, e, rep c.toNat z⟩])
    | _, _, _ => False
  | .call c => match c.callee with
    | .value f => match s.ev f, argsEv s c.args.toList with
      | some (.func (.func n) ⟨[]⟩ ⟨[]⟩), some as => CC P G n as s.h K
      | _, _ => False
    | .invoke r name => match s.ev r, argsEv s c.args.toList with
      | some (.iface t v), some as => match methT P t name with
        | some n => CC P G n (v :: as) s.h K
        | none => False
      | _, _ => False
    | .builtin .append => match argsEv s c.args.toList, c.argTypes.toList with
      | some [sl, xs], [t, t'] => t = t' ∧ appendStep P s.h t sl xs K
      | _, _ => False
    | .builtin .copy => match argsEv s c.args.toList, c.argTypes.toList with
      | some [sl, xs], [t, _] => copyStep P s.h t sl xs K
      | _, _ => False
    | .builtin .clear => match argsEv s c.args.toList, c.argTypes.toList with
      | some [x], [t] => clearStep P s.h t x K
      | _, _ => False
    | _ => match pureV P s (.call c) with
      | some v => K v s.h
      | none => False
  | op => match pureV P s op with
    | some v => K v s.h
    | none => ∃ v, FlatRun P s o v ∧ K v s.h

/-! ### Part 7 -/
section sound
variable {P : Program} {G : Glob} {ρ : List Ent} {s : St} {a : Act} {w : World}

theorem HR.cells {h : List Blk} (H : HR G ρ h w) {k o n : Nat} {b : Blk} {e : Ent} (he : ρ[k]? = some e) (hb : h[k]? = some b) (hle : o + n ≤ b.c.length) :
    ∃ vs', VRs ρ ((b.c.drop o).take n) vs' ∧ ∀ j v, vs'[j]? = some v → w.cell? ⟨e.r, e.base + o + j, none⟩ = some v := by
  have key : ∀ (m : Nat), m ≤ n → ∃ vs', vs'.length = m ∧ VRs ρ ((b.c.drop o).take m) vs' ∧ ∀ j v, vs'[j]? = some v → w.cell? ⟨e.r, e.base + o + j, none⟩ = some v := by
    intro m
    induction m with
    | zero => intro _; exact ⟨[], rfl, by simpa using VRs.nil, by simp⟩
    | succ m ih =>
      intro hm
      obtain ⟨vs', h1, h2, h3⟩ := ih (by omega)
      have hlt : o + m < b.c.length := by omega
      obtain ⟨e', v', he', hc, hr⟩ := H.cell hb (List.getElem?_eq_getElem hlt)
      rw [he] at he'; cases he'
      refine ⟨vs' ++ [v'], by simp [h1], ?_, ?_⟩
      · rw [List.take_succ_eq_append_getElem (by simp; omega)]
        refine h2.append (.cons ?_ .nil)
        simpa using hr
      · intro j v hj
        by_cases hjm : j < vs'.length
        · rw [List.getElem?_append_left hjm] at hj; exact h3 j v hj
        · have hj' := (List.getElem?_eq_some_iff.1 hj).1
          simp at hj'
          have : j = vs'.length := by omega
          subst this
          simp at hj; subst hj
          rw [h1, Nat.add_assoc]; exact hc
  obtain ⟨vs', _, h2, h3⟩ := key n (Nat.le_refl _)
  exact ⟨vs', h2, h3⟩

theorem HR.src {h : List Blk} (H : HR G ρ h w) {ad : Addr} {n : Nat} {news : List Value} {e : Ent} (he : ρ[ad.block]? = some e) (hs : srcCells h ad n = some news) :
    ∃ vs', VRs ρ news vs' ∧ news.length = n ∧ ∀ j v, vs'[j]? = some v → w.cell? ⟨e.r, e.base + ad.off + j, none⟩ = some v := by
  unfold srcCells at hs
  split at hs
  · rename_i b hb
    split at hs
    · rename_i hle
      cases hs
      obtain ⟨vs', h1, h2⟩ := H.cells he hb hle
      exact ⟨vs', h1, by simp; omega, h2⟩
    · cases hs
  · cases hs

theorem elemT_spec {t e sz by' : Nat} {z : List Value} (h : elemT P t = some (e, sz, by', z)) :
    ∃ i zv, P.underlying t = some (.slice e) ∧ P.info? e = some i ∧ i.zero = some zv ∧ i.size = sz ∧ i.bytes = by' ∧ z = vcells zv ∧ z.length = sz ∧ fls z = true ∧ 0 < sz := by
  unfold elemT at h
  split at h
  · rename_i hu
    split at h
    · rename_i i hi
      split at h
      · rename_i zv hz
        split at h
        · rename_i hc
          cases h
          exact ⟨i, zv, hu, hi, hz, rfl, rfl, rfl, hc.1, hc.2.1, hc.2.2⟩
        · cases h
      · cases h
    · cases h
  · cases h

theorem fls_append : ∀ {l m : List Value}, fls l = true → fls m = true → fls (l ++ m) = true
  | [], _, _, h => h
  | v :: l, m, h, h' => by
    simp only [fls, Bool.and_eq_true] at h
    simp only [List.cons_append, fls, Bool.and_eq_true]
    exact ⟨h.1, fls_append h.2 h'⟩

theorem fls_rep (n : Nat) {z : List Value} (h : fls z = true) : fls (rep n z) = true := by
  induction n with
  | zero => rfl
  | succ n ih => simp only [rep, List.replicate_succ, List.flatten_cons] at ih ⊢; exact fls_append h ih

theorem rep_length (n : Nat) (z : List Value) : (rep n z).length = n * z.length := by
  induction n with
  | zero => simp [rep]
  | succ n ih => simp only [rep, List.replicate_succ, List.flatten_cons, List.length_append] at ih ⊢; rw [ih, Nat.succ_mul]; omega

theorem rep_get (z : List Value) (hz : 0 < z.length) : ∀ (n i : Nat), i < n * z.length → (rep n z)[i]? = z[i % z.length]?
  | 0, i, h => by simp at h
  | n + 1, i, h => by
    have e : rep (n + 1) z = z ++ rep n z := by simp [rep, List.replicate_succ]
    rw [e]
    by_cases hi : i < z.length
    · rw [List.getElem?_append_left hi, Nat.mod_eq_of_lt hi]
    · rw [List.getElem?_append_right (by omega), rep_get z hz n (i - z.length) (by rw [Nat.succ_mul] at h; omega)]
      congr 1
      conv => rhs; rw [show i = (i - z.length) + z.length by omega]
      simp

theorem row_eq (z : List Value) (hz : 0 < z.length) (n : Nat) :
    ((Array.range (n * z.length)).map (fun i => (⟨z⟩ : Array Value)[i % (⟨z⟩ : Array Value).size]!)) = ⟨rep n z⟩ := by
  apply Array.ext'
  apply List.ext_getElem?
  intro i
  by_cases hi : i < n * z.length
  · rw [rep_get z hz n i hi]
    have hm : i % z.length < z.length := Nat.mod_lt _ hz
    simp [hi, hm]
  · rw [List.getElem?_eq_none (by simp; omega), List.getElem?_eq_none (by rw [rep_length]; omega)]

/-- What a step's sound outcome is. -/
theorem pure_out {o : Oper} {K : Value → List Blk → Prop} {next : Act → World → Prop} {Q : Exit → Act → World → Prop} (hs : SR G ρ s a w)
    {v : Value} (hv : pureV P s o.op = some v) (hK : K v s.h)
    (hn : ∀ ρ' v v' h' w', K v h' → VR ρ' v v' → HR G ρ' h' w' → Ext ρ ρ' w w' → next (a.put o.dst v') w') : o.wp P a w next Q := by
  obtain ⟨v', h1, h2⟩ := pureV_sound hs hv
  unfold Oper.wp
  rw [h2 w]
  exact hn ρ v v' s.h w hK h1 hs.h (Ext.refl _ _)

theorem flat_out {o : Oper} {K : Value → List Blk → Prop} {next : Act → World → Prop} {Q : Exit → Act → World → Prop} (hs : SR G ρ s a w)
    {v : Value} (hv : FlatRun P s o v) (hK : K v s.h)
    (hn : ∀ ρ' v v' h' w', K v h' → VR ρ' v v' → HR G ρ' h' w' → Ext ρ ρ' w w' → next (a.put o.dst v') w') : o.wp P a w next Q := by
  obtain ⟨h1, h2, h3, h4⟩ := hv
  have e1 : execOp a.eval o = execOp (fun x => (s.ev x).getD undef) o := execOp_congr o h3 fun x hx => by
    obtain ⟨u, hu, hf⟩ := h1 x hx
    rw [hu, Option.getD_some]
    exact (hs.ev hu).flat hf
  unfold Oper.wp
  rw [e1, h4 w]
  exact hn ρ v v s.h w hK (VR.of_fl v h2) hs.h (Ext.refl _ _)

theorem undef_VR : VR ρ undef undef := .tuple .nil

theorem addr_eq {ad : Addr} {v' : Value} (h : VR ρ (.pointer (some ad)) v') : ∃ e, ρ[ad.block]? = some e ∧ v' = .pointer (some ⟨e.r, e.base + ad.off, none⟩) := by
  cases h with
  | ptr o h => exact ⟨_, h, rfl⟩

theorem slice_eq {ad : Addr} {l c : Nat} {v' : Value} (h : VR ρ (.slice (some ad) l c) v') : ∃ e, ρ[ad.block]? = some e ∧ v' = .slice (some ⟨e.r, e.base + ad.off, none⟩) l c := by
  cases h with
  | slice o l c h => exact ⟨_, h, rfl⟩

theorem args2 {args : Array Operand} {v1 v2 : Value} (hs : SR G ρ s a w) (h : argsEv s args.toList = some [v1, v2]) : ∃ x y, args = #[x, y] ∧ s.ev x = some v1 ∧ s.ev y = some v2 := by
  obtain ⟨l⟩ := args
  match l, h with
  | [x, y], h =>
    simp only [argsEv] at h
    split at h
    · rename_i a b ha hb
      cases h
      split at hb
      · rename_i c d hc hd
        cases hb
        exact ⟨x, y, rfl, ha, hc⟩
      · cases hb
    · cases h
  | [], h => simp [argsEv] at h
  | [x], h =>
    simp only [argsEv] at h
    split at h
    · rename_i ha hb; cases h; cases hb
    · cases h
  | x :: y :: z :: l, h =>
    simp only [argsEv] at h
    split at h
    · rename_i a b ha hb
      cases h
      split at hb
      · rename_i c d hc hd
        cases hb
        split at hd
        · cases hd
        · cases hd
      · cases hb
    · cases h

theorem args1 {args : Array Operand} {v1 : Value} (hs : SR G ρ s a w) (h : argsEv s args.toList = some [v1]) : ∃ x, args = #[x] ∧ s.ev x = some v1 := by
  obtain ⟨l⟩ := args
  match l, h with
  | [x], h =>
    simp only [argsEv] at h
    split at h
    · rename_i a b ha hb
      cases h
      exact ⟨x, rfl, ha⟩
    · cases h
  | [], h => simp [argsEv] at h
  | x :: y :: l, h =>
    simp only [argsEv] at h
    split at h
    · rename_i a b ha hb
      cases h
      split at hb
      · cases hb
      · cases hb
    · cases h

theorem types2 {ts : Array TypeId} {t u : Nat} (h : ts.toList = [t, u]) : ts = #[t, u] := by
  rw [← Array.toArray_toList (xs := ts), h]
theorem types1 {ts : Array TypeId} {t : Nat} (h : ts.toList = [t]) : ts = #[t] := by
  rw [← Array.toArray_toList (xs := ts), h]

theorem SR.same {w' : World} (hs : SR G ρ s a w) (h : w'.heap = w.heap) : SR G ρ s a w' := ⟨hs.d, hs.t, hs.h.same h⟩

theorem Ext.drew : Ext ρ ρ w w.drew := ⟨⟨[], by simp⟩, Nat.le_refl _, rfl, rfl, rfl, fun _ _ _ => rfl⟩

/-- A block is let go. -/
theorem HR.dead {h : List Blk} (H : HR G ρ h w) (k : Nat) : HR G ρ (h.set k ⟨false, 0, []⟩) w := by
  refine ⟨by simp [H.len], fun q e b he hb => ?_, fun i j ei ej bi bj hij hi hj hbi hbj ho hne => ?_, H.old, H.ng, H.nw, H.glob⟩
  · by_cases hq : q = k
    · subst hq
      have hlt : q < h.length := by have := (List.getElem?_eq_some_iff.1 hb).1; simpa using this
      rw [List.getElem?_set_self hlt] at hb; cases hb
      exact .inr ⟨rfl, by simp⟩
    · rw [List.getElem?_set_ne (fun h => hq h.symm)] at hb
      exact H.blk q e b he hb
  · have fix : ∀ {q : Nat} {bq : Blk}, (h.set k ⟨false, 0, []⟩)[q]? = some bq → (bq.own = true ∨ bq.c ≠ []) → h[q]? = some bq := by
      intro q bq hq hne
      by_cases hqk : q = k
      · subst hqk
        have hlt : q < h.length := by have := (List.getElem?_eq_some_iff.1 hq).1; simpa using this
        rw [List.getElem?_set_self hlt] at hq; cases hq
        simp at hne
      · rwa [List.getElem?_set_ne (fun h => hqk h.symm)] at hq
    exact H.sep i j ei ej bi bj hij hi hj (fix hbi (.inl ho)) (fix hbj hne) ho hne

/-- A block under a new name: the old name's block is let go. -/
theorem HR.rename {h : List Blk} (H : HR G ρ h w) {k : Nat} {b : Blk} {e : Ent} (he : ρ[k]? = some e) (hk : h[k]? = some b) (ho : b.own = true) :
    HR G (ρ ++ [e]) (h.set k ⟨false, 0, []⟩ ++ [b]) w ∧ Ext ρ (ρ ++ [e]) w w := by
  obtain ⟨e', c', he', hown, hbase, hheap, hc⟩ := H.own hk ho
  rw [he] at he'; cases he'
  have hp : Pre ρ (ρ ++ [e]) := ⟨_, rfl⟩
  have hd := H.dead k
  have hl := H.len
  have hl2 : (h.set k ⟨false, 0, []⟩).length = ρ.length := by simp [hl]
  have hklt := (List.getElem?_eq_some_iff.1 hk).1
  refine ⟨⟨by simp [hl], ?_, ?_, ?_, ?_, H.nw, H.glob⟩, ⟨⟨_, rfl, fun x hx => .inr ⟨e, List.mem_of_getElem? he, hown, by simp at hx; rw [hx]⟩⟩, Nat.le_refl _, rfl, rfl, rfl, fun _ _ _ => rfl⟩⟩
  · intro q eq bq hq hbq
    by_cases hlt : q < ρ.length
    · rw [List.getElem?_append_left hlt] at hq
      rw [List.getElem?_append_left (by omega)] at hbq
      exact (hd.blk q eq bq hq hbq).mono hp
    · have : q = ρ.length := by have := (List.getElem?_eq_some_iff.1 hq).1; simp at this; omega
      subst this
      simp at hq; subst hq
      rw [← hl2] at hbq; simp at hbq; subst hbq
      exact .inl ⟨ho, hown, hbase, c', hheap, hc.mono hp⟩
  · intro i j ei ej bi bj hij hi hj hbi hbj hoi hne
    have cases' : ∀ {q : Nat} {eq : Ent} {bq : Blk}, (ρ ++ [e])[q]? = some eq → (h.set k ⟨false, 0, []⟩ ++ [b])[q]? = some bq → (bq.own = true ∨ bq.c ≠ []) →
        (q = ρ.length ∧ eq = e ∧ bq = b) ∨ (q < ρ.length ∧ q ≠ k ∧ ρ[q]? = some eq ∧ h[q]? = some bq) := by
      intro q eq bq hq hbq hne
      by_cases hlt : q < ρ.length
      · right
        rw [List.getElem?_append_left hlt] at hq
        rw [List.getElem?_append_left (by omega)] at hbq
        by_cases hqk : q = k
        · subst hqk
          rw [List.getElem?_set_self hklt] at hbq; cases hbq
          simp at hne
        · rw [List.getElem?_set_ne (fun h => hqk h.symm)] at hbq
          exact ⟨hlt, hqk, hq, hbq⟩
      · left
        have : q = ρ.length := by have := (List.getElem?_eq_some_iff.1 hq).1; simp at this; omega
        subst this
        simp at hq
        rw [← hl2] at hbq; simp at hbq
        exact ⟨rfl, hq.symm, hbq.symm⟩
    rcases cases' hi hbi (.inl hoi) with ⟨i1, i2, i3⟩ | ⟨i1, i2, i3, i4⟩ <;> rcases cases' hj hbj hne with ⟨j1, j2, j3⟩ | ⟨j1, j2, j3, j4⟩
    · omega
    · subst i2; subst i3
      exact H.sep k j ei ej bi bj (fun h => j2 h.symm) he j3 hk j4 hoi hne
    · subst j2; subst j3
      exact H.sep i k ei ej bi bj i2 i3 he i4 hk hoi hne
    · exact H.sep i j ei ej bi bj hij i3 j3 i4 j4 hoi hne
  · intro q eq hq
    by_cases hlt : q < ρ.length
    · rw [List.getElem?_append_left hlt] at hq; exact H.old q eq hq
    · have : q = ρ.length := by have := (List.getElem?_eq_some_iff.1 hq).1; simp at this; omega
      subst this; simp at hq; subst hq; exact H.old k e he
  · intro q eq hq hoq
    by_cases hlt : q < ρ.length
    · rw [List.getElem?_append_left hlt] at hq; exact H.ng q eq hq hoq
    · have : q = ρ.length := by have := (List.getElem?_eq_some_iff.1 hq).1; simp at this; omega
      subst this; simp at hq; subst hq; exact H.ng k e he hoq

end sound

/-! ### Part 8 -/
section sound
variable {P : Program} {G : Glob} {ρ : List Ent} {s : St} {a : Act} {w : World}

theorem slice_spot {ad : Addr} {l c : Nat} {v' : Value} (h : VR ρ (.slice (some ad) l c) v') : ad = ⟨ad.block, ad.off, none⟩ := by
  cases h; rfl
theorem ptr_spot {ad : Addr} {v' : Value} (h : VR ρ (.pointer (some ad)) v') : ad = ⟨ad.block, ad.off, none⟩ := by
  cases h; rfl

theorem append_out {t : Nat} {sl xs sl' xs' : Value} {K : Value → List Blk → Prop} (H : HR G ρ s.h w) (h1 : VR ρ sl sl') (h2 : VR ρ xs xs')
    (h : appendStep P s.h t sl xs K) (ty : TypeId) :
    ∃ v v' ρ' h' w', (Builtin.append_ #[t, t] ty #[sl', xs']).run P w = .ok v' w' ∧ K v h' ∧ VR ρ' v v' ∧ HR G ρ' h' w' ∧ Ext ρ ρ' w w' := by
  unfold appendStep at h
  split at h
  · rename_i x b n cap l ht
    obtain ⟨e, sz, by', z⟩ := x
    obtain ⟨i, zv, hu, hi, hz, hsz, hby, hzc, hzl, hzf, hpos⟩ := elemT_spec ht
    obtain ⟨hle, hK⟩ := h
    refine ⟨_, sl', ρ, s.h, w, ?_, hK, h1, H, Ext.refl _ _⟩
    cases h2
    cases h1 <;> simp [Builtin.append_, run_underlying hu, sizeOf, typeInfo, hi, Builtin.lenOf, Builtin.firstCells, hle, storeCells]
  · rename_i e sz by' z ad m c ht
    obtain ⟨i, zv, hu, hi, hz, hsz, hby, hzc, hzl, hzf, hpos⟩ := elemT_spec ht
    obtain ⟨news, hsrc, hone, hbytes, h63, hm0, hK⟩ := h
    cases h1
    obtain ⟨e', he', rfl⟩ := slice_eq h2
    obtain ⟨vs', hvs, hlen, hcell⟩ := H.src he' hsrc
    have hl' := hvs.length
    by_cases hm : m = 0
    · subst hm
      refine ⟨_, .slice none 0 0, ρ, s.h, w, ?_, hm0 rfl, .snil _ _, H, Ext.refl _ _⟩
      simp [Builtin.append_, run_underlying hu, sizeOf, typeInfo, hi, Builtin.lenOf, Builtin.firstCells, loadCells, loadCellsFrom]
    · have hr := run_append_nil (P := P) w t ty e i zv hu hi hz ⟨e'.r, e'.base + ad.off, none⟩ m c vs' (by rw [← hl', hlen, hsz]) (fun j v hj => by rw [add_eq]; exact hcell j v hj) (by omega) (by omega) (by rw [hby]; omega)
      have hge := grownCap_ge w m 0 e
      have hz2 : Builtin.zeroCells zv.cells (grownCap w m 0 e - m) = ⟨rep (grownCap w m 0 e - m) z⟩ := by
        have e1 : zv.cells = ⟨z⟩ := by rw [hzc, ← vcells_eq]
        rw [e1]
        exact row_eq z (by omega) _
      rw [hz2, show (vs'.toArray ++ ⟨rep (grownCap w m 0 e - m) z⟩ : Array Value) = ⟨vs' ++ rep (grownCap w m 0 e - m) z⟩ by simp] at hr
      have hdr := HR.same (w := w) (w' := w.drew) rfl H
      obtain ⟨a1, a2⟩ := hdr.alloc (T := e) (c := news ++ rep (grownCap w m 0 e - m) z) (c' := vs' ++ rep (grownCap w m 0 e - m) z) (hvs.append (VRs.of_fl _ (fls_rep _ hzf)))
      refine ⟨_, _, _, _, _, hr, hK (by omega) _ (rep (grownCap w m 0 e - m) z) hge (by rw [rep_length, hzl]) (fls_rep _ hzf), ?_, ?_, Ext.trans Ext.drew a2⟩
      · exact VR.slice (e := ⟨w.heap.size, 0, true⟩) 0 _ _ (by rw [← H.len]; simp)
      · exact a1
  · rename_i e sz by' z a0 n cap ad m c ht
    obtain ⟨i, zv, hu, hi, hz, hsz, hby, hzc, hzl, hzf, hpos⟩ := elemT_spec ht
    obtain ⟨b, news, hoff, hb, hown, hT, hcl, hncap, hsrc, hone, hK⟩ := h
    have hspot := slice_spot h1
    obtain ⟨eb, heb, rfl⟩ := slice_eq h1
    obtain ⟨e', he', rfl⟩ := slice_eq h2
    obtain ⟨vs', hvs, hlen, hcell⟩ := H.src he' hsrc
    have hl' := hvs.length
    obtain ⟨eb', c0, heb', hown', hbase, hheap, hc0⟩ := H.own hb hown
    rw [heb] at heb'; cases heb'
    have hc0l := hc0.length
    subst hT
    have hbaddr : (⟨eb.r, eb.base + a0.off, none⟩ : Addr) = ⟨eb.r, 0, none⟩ := by rw [hbase, hoff]
    rw [hbaddr]
    have hmul : (n + m) * sz = n * sz + m * sz := Nat.add_mul _ _ _
    by_cases hroom : n + m ≤ cap
    · have hcap : (n + m) * sz ≤ cap * sz := Nat.mul_le_mul_right _ hroom
      have hr := run_append_room (P := P) w t ty b.T i hu hi eb.r n cap ⟨c0⟩ hheap ⟨e'.r, e'.base + ad.off, none⟩ m c vs' (by rw [← hl', hlen, hsz]) (fun j v hj => by rw [add_eq]; exact hcell j v hj)
        (fun u hu => List.all_eq_true.1 (hvs.all1 hone) u hu) hroom (by simp; rw [hsz]; omega)
      rw [hsz] at hr
      have hnl : vs'.length = m * sz := by omega
      rw [hnl, ← hmul] at hr
      have hrow : VRs ρ (b.c.take (n * sz) ++ news ++ b.c.drop ((n + m) * sz)) (c0.take (n * sz) ++ vs' ++ c0.drop ((n + m) * sz)) := ((hc0.take _).append hvs).append (hc0.drop _)
      obtain ⟨a1, a2⟩ := H.row heb hb hown hrow
      rcases hK with ⟨_, hK⟩ | ⟨_, _, hfl, hK⟩
      · refine ⟨_, _, ρ, _, _, hr, hK, ?_, ?_, a2⟩
        · have := VR.slice (ρ := ρ) (k := a0.block) a0.off (n + m) cap heb
          rw [hbaddr, ← hspot] at this
          exact this
        · have e1 : b = ⟨true, b.T, b.c⟩ := by obtain ⟨o, T, cc⟩ := b; simp at hown; subst hown; rfl
          rw [e1] at a1
          exact a1
      · have hb2 : (s.h.set a0.block { b with c := b.c.take (n * sz) ++ news ++ b.c.drop ((n + m) * sz) })[a0.block]? = some { b with c := b.c.take (n * sz) ++ news ++ b.c.drop ((n + m) * sz) } := by
          rw [List.getElem?_set_self (List.getElem?_eq_some_iff.1 hb).1]
        obtain ⟨a3, a4⟩ := a1.rename heb hb2 hown
        have hdrop : (b.c.drop ((n + m) * sz)).length = (cap - (n + m)) * sz := by
          rw [List.length_drop, hcl, Nat.sub_mul]
        have hfd : fls (b.c.drop ((n + m) * sz)) = true := by
          have : b.c.drop ((n + m) * sz) = (b.c.drop (n * sz)).drop (m * sz) := by rw [List.drop_drop, hmul]
          rw [this]
          have gen : ∀ (l : List Value) (q : Nat), fls l = true → fls (l.drop q) = true := by
            intro l
            induction l with
            | nil => intro q _; simp [fls]
            | cons x l ih =>
              intro q hl
              cases q with
              | zero => exact hl
              | succ q => simp only [fls, Bool.and_eq_true] at hl; simpa using ih q hl.2
          exact gen _ _ hfl
        refine ⟨_, _, _, _, _, hr, hK cap _ hroom hdrop hfd, ?_, ?_, a2.trans a4⟩
        · have := VR.slice (ρ := ρ ++ [eb]) (k := s.h.length) (e := eb) 0 (n + m) cap (by rw [← H.len]; simp)
          rw [hbase] at this
          exact this
        · have e1 : b = ⟨true, b.T, b.c⟩ := by obtain ⟨o, T, cc⟩ := b; simp at hown; subst hown; rfl
          rw [List.set_set] at a3
          rw [e1] at a3
          exact a3
    · rcases hK with ⟨h0, _⟩ | ⟨hbytes, h63, hfl, hK⟩
      · exact absurd h0 hroom
      · have hns : n * sz ≤ cap * sz := Nat.mul_le_mul_right _ hncap
        obtain ⟨os', hos, hoc⟩ := H.cells (o := 0) (n := n * sz) heb hb (by omega)
        simp only [List.drop_zero] at hos
        have hol := hos.length
        have hnsc : Builtin.nextslicecap (n + m) cap * i.bytes ≤ 281474976710656 := by
          rw [hby]; exact growslice_fits (by omega) hbytes
        have hr := run_append_grow (P := P) w t ty b.T i zv hu hi hz ⟨eb.r, 0, none⟩ n cap os' (by rw [← hol, hsz]; simp; omega) (fun j v hj => by rw [add_eq]; have := hoc j v hj; rw [hbase] at this; simpa using this)
          ⟨e'.r, e'.base + ad.off, none⟩ m c vs' (by rw [← hl', hlen, hsz]) (fun j v hj => by rw [add_eq]; exact hcell j v hj) (by omega) (by omega) hnsc
        have hge := grownCap_ge w (n + m) cap b.T
        have hz2 : Builtin.zeroCells zv.cells (grownCap w (n + m) cap b.T - (n + m)) = ⟨rep (grownCap w (n + m) cap b.T - (n + m)) z⟩ := by
          have e1 : zv.cells = ⟨z⟩ := by rw [hzc, ← vcells_eq]
          rw [e1]
          exact row_eq z (by omega) _
        rw [hz2, show (os'.toArray ++ vs'.toArray ++ ⟨rep (grownCap w (n + m) cap b.T - (n + m)) z⟩ : Array Value) = ⟨os' ++ vs' ++ rep (grownCap w (n + m) cap b.T - (n + m)) z⟩ by simp] at hr
        have hdr := (HR.same (w := w) (w' := w.drew) rfl H).dead a0.block
        obtain ⟨a1, a2⟩ := hdr.alloc (T := b.T) (c := b.c.take (n * sz) ++ news ++ rep (grownCap w (n + m) cap b.T - (n + m)) z)
          (c' := os' ++ vs' ++ rep (grownCap w (n + m) cap b.T - (n + m)) z) ((hos.append hvs).append (VRs.of_fl _ (fls_rep _ hzf)))
        refine ⟨_, _, _, _, _, hr, hK _ (rep (grownCap w (n + m) cap b.T - (n + m)) z) hge (by rw [rep_length, hzl]) (fls_rep _ hzf), ?_, ?_, Ext.trans Ext.drew a2⟩
        · exact VR.slice (e := ⟨w.heap.size, 0, true⟩) 0 _ _ (by rw [← H.len]; simp)
        · exact a1
  · exact h.elim

theorem copy_out {t u : Nat} {dst src dst' src' : Value} {K : Value → List Blk → Prop} (H : HR G ρ s.h w) (h1 : VR ρ dst dst') (h2 : VR ρ src src')
    (h : copyStep P s.h t dst src K) (ty : TypeId) :
    ∃ v v' ρ' h' w', (Builtin.copy_ #[t, u] ty #[dst', src']).run P w = .ok v' w' ∧ K v h' ∧ VR ρ' v v' ∧ HR G ρ' h' w' ∧ Ext ρ ρ' w w' := by
  unfold copyStep at h
  split at h
  · rename_i x b n cap l ht
    obtain ⟨e, sz, by', z⟩ := x
    obtain ⟨i, zv, hu, hi, hz, hsz, hby, hzc, hzl, hzf, hpos⟩ := elemT_spec ht
    refine ⟨_, .int .i64 0, ρ, s.h, w, ?_, h, .int _ _, H, Ext.refl _ _⟩
    cases h2
    cases h1 <;> simp [Builtin.copy_, run_underlying hu, sizeOf, typeInfo, hi, Builtin.lenOf, Builtin.firstCells, storeCells, goInt]
  · rename_i e sz by' z a0 n cap ad m c ht
    obtain ⟨i, zv, hu, hi, hz, hsz, hby, hzc, hzl, hzf, hpos⟩ := elemT_spec ht
    obtain ⟨b, news, hb, hown, hsrc, hone, hfit, hK⟩ := h
    obtain ⟨eb, heb, rfl⟩ := slice_eq h1
    obtain ⟨e', he', rfl⟩ := slice_eq h2
    obtain ⟨vs', hvs, hlen, hcell⟩ := H.src he' hsrc
    have hl' := hvs.length
    have hld := run_loadCells_list (P := P) w ⟨e'.r, e'.base + ad.off, none⟩ vs' (fun j v hj => by rw [add_eq]; exact hcell j v hj)
    obtain ⟨w', a1, a2, a3⟩ := run_storeCells_own (P := P) H heb hb hown (o := a0.off) (vs := news) (vs' := vs') (by omega) hvs hone
    rw [hlen] at a2
    refine ⟨_, .int .i64 (min m n : Nat), ρ, _, w', ?_, hK, .int _ _, a2, a3⟩
    have hmin : Nat.min m n = min m n := rfl
    have hln : vs'.length = min m n * sz := by omega
    rw [hln] at hld
    simp [Builtin.copy_, run_underlying hu, Builtin.lenOf, Builtin.firstCells, sizeOf, typeInfo, hi, hsz, hmin, hld, a1, goInt]
  · exact h.elim

theorem clear_out {t : Nat} {x x' : Value} {K : Value → List Blk → Prop} (H : HR G ρ s.h w) (h1 : VR ρ x x')
    (h : clearStep P s.h t x K) (ty : TypeId) :
    ∃ v v' ρ' h' w', (Builtin.clear_ #[t] ty #[x']).run P w = .ok v' w' ∧ K v h' ∧ VR ρ' v v' ∧ HR G ρ' h' w' ∧ Ext ρ ρ' w w' := by
  unfold clearStep at h
  split at h
  · rename_i x l c ht
    obtain ⟨e, sz, by', z⟩ := x
    obtain ⟨i, zv, hu, hi, hz, hsz, hby, hzc, hzl, hzf, hpos⟩ := elemT_spec ht
    refine ⟨_, undef, ρ, s.h, w, ?_, h, undef_VR, H, Ext.refl _ _⟩
    cases h1
    simp [Builtin.clear_, run_underlying hu, undef]
  · rename_i e sz by' z a0 n cap ht
    obtain ⟨i, zv, hu, hi, hz, hsz, hby, hzc, hzl, hzf, hpos⟩ := elemT_spec ht
    obtain ⟨b, hb, hown, hone, hfit, hK⟩ := h
    obtain ⟨eb, heb, rfl⟩ := slice_eq h1
    have hrl : (rep n z).length = n * sz := by rw [rep_length, hzl]
    have hra : (rep n z).all Value.oneCell' = true := by
      rw [List.all_eq_true] at hone ⊢
      intro v hv
      obtain ⟨l, hl1, hl2⟩ := List.mem_flatten.1 hv
      rw [(List.mem_replicate.1 hl1).2] at hl2
      exact hone v hl2
    obtain ⟨w', a1, a2, a3⟩ := run_storeCells_own (P := P) H heb hb hown (o := a0.off) (vs := rep n z) (vs' := rep n z) (by omega) (VRs.of_fl _ (fls_rep _ hzf)) hra
    rw [hrl] at a2
    refine ⟨_, undef, ρ, _, w', ?_, hK, undef_VR, a2, a3⟩
    have hz2 : Builtin.zeroCells zv.cells n = ⟨rep n z⟩ := by
      have e1 : zv.cells = ⟨z⟩ := by rw [hzc, ← vcells_eq]
      rw [e1]
      exact row_eq z (by omega) _
    by_cases hn : n = 0
    · subst hn
      simp only [rep, List.replicate_zero, List.flatten_nil] at a1
      have : w' = w := by simp [storeCells] at a1; exact a1.symm
      subst this
      simp [Builtin.clear_, run_underlying hu, undef]
    · simp only [Builtin.clear_, Sem.run_bind, run_underlying hu, Result.andThen_ok]
      cases n with
      | zero => exact absurd rfl hn
      | succ n => simp [run_underlying hu, zeroValue, typeInfo, hi, hz, hz2, a1, undef]
  · exact h.elim

end sound

/-! ### Part 9 -/
section sound
variable {P : Program} {G : Glob} {ρ : List Ent} {s : St} {a : Act} {w : World}

theorem methT_run {t n : Nat} {name : String} {v : Value} (h : methT P t name = some n) : (method (P.types.size + Made.depth) t v name).run P w = .ok (n, v) w := by
  unfold methT at h
  split at h
  · rename_i i hi
    split at h
    · rename_i m hm
      split at h
      · rename_i hp
        have hd : P.types.size + Made.depth = (P.types.size + (Made.depth - 1)) + 1 := rfl
        split at h
        · rename_i f e h1 hu
          cases h
          rw [hd]
          simp [method, typeInfo, hi, hm, hp, follow, h1, receiverAt, run_underlying hu, Place.get]
        · rename_i f fs h1 hu
          cases h
          rw [hd]
          simp [method, typeInfo, hi, hm, hp, follow, h1, receiverAt, run_underlying hu, Place.get]
        · cases h
      · cases h
    · cases h
  · cases h

theorem call_out {n : Nat} {as as' : List Value} {K : Value → List Blk → Prop} {next : Act → World → Prop} {Q : Exit → Act → World → Prop} {o : Oper}
    (H : HR G ρ s.h w) (hv : VRs ρ as as') (h : CC P G n as s.h K)
    (hrun : (execOp a.eval o).run P w = (callFunc n as'.toArray).run P w)
    (hn : ∀ ρ' v v' h' w', K v h' → VR ρ' v v' → HR G ρ' h' w' → Ext ρ ρ' w w' → next (a.put o.dst v') w') : o.wp P a w next Q := by
  obtain ⟨⟨fn, hf, hname, hbody⟩, hc⟩ := h
  have hr : (callFunc n as'.toArray).run P w = .ok (.enter n as'.toArray) w := by
    simp only [callFunc, Sem.run_bind, run_program, Result.andThen_ok, hf, hname, hbody, Bool.false_eq_true, if_false, Sem.run_pure]
  unfold Oper.wp
  rw [hrun, hr, Oper.upon_enter]
  refine (hc ρ w as' H hv).mono fun e w' hh => ?_
  obtain ⟨ρ', r, r', h', hK, rfl, hvr, hhr, hext⟩ := hh
  exact hn ρ' r r' h' w' hK hvr hhr hext

theorem step_sound {o : Oper} {K : Value → List Blk → Prop} {next : Act → World → Prop} {Q : Exit → Act → World → Prop} (hs : SR G ρ s a w) (h : step P G s o K)
    (hn : ∀ ρ' v v' h' w', K v h' → VR ρ' v v' → HR G ρ' h' w' → Ext ρ ρ' w w' → next (a.put o.dst v') w') : o.wp P a w next Q := by
  obtain ⟨dst, op, ty, pos, af, gd⟩ := o
  unfold step at h
  split at h <;> rename_i hop <;> simp only at hop
  · rename_i c x y
    subst hop
    split at h
    · rename_i cb hc
      have hv := hs.ev hc
      have hcv : a.eval c = .bool cb := by
        generalize a.eval c = u at hv
        cases hv; rfl
      cases cb with
      | true =>
        obtain ⟨v, h1, hK⟩ := h.1 rfl
        have hr : (execOp a.eval ⟨dst, .pick c x y, ty, pos, af, gd⟩).run P w = .ok (.value (a.eval x)) w := by simp [execOp, hcv, asBool]
        unfold Oper.wp; rw [hr]
        exact hn ρ v _ s.h w hK (hs.ev h1) hs.h (Ext.refl _ _)
      | false =>
        obtain ⟨v, h1, hK⟩ := h.2 rfl
        have hr : (execOp a.eval ⟨dst, .pick c x y, ty, pos, af, gd⟩).run P w = .ok (.value (a.eval y)) w := by simp [execOp, hcv, asBool]
        unfold Oper.wp; rw [hr]
        exact hn ρ v _ s.h w hK (hs.ev h1) hs.h (Ext.refl _ _)
    · exact h.elim
  · rename_i t x
    subst hop
    split at h
    · rename_i ad hx
      obtain ⟨v, h1, hK⟩ := h
      obtain ⟨e, he, hx'⟩ := addr_eq (hs.ev hx)
      obtain ⟨v', hr, hvr⟩ := partC_sound hs.h he h1
      have hr2 : (execOp a.eval ⟨dst, .load t x, ty, pos, af, gd⟩).run P w = .ok (.value v') w := by simp [execOp, hx', hr]
      unfold Oper.wp; rw [hr2]
      exact hn ρ v v' s.h w hK hvr hs.h (Ext.refl _ _)
    · exact h.elim
  · rename_i t x y
    subst hop
    split at h
    · rename_i ad v hx hy
      obtain ⟨h', h1, hK⟩ := h
      obtain ⟨e, he, hx'⟩ := addr_eq (hs.ev hx)
      obtain ⟨w', hr, hh, hext⟩ := store_sound (P := P) hs.h he (hs.ev hy) h1
      have hr2 : (execOp a.eval ⟨dst, .store t x y, ty, pos, af, gd⟩).run P w = .ok .skip w' := by simp [execOp, hx', hr]
      unfold Oper.wp; rw [hr2]
      exact hn ρ undef undef h' w' hK undef_VR hh hext
    · exact h.elim
  · rename_i t
    subst hop
    split at h
    · rename_i z hz
      obtain ⟨hf, hK⟩ := h
      unfold zeroT at hz
      split at hz
      · rename_i i hi
        obtain ⟨w', ρ', hr, hh, hext, hk⟩ := alloc_sound (P := P) hs.h t (VRs.of_fl (vcells z) (by
          have := hf
          cases z <;> first | (simpa [vcells, fl, fls] using this) | (simp [fl] at this)))
        have hr2 : (execOp a.eval ⟨dst, .alloc t, ty, pos, af, gd⟩).run P w = .ok (.value (.pointer (some ⟨w.heap.size, 0, none⟩))) w' := by
          have e1 : z.cells = ⟨vcells z⟩ := by rw [← vcells_eq]
          simp [execOp, Instr.alloc, zeroValue, typeInfo, hi, hz, newVar, e1, hr]
        unfold Oper.wp; rw [hr2]
        exact hn ρ' _ _ _ w' hK (VR.ptr (e := ⟨w.heap.size, 0, true⟩) 0 hk) hh hext
      · cases hz
    · exact h.elim
  · rename_i t x
    subst hop
    split at h
    · rename_i v hx
      have hv := hs.ev hx
      obtain ⟨w', ρ', hr, hh, hext, hk⟩ := alloc_sound (P := P) hs.h t hv.vcells
      have hr2 : (execOp a.eval ⟨dst, .box t x, ty, pos, af, gd⟩).run P w = .ok (.value (.pointer (some ⟨w.heap.size, 0, none⟩))) w' := by
        have e1 : (a.eval x).cells = ⟨vcells (a.eval x)⟩ := by rw [← vcells_eq]
        simp [execOp, Instr.box, newVar, e1, hr]
      unfold Oper.wp; rw [hr2]
      exact hn ρ' _ _ _ w' h (VR.ptr (e := ⟨w.heap.size, 0, true⟩) 0 hk) hh hext
    · exact h.elim
  · rename_i t n parts
    subst hop
    split at h
    · rename_i e sz by' z ps ht hps
      obtain ⟨i, zv, hu, hi, hz, hsz, hby, hzc, hzl, hzf, hpos⟩ := elemT_spec ht
      obtain ⟨hle, c, hc, hK⟩ := h
      have hpr := hs.parts _ _ hps
      obtain ⟨d', h1, h2⟩ := fill_sound _ _ _ _ _ _ hpr (VRs.of_fl _ (fls_rep n hzf)) hc
      obtain ⟨w', ρ', hr, hh, hext, hk⟩ := alloc_sound (P := P) hs.h e h2
      have hpl : (parts.map fun x => (x.1, a.eval x.2)).toList = parts.toList.map fun x => (x.1, a.eval x.2) := by simp
      have e1 : zv.cells = ⟨z⟩ := by rw [hzc, ← vcells_eq]
      have hrow := row_eq z (by omega) n
      rw [hzl] at hrow
      have hr2 : (execOp a.eval ⟨dst, .buildSlice t n parts, ty, pos, af, gd⟩).run P w = .ok (.value (.slice (some ⟨w.heap.size, 0, none⟩) n n)) w' := by
        by_cases hn0 : n * sz = 0
        · have hr0 : rep n z = [] := List.eq_nil_of_length_eq_zero (by rw [rep_length, hzl]; exact hn0)
          rw [hr0] at h1
          simp only [execOp, Instr.buildSlice, Sem.run_bind, run_underlying hu, Result.andThen_ok, sizeOf, typeInfo, run_program, hi, Sem.run_pure, hsz]
          rw [if_neg (by omega)]
          simp only [hn0, if_true, Sem.run_bind, Sem.run_pure, Result.andThen_ok]
          have e3 : ∀ f : Nat → Value, Array.map f (Array.range 0) = (⟨[]⟩ : Array Value) := fun _ => by simp
          rw [e3]
          simp [h1, hr]
        · simp only [execOp, Instr.buildSlice, Sem.run_bind, run_underlying hu, Result.andThen_ok, sizeOf, typeInfo, run_program, hi, Sem.run_pure, hsz]
          rw [if_neg (by omega)]
          simp only [hn0, if_false, Sem.run_bind, Sem.run_pure, Result.andThen_ok, zeroValue, typeInfo, run_program, hi, hz, e1, hrow]
          simp [h1, hr]
      unfold Oper.wp; rw [hr2]
      exact hn ρ' _ _ _ w' hK (VR.slice (e := ⟨w.heap.size, 0, true⟩) 0 n n hk) hh hext
    · exact h.elim
  · rename_i t xl xc
    subst hop
    split at h
    · rename_i e sz by' z k l k2 c ht hl hc
      obtain ⟨i, zv, hu, hi, hz, hsz, hby, hzc, hzl, hzf, hpos⟩ := elemT_spec ht
      obtain ⟨h0, hlc, h63, hby2, hK⟩ := h
      obtain ⟨w', ρ', hr, hh, hext, hk⟩ := alloc_sound (P := P) hs.h e (VRs.of_fl (ρ := ρ) _ (fls_rep c.toNat hzf))
      have e1 : zv.cells = ⟨z⟩ := by rw [hzc, ← vcells_eq]
      have hrow := row_eq z (by omega) c.toNat
      rw [hzl] at hrow
      have hvl := hs.ev hl
      have hvc := hs.ev hc
      generalize hvl' : a.eval xl = ul at hvl
      generalize hvc' : a.eval xc = uc at hvc
      cases hvl; cases hvc
      have wl : IntKind.i64.wrap l = l := by simp [IntKind.wrap, IntKind.bits, IntKind.signed]; omega
      have wc : IntKind.i64.wrap c = c := by simp [IntKind.wrap, IntKind.bits, IntKind.signed]; omega
      have hr2 : (execOp a.eval ⟨dst, .makeSlice t xl xc, ty, pos, af, gd⟩).run P w = .ok (.value (.slice (some ⟨w.heap.size, 0, none⟩) l.toNat c.toNat)) w' := by
        have t1 : ¬ (281474976710656 < (by' : Int) * c) := by omega
        have t2 : ¬ (c < 0) := by omega
        have t3 : ¬ (l < 0) := by omega
        have t4 : ¬ (c < l) := by omega
        have al : ∀ (k : IntKind) (l : Int), (asInt (.int k l)).run P w = .ok l w := fun _ _ => by simp [asInt, asIntOf]
        simp only [execOp, hvl', hvc', Instr.makeSlice, Sem.run_bind, run_underlying hu, Result.andThen_ok, al, Sem.run_pure, typeInfo, run_program, hi, wl, wc, hby]
        by_cases hn0 : c.toNat * sz = 0
        · have hc0 : c = 0 := by
            rcases Nat.mul_eq_zero.1 hn0 with h | h <;> omega
          have hr0 : rep c.toNat z = [] := List.eq_nil_of_length_eq_zero (by rw [rep_length, hzl]; exact hn0)
          rw [hr0] at hr
          have e3 : ∀ f : Nat → Value, Array.map f (Array.range 0) = (⟨[]⟩ : Array Value) := fun _ => by simp
          simp [t1, t2, t3, t4, sizeOf, typeInfo, hi, hsz, hn0, e3, hr]
        · have hrow2 : Array.map (fun x => z[x % z.length]?.getD default) (Array.range (c.toNat * sz)) = (⟨rep c.toNat z⟩ : Array Value) := by
            rw [← hrow]; simp
          simp [t1, t2, t3, t4, sizeOf, typeInfo, hi, hsz, hn0, zeroValue, hz, e1, hrow2, hr]
      unfold Oper.wp; rw [hr2]
      exact hn ρ' _ _ _ w' hK (VR.slice (e := ⟨w.heap.size, 0, true⟩) 0 l.toNat c.toNat hk) hh hext
    · exact h.elim
  · rename_i c
    subst hop
    split at h
    · rename_i f hcal
      split at h
      · rename_i n as hf has
        have hv := hs.args _ _ has
        have hfv := hs.ev hf
        generalize hfv' : a.eval f = u at hfv
        cases hfv
        refine call_out hs.h hv h ?_ hn
        have hae : c.args.map a.eval = (c.args.toList.map a.eval).toArray := by apply Array.ext'; simp
        simp [execOp, resolve, hcal, hfv', Deferred.ofValue, invoke, hae]
      · exact h.elim
    · rename_i r name hcal
      split at h
      · rename_i t v as hr has
        split at h
        · rename_i n hm
          have hv := hs.args _ _ has
          have hrv := hs.ev hr
          generalize hrv' : a.eval r = u at hrv
          cases hrv with
          | iface _ hvv =>
            rename_i v'
            refine call_out hs.h (VRs.cons hvv hv) h ?_ hn
            have hm' := fun w => methT_run (w := w) (v := v') hm
            have hx : (#[Value.iface t v'] ++ c.args.map a.eval).extract 1 (#[Value.iface t v'] ++ c.args.map a.eval).size = c.args.map a.eval := by
              apply Array.ext'
              simp
              exact List.take_of_length_le (by simp)
            have hae : #[v'] ++ c.args.map a.eval = (v' :: c.args.toList.map a.eval).toArray := by apply Array.ext'; simp [Array.toList_append]
            have h0 : (#[Value.iface t v'] ++ c.args.map a.eval)[0]? = some (.iface t v') := by rw [Array.getElem?_append_left (by simp)]; rfl
            simp only [execOp, resolve, hcal, hrv', Sem.run_bind, Sem.run_pure, Result.andThen_ok, invoke, h0, callMethod, run_program, hm', hx, hae]
        · exact h.elim
      · exact h.elim
    · rename_i hcal
      split at h
      · rename_i sl xs t t' hargs hty
        obtain ⟨rfl, h⟩ := h
        obtain ⟨x, y, hax, h1, h2⟩ := args2 hs hargs
        have htt := types2 hty
        obtain ⟨v, v', ρ', h', w', hr, hK, hvr, hhr, hext⟩ := append_out (P := P) hs.h (hs.ev h1) (hs.ev h2) h ty
        have hr2 : (execOp a.eval ⟨dst, .call c, ty, pos, af, gd⟩).run P w = .ok (.value v') w' := by
          simp [execOp, resolve, hcal, invoke, Go.builtin, hax, htt, hr]
        unfold Oper.wp; rw [hr2]
        exact hn ρ' v v' h' w' hK hvr hhr hext
      · exact h.elim
    · rename_i hcal
      split at h
      · rename_i sl xs t t' hargs hty
        obtain ⟨x, y, hax, h1, h2⟩ := args2 hs hargs
        have htt := types2 hty
        obtain ⟨v, v', ρ', h', w', hr, hK, hvr, hhr, hext⟩ := copy_out (P := P) (u := t') hs.h (hs.ev h1) (hs.ev h2) h ty
        have hr2 : (execOp a.eval ⟨dst, .call c, ty, pos, af, gd⟩).run P w = .ok (.value v') w' := by
          simp [execOp, resolve, hcal, invoke, Go.builtin, hax, htt, hr]
        unfold Oper.wp; rw [hr2]
        exact hn ρ' v v' h' w' hK hvr hhr hext
      · exact h.elim
    · rename_i hcal
      split at h
      · rename_i sl t hargs hty
        obtain ⟨x, hax, h1⟩ := args1 hs hargs
        have htt := types1 hty
        obtain ⟨v, v', ρ', h', w', hr, hK, hvr, hhr, hext⟩ := clear_out (P := P) hs.h (hs.ev h1) h ty
        have hr2 : (execOp a.eval ⟨dst, .call c, ty, pos, af, gd⟩).run P w = .ok (.value v') w' := by
          simp [execOp, resolve, hcal, invoke, Go.builtin, hax, htt, hr]
        unfold Oper.wp; rw [hr2]
        exact hn ρ' v v' h' w' hK hvr hhr hext
      · exact h.elim
    · split at h
      · rename_i v hv
        exact pure_out hs hv h hn
      · exact h.elim
  · split at h
    · rename_i v hv
      exact pure_out hs hv h hn
    · obtain ⟨v, hf, hK⟩ := h
      exact flat_out hs hf hK hn

end sound

/-! ### Part 10 -/
/-! Orders: as the kit's 'wpAnyH', but what is asked behind an operation hangs on the operation. -/
section orders
variable {P : Program} {os : Array Oper} {Q : Exit → Act → World → Prop} {md : Region.Mode}

def wpR (P : Program) (md : Region.Mode) (os : Array Oper) (Q : Exit → Act → World → Prop) (R : Nat → World → World → Prop) : Nat → Array Bool → Act → World → Prop
  | 0, listed, a, w => Region.ready md os listed = [] ∧ Q .normal a w
  | fuel + 1, listed, a, w =>
    (Region.ready md os listed = [] → Q .normal a w) ∧
    ∀ i ∈ Region.ready md os listed, wpOp P os Q i (fun a' w' => R i w w' ∧ wpR P md os Q R fuel (listed.setIfInBounds i true) a' w') a w

theorem wpAny_of_R {R : Nat → World → World → Prop} : ∀ (fuel : Nat) (listed : Array Bool) (a : Act) (w : World), wpR P md os Q R fuel listed a w → wpAny P md os Q fuel listed a w
  | 0, _, _, _, h => h
  | fuel + 1, _, _, _, h => ⟨h.1, fun i hi => wpOp_mono (fun a' w' h' => wpAny_of_R fuel _ a' w' h'.2) (h.2 i hi)⟩

theorem wpR_mono {R R' : Nat → World → World → Prop} (hR : ∀ j w w', R j w w' → R' j w w') : ∀ (fuel : Nat) (listed : Array Bool) (a : Act) (w : World), wpR P md os Q R fuel listed a w → wpR P md os Q R' fuel listed a w
  | 0, _, _, _, h => h
  | fuel + 1, _, _, _, h => ⟨h.1, fun i hi => wpOp_mono (fun a' w' h' => ⟨hR _ _ _ h'.1, wpR_mono hR fuel _ a' w' h'.2⟩) (h.2 i hi)⟩

theorem wpR_first {R : Nat → World → World → Prop} {i : Nat} {oi : Oper} {v : Value} {S : World → Prop} (hi : os[i]? = some oi) (hsel : ∀ (j : Nat) (o : Oper) cs b, os[j]? = some o → o.op ≠ .select cs b)
    (hQ : ∀ c a w, Q (.panic c) (a.put oi.dst v) w → Q (.panic c) a w) (hRi : ∀ w, R i w w) :
    ∀ (fuel : Nat) (listed : Array Bool) (a : Act) (w : World),
      (∀ j oj, os[j]? = some oj → j ≠ i → listed.getD j true = false → (∀ e ∈ oj.after, Region.binds md e = true → e.on ≠ i) → oi.apart os oj = true ∧ ∀ w w', S w → R j w w' → S w') →
      i ∈ Region.ready md os listed → YieldsIf P os S oi v a → S w →
      wpR P md os Q R fuel (listed.setIfInBounds i true) (a.put oi.dst v) w → wpR P md os Q R (fuel + 1) listed a w := by
  intro fuel
  induction fuel with
  | zero =>
    intro listed a w _ hr hy hS H
    refine ⟨fun h => (by rw [h] at hr; cases hr), fun j hj => ?_⟩
    by_cases hji : j = i
    · subst hji; exact hy.wpOp hi hS ⟨hRi _, H⟩
    · have := ready_mono hj hji
      rw [H.1] at this
      cases this
  | succ fuel ih =>
    intro listed a w hfree hr hy hS H
    refine ⟨fun h => (by rw [h] at hr; cases hr), fun j hj => ?_⟩
    by_cases hji : j = i
    · subst hji; exact hy.wpOp hi hS ⟨hRi _, H⟩
    · have h1 := H.2 j (ready_mono hj hji)
      obtain ⟨hjun, oj, hoj, hall⟩ := mem_ready.1 hj
      have hnot : ∀ e ∈ oj.after, Region.binds md e = true → e.on ≠ i := fun e he hb heq => by
        have h1 := hall e he hb
        have h0 := (mem_ready.1 hr).1
        rw [heq] at h1
        rcases Nat.lt_or_ge i listed.size with h' | h'
        · simp [h'] at h0 h1; rw [h0] at h1; cases h1
        · simp [Array.getElem?_eq_none h'] at h1
      obtain ⟨hap, hRS⟩ := hfree j oj hoj hji hjun hnot
      have h2 := wpOp_putIf hoj hap (fun cs b => hsel i oi cs b hi) (fun cs b => hsel j oj cs b hoj) hQ hy h1
      have hfree' : ∀ k ok, os[k]? = some ok → k ≠ i → (listed.setIfInBounds j true).getD k true = false →
          (∀ e ∈ ok.after, Region.binds md e = true → e.on ≠ i) → oi.apart os ok = true ∧ ∀ w w', S w → R k w w' → S w' := fun k ok hk hki hun hno => by
        refine hfree k ok hk hki ?_ hno
        by_cases hjk : j = k
        · subst hjk; exact hjun
        · rw [getD_set_ne true hjk] at hun; exact hun
      refine wpOp_mono (fun a' w' h3 => ⟨h3.2.1, ih (listed.setIfInBounds j true) a' w' hfree' (ready_mono hr (Ne.symm hji)) h3.1 (hRS _ _ hS h3.2.1) ?_⟩) h2
      rw [Array.setIfInBounds_comm _ _ hji]
      exact h3.2.2

def isLoad (o : Oper) : Bool := match o.op with | .load _ _ => true | _ => false

/-- Nobody who could come before i touches i's temporaries, and, of a load, none of them is free of S ('fin'). -/
def freeR (md : Region.Mode) (os : Array Oper) (fin : Nat → Bool) (listed : Array Bool) (i : Nat) : Bool :=
  match os[i]? with
  | none => false
  | some oi => (List.range os.size).all fun j => j == i || listed.getD j true || match os[j]? with
      | some oj => oj.after.any (fun e => Region.binds md e && e.on == i) || (oi.apart os oj && (!isLoad oi || !fin j))
      | none => true

theorem freeR_spec {fin : Nat → Bool} {i : Nat} {oi : Oper} {listed : Array Bool} (hi : os[i]? = some oi) (h : freeR md os fin listed i = true) (j : Nat) (oj : Oper)
    (hj : os[j]? = some oj) (hne : j ≠ i) (hun : listed.getD j true = false) (hno : ∀ e ∈ oj.after, Region.binds md e = true → e.on ≠ i) :
    oi.apart os oj = true ∧ (isLoad oi = true → fin j = false) := by
  simp only [freeR, hi, List.all_eq_true, List.mem_range] at h
  have h1 := h j (Array.getElem?_eq_some_iff.1 hj).1
  simp only [hj, Bool.or_eq_true, beq_iff_eq, hne, false_or, hun, Bool.false_eq_true] at h1
  rcases h1 with h1 | h1
  · obtain ⟨e, he, hb⟩ := Array.any_eq_true'.1 h1
    simp only [Bool.and_eq_true, beq_iff_eq] at hb
    exact absurd hb.2 (hno e he hb.1)
  · simp only [Bool.and_eq_true, Bool.or_eq_true, Bool.not_eq_true'] at h1
    exact ⟨h1.1, fun hl => h1.2.resolve_left (by simp [hl])⟩

end orders

/-! Guards, lists of operations -/
def guardP (os : Array Oper) (o : Oper) (s : St) (yes no : Prop) : Prop :=
  match o.guard with
  | none => yes
  | some (j, want) => match os[j]? with
    | some oj => match oj.dst with
      | some d => match s.t[d]? with
        | some (some (.bool b)) => (b = want → yes) ∧ (b = !want → no)
        | some (some (.tuple _)) => no
        | _ => False
      | none => False
    | none => False

section guards
variable {P : Program} {G : Glob} {ρ : List Ent} {s : St} {a : Act} {w : World}

theorem guard_sound {os : Array Oper} {o : Oper} {yes no : Prop} (hs : SR G ρ s a w) (h : guardP os o s yes no) :
    (Region.wanted o (yielded os a.tmps) = true ∧ yes) ∨ (Region.wanted o (yielded os a.tmps) = false ∧ no) := by
  unfold guardP at h
  unfold Region.wanted
  split at h
  · rename_i hg
    rw [hg]; exact .inl ⟨rfl, h⟩
  · rename_i j want hg
    rw [hg]
    split at h
    · rename_i oj hj
      split at h
      · rename_i d hd
        split at h
        · rename_i b hb
          obtain ⟨v', h1, h2⟩ := hs.t.2 d _ hb
          cases h2
          have hy : yielded os a.tmps j = some b := by simp [yielded, hj, hd, h1]
          simp only [hy]
          by_cases hbw : b = want
          · subst hbw; exact .inl ⟨by simp, h.1 rfl⟩
          · refine .inr ⟨by simp [hbw], h.2 ?_⟩
            cases b <;> cases want <;> simp_all
        · rename_i vs hb
          obtain ⟨v', h1, h2⟩ := hs.t.2 d _ hb
          cases h2
          have hy : yielded os a.tmps j = none := by simp [yielded, hj, hd, h1]
          simp only [hy]
          exact .inr ⟨by simp, h⟩
        · exact h.elim
      · exact h.elim
    · exact h.elim

end guards

def opsP (P : Program) (G : Glob) (os : Array Oper) (K : St → Prop) : List Oper → St → Prop
  | [], s => K s
  | o :: rest, s => guardP os o s (step P G s o (fun v h' => opsP P G os K rest (St.put ⟨s.t, h'⟩ o.dst v))) (opsP P G os K rest (s.put o.dst undef))

theorem SR.putU {G : Glob} {ρ : List Ent} {s : St} {a : Act} {w : World} (hs : SR G ρ s a w) (d : Option Nat) : SR G ρ (s.put d undef) (a.put d undef) w :=
  hs.put (Pre.refl ρ) d undef_VR hs.h

theorem ops_sound {P : Program} {G : Glob} {os : Array Oper} {K : St → Prop} {Q : Exit → Act → World → Prop} {ρ0 : List Ent} {w0 : World}
    (hQ : ∀ ρ s a w, K s → SR G ρ s a w → Ext ρ0 ρ w0 w → Q .normal a w) :
    ∀ (l : List Oper) (s : St) (ρ : List Ent) (a : Act) (w : World), opsP P G os K l s → SR G ρ s a w → Ext ρ0 ρ w0 w → wpList P os Q l a w
  | [], s, ρ, a, w, h, hs, hx => hQ ρ s a w h hs hx
  | o :: rest, s, ρ, a, w, h, hs, hx => by
    unfold wpList
    rcases guard_sound hs h with ⟨h1, h2⟩ | ⟨h1, h2⟩
    · rw [if_pos h1]
      refine .inl (step_sound hs h2 fun ρ' v v' h' w' hK hv hh hext => ?_)
      exact ops_sound hQ rest _ ρ' _ w' hK (hs.put hext.toPre o.dst hv hh) (hx.trans hext)
    · rw [if_neg (by simp [h1])]
      exact ops_sound hQ rest _ ρ _ w h2 (hs.putU o.dst) hx

/-! ### Part 11 -/
/-- How many cells a load of a type looks at. -/
def cellsN (P : Program) (t : Nat) : Option Nat :=
  match tyK P t with
  | some none => some 1
  | some (some n) => some n
  | none => none

def seg (h : List Blk) (k o n : Nat) : Option (List Value) :=
  match h[k]? with
  | some b => some ((b.c.drop o).take n)
  | none => none

def keepC (h h' : List Blk) : List (Nat × Nat × Nat) → Prop
  | [] => True
  | (k, o, n) :: C => seg h' k o n = seg h k o n ∧ keepC h h' C

def takeP (P : Program) (s : St) (o : Oper) (C : List (Nat × Nat × Nat)) (K : Value → List (Nat × Nat × Nat) → Prop) : Prop :=
  match o.op with
  | .pick c a b => match s.ev c with
    | some (.bool cb) => (cb = true → ∃ v, s.ev a = some v ∧ K v C) ∧ (cb = false → ∃ v, s.ev b = some v ∧ K v C)
    | _ => False
  | .load t x => match s.ev x, cellsN P t with
    | some (.pointer (some ad)), some n => ∃ v, loadV P s.h t ad.block ad.off = some v ∧ K v ((ad.block, ad.off, n) :: C)
    | _, _ => False
  | _ => match pureV P s o.op with
    | some v => K v C
    | none => ∃ v, FlatRun P s o v ∧ K v C

mutual
/-- An order of a region's operations: 'done' · number i next: kind 0: taken first; 1: the only one that may come up; the cells that were looked at stay as they are; 2: the only one, and behind all that were looked at · 'br': whichever of some comes up. -/
inductive Scr
  | done
  | st (i k : Nat) (r : Scr)
  | br (l : Scrs)
inductive Scrs
  | nil
  | cons (i : Nat) (r : Scr) (l : Scrs)
end

mutual
def dopsP (P : Program) (G : Glob) (os : Array Oper) (K : St → Prop) : Scr → List (Nat × Nat × Nat) → St → Prop
  | .done, _, s => K s
  | .st i kind rest, C, s => match os[i]? with
    | none => False
    | some o => match kind with
      | 0 => guardP os o s (takeP P s o C (fun v C' => dopsP P G os K rest C' (s.put o.dst v))) (dopsP P G os K rest C (s.put o.dst undef))
      | 1 => guardP os o s (step P G s o (fun v h' => keepC s.h h' C ∧ dopsP P G os K rest C (St.put ⟨s.t, h'⟩ o.dst v))) (dopsP P G os K rest C (s.put o.dst undef))
      | _ => guardP os o s (step P G s o (fun v h' => dopsP P G os K rest [] (St.put ⟨s.t, h'⟩ o.dst v))) (dopsP P G os K rest [] (s.put o.dst undef))
  | .br l, C, s => dopsPs P G os K l C s
def dopsPs (P : Program) (G : Glob) (os : Array Oper) (K : St → Prop) : Scrs → List (Nat × Nat × Nat) → St → Prop
  | .nil, _, _ => True
  | .cons i rest l, C, s => (match os[i]? with
    | none => False
    | some o => guardP os o s (step P G s o (fun v h' => keepC s.h h' C ∧ dopsP P G os K rest C (St.put ⟨s.t, h'⟩ o.dst v))) (dopsP P G os K rest C (s.put o.dst undef))) ∧ dopsPs P G os K l C s
end

mutual
def Scr.fin : Scr → Nat → Bool
  | .done, _ => false
  | .st i k r, j => (i == j && k == 2) || r.fin j
  | .br l, j => l.fin j
def Scrs.fin : Scrs → Nat → Bool
  | .nil, _ => false
  | .cons _ r l, j => r.fin j || l.fin j
end

def Scr.no1 : Scr → Bool
  | .done => true
  | .st _ k r => k != 1 && r.no1
  | .br _ => false

def Scr.len : Scr → Nat
  | .done => 0
  | .st _ _ r => r.len + 1
  | .br .nil => 0
  | .br (.cons _ r _) => r.len + 1

def Scrs.nums : Scrs → List Nat
  | .nil => []
  | .cons i _ l => i :: l.nums

mutual
/-- Is the order one that goes? n: how many operations are left. -/
def dchk (os : Array Oper) (fin : Nat → Bool) : Scr → Nat → Array Bool → Bool
  | .done, n, listed => n == 0 && (Region.ready .any os listed).isEmpty
  | .st i kind rest, n, listed =>
    (match os[i]? with
     | none => false
     | some _ => match kind with
       | 0 => (Region.ready .any os listed).contains i && freeR .any os fin listed i
       | 1 => Region.ready .any os listed == [i] && !fin i
       | _ => Region.ready .any os listed == [i] && fin i && rest.no1) && (match n with | 0 => false | n + 1 => dchk os fin rest n (listed.setIfInBounds i true))
  | .br l, n, listed => Region.ready .any os listed == l.nums && !l.nums.isEmpty && (match n with | 0 => false | n + 1 => dchks os fin l n listed)
def dchks (os : Array Oper) (fin : Nat → Bool) : Scrs → Nat → Array Bool → Bool
  | .nil, _, _ => true
  | .cons i r l, n, listed => !fin i && dchk os fin r n (listed.setIfInBounds i true) && dchks os fin l n listed
end

section sound
variable {P : Program} {G : Glob} {os : Array Oper} {K : St → Prop} {Q : Exit → Act → World → Prop} {ρ0 : List Ent} {w0 : World}

/-- What the looked-at cells held. -/
def CA (ρ : List Ent) (h : List Blk) (C : List (Nat × Nat × Nat)) (A : List (Addr × Value)) : Prop :=
  ∀ p ∈ A, ∃ k o n m e l v, (k, o, n) ∈ C ∧ seg h k o n = some l ∧ l[m]? = some v ∧ ρ[k]? = some e ∧ p.1 = ⟨e.r, e.base + (o + m), none⟩ ∧ VR ρ v p.2

def SA (A : List (Addr × Value)) (w : World) : Prop := ∀ p ∈ A, w.cell? p.1 = some p.2
def Pres (A : List (Addr × Value)) (w w' : World) : Prop := ∀ p ∈ A, w.cell? p.1 = some p.2 → w'.cell? p.1 = some p.2

theorem CA.cells {ρ : List Ent} {h : List Blk} {C : List (Nat × Nat × Nat)} {A : List (Addr × Value)} {w : World} (H : HR G ρ h w) (hc : CA ρ h C A) : SA A w := by
  intro p hp
  obtain ⟨k, o, n, m, e, l, v, h1, h2, h3, h4, h5, h6⟩ := hc p hp
  unfold seg at h2
  split at h2
  · rename_i b hb
    cases h2
    have hv : b.c[o + m]? = some v := by
      rw [List.getElem?_take] at h3
      split at h3
      · simpa using h3
      · cases h3
    obtain ⟨e', v', he', hcell, hr⟩ := H.cell hb hv
    rw [h4] at he'; cases he'
    rw [h5, hcell, VR.func_eq hr h6]
  · cases h2

theorem CA.keep {ρ ρ' : List Ent} {h h' : List Blk} {C : List (Nat × Nat × Nat)} {A : List (Addr × Value)} (hc : CA ρ h C A) (hp : Pre ρ ρ') (hk : keepC h h' C) : CA ρ' h' C A := by
  intro p hpA
  obtain ⟨k, o, n, m, e, l, v, h1, h2, h3, h4, h5, h6⟩ := hc p hpA
  have hseg : ∀ (C : List (Nat × Nat × Nat)), keepC h h' C → (k, o, n) ∈ C → seg h' k o n = seg h k o n := by
    intro C
    induction C with
    | nil => intro _ hm; cases hm
    | cons x C ih =>
      intro hk hm
      obtain ⟨k', o', n'⟩ := x
      obtain ⟨g1, g2⟩ := hk
      cases hm with
      | head => exact g1
      | tail _ hm => exact ih g2 hm
  exact ⟨k, o, n, m, e, l, v, h1, by rw [hseg C hk h1]; exact h2, h3, hp.get h4, h5, h6.mono hp⟩

theorem put_t (s : St) (d : Option Nat) (v : Value) : (s.put d v).h = s.h := by cases d <;> rfl

theorem takeP_sound {ρ : List Ent} {s : St} {a : Act} {w : World} {o : Oper} {C : List (Nat × Nat × Nat)} {KK : Value → List (Nat × Nat × Nat) → Prop} (hs : SR G ρ s a w) (h : takeP P s o C KK) :
    ∃ v v' C' B, KK v C' ∧ (isLoad o = false → B = []) ∧ VR ρ v v' ∧ (∀ A, CA ρ s.h C A → CA ρ s.h C' (B ++ A)) ∧ SA B w ∧ ∀ w', SA B w' → (execOp a.eval o).run P w' = .ok (.value v') w' := by
  obtain ⟨dst, op, ty, pos, af, gd⟩ := o
  unfold takeP at h
  split at h <;> rename_i hop <;> simp only at hop
  · rename_i c x y
    subst hop
    split at h
    · rename_i cb hc
      have hv := hs.ev hc
      have hcv : a.eval c = .bool cb := by
        generalize a.eval c = u at hv
        cases hv; rfl
      cases cb with
      | true =>
        obtain ⟨v, h1, hK⟩ := h.1 rfl
        exact ⟨v, _, C, [], hK, fun _ => rfl, hs.ev h1, fun A hA => by simpa using hA, fun p hp => by simp at hp, fun w' _ => by simp [execOp, hcv, asBool]⟩
      | false =>
        obtain ⟨v, h1, hK⟩ := h.2 rfl
        exact ⟨v, _, C, [], hK, fun _ => rfl, hs.ev h1, fun A hA => by simpa using hA, fun p hp => by simp at hp, fun w' _ => by simp [execOp, hcv, asBool]⟩
    · exact h.elim
  · rename_i t x
    subst hop
    split at h
    · rename_i ad n hx hn
      obtain ⟨v, h1, hK⟩ := h
      obtain ⟨e, he, hx'⟩ := addr_eq (hs.ev hx)
      have h1' := h1
      unfold loadV at h1
      split at h1
      · rename_i b hb
        unfold partC at h1
        unfold cellsN at hn
        split at h1
        · rename_i ht
          rw [ht] at hn; cases hn
          obtain ⟨e', v', he', hcell, hr⟩ := hs.h.cell hb h1
          rw [he] at he'; cases he'
          refine ⟨v, v', _, [(⟨e.r, e.base + ad.off, none⟩, v')], hK, fun h => by simp [isLoad] at h, hr, ?_, ?_, fun w' hw' => ?_⟩
          · intro A hA p hp
            rcases List.mem_append.1 hp with hp | hp
            · simp at hp; subst hp
              have hlt := (List.getElem?_eq_some_iff.1 h1).1
              refine ⟨ad.block, ad.off, 1, 0, e, (b.c.drop ad.off).take 1, v, List.mem_cons_self, by simp [seg, hb], ?_, he, by simp, hr⟩
              rw [List.getElem?_take_of_lt (by omega)]; simpa using h1
            · obtain ⟨k, o, n, m, e2, l, u, g1, g2⟩ := hA p hp
              exact ⟨k, o, n, m, e2, l, u, List.mem_cons_of_mem _ g1, g2⟩
          · intro p hp; simp at hp; subst hp; exact hcell
          · have := hw' _ (List.mem_singleton.2 rfl)
            simp [execOp, hx', run_loadAt_scal ht this]
        · rename_i m ht
          rw [ht] at hn; cases hn
          split at h1
          · rename_i hle
            cases h1
            obtain ⟨vs', g1, g2⟩ := hs.h.cells he hb hle
            have hl := g1.length
            have hlm : vs'.length = n := by rw [← hl]; simp; omega
            refine ⟨_, .agg ⟨vs'⟩, _, vs'.zipIdx.map (fun x => (⟨e.r, e.base + (ad.off + x.2), none⟩, x.1)), hK, fun h => by simp [isLoad] at h, .agg g1, ?_, ?_, fun w' hw' => ?_⟩
            · intro A hA p hp
              rcases List.mem_append.1 hp with hp | hp
              · obtain ⟨x, hx1, rfl⟩ := List.mem_map.1 hp
                obtain ⟨x1, x2⟩ := x
                have hx2 := List.mem_zipIdx_iff_getElem?.1 hx1
                simp only at hx2
                have hlt := (List.getElem?_eq_some_iff.1 hx2).1
                obtain ⟨u, hu⟩ : ∃ u, ((b.c.drop ad.off).take n)[x2]? = some u := ⟨_, List.getElem?_eq_getElem (by rw [hl]; exact hlt)⟩
                obtain ⟨u', hu1, hu2⟩ := g1.get hu
                rw [hx2] at hu1; cases hu1
                exact ⟨ad.block, ad.off, n, x2, e, _, u, List.mem_cons_self, by simp [seg, hb], hu, he, rfl, hu2⟩
              · obtain ⟨k, o, n', m, e2, l, u, g1, g2⟩ := hA p hp
                exact ⟨k, o, n', m, e2, l, u, List.mem_cons_of_mem _ g1, g2⟩
            · intro p hp
              obtain ⟨x, hx1, rfl⟩ := List.mem_map.1 hp
              obtain ⟨x1, x2⟩ := x
              have hx2 := List.mem_zipIdx_iff_getElem?.1 hx1
              have := g2 x2 x1 (by simpa using hx2)
              simpa [Nat.add_assoc] using this
            · have hcell : ∀ j v, vs'[j]? = some v → w'.cell? ⟨e.r, e.base + ad.off + j, none⟩ = some v := by
                intro j v hj
                have := hw' (⟨e.r, e.base + (ad.off + j), none⟩, v) (List.mem_map.2 ⟨(v, j), List.mem_zipIdx_iff_getElem?.2 (by simpa using hj), rfl⟩)
                simpa [Nat.add_assoc] using this
              simp [execOp, hx', run_loadAt_agg ht hlm hcell]
          · cases h1
        · cases h1
      · cases h1
    · exact h.elim
  · split at h
    · rename_i v hv
      obtain ⟨v', g1, g2⟩ := pureV_sound hs hv
      exact ⟨v, v', C, [], h, fun _ => rfl, g1, fun A hA => by simpa using hA, fun p hp => by simp at hp, fun w' _ => g2 w'⟩
    · obtain ⟨v, hf, hK⟩ := h
      obtain ⟨h1, h2, h3, h4⟩ := hf
      have e1 : execOp a.eval ⟨dst, op, ty, pos, af, gd⟩ = execOp (fun x => (s.ev x).getD undef) ⟨dst, op, ty, pos, af, gd⟩ := execOp_congr _ h3 fun x hx => by
        obtain ⟨u, hu, hf⟩ := h1 x hx
        rw [hu, Option.getD_some]
        exact (hs.ev hu).flat hf
      exact ⟨v, v, C, [], hK, fun _ => rfl, VR.of_fl v h2, fun A hA => by simpa using hA, fun p hp => by simp at hp, fun w' _ => by rw [e1]; exact h4 w'⟩

def RA (fin : Nat → Bool) (A : List (Addr × Value)) (j : Nat) (w w' : World) : Prop := fin j = true ∨ Pres A w w'

mutual
theorem dops_sound (fin : Nat → Bool) (hsel : Region.noSelect os = true) (hQp : ∀ c a w, ¬ Q (.panic c) a w)
    (hQ : ∀ ρ s a w, K s → SR G ρ s a w → Ext ρ0 ρ w0 w → Q .normal a w) :
    ∀ (script : Scr) (n : Nat) (C : List (Nat × Nat × Nat)) (s : St) (listed : Array Bool) (ρ : List Ent) (a : Act) (w : World) (A : List (Addr × Value)),
      dopsP P G os K script C s → dchk os fin script n listed = true → SR G ρ s a w → Ext ρ0 ρ w0 w → (script.no1 = true ∨ CA ρ s.h C A) →
      wpR P .any os Q (RA fin A) n listed a w
  | .done, n, C, s, listed, ρ, a, w, A, h, hc, hs, hx, hA => by
    simp only [dchk, Bool.and_eq_true, beq_iff_eq, List.isEmpty_iff] at hc
    obtain ⟨rfl, hc⟩ := hc
    exact ⟨hc, hQ ρ s a w (by simpa only [dopsP] using h) hs hx⟩
  | .st i kind rest, n, C, s, listed, ρ, a, w, A, h, hc, hs, hx, hA => by
    unfold dopsP at h
    unfold dchk at hc
    simp only [Bool.and_eq_true] at hc
    obtain ⟨hc1, hc2⟩ := hc
    cases n with
    | zero => simp at hc2
    | succ n =>
    simp only at hc2
    cases ho : os[i]? with
    | none => simp only [ho] at h
    | some o =>
      simp only [ho] at h hc1
      match kind, h, hc1, hA with
      | 0, h, hc1, hA =>
        simp only [Bool.and_eq_true] at hc1
        have hrd : i ∈ Region.ready .any os listed := by simpa using hc1.1
        rcases guard_sound hs h with ⟨g1, g2⟩ | ⟨g1, g2⟩
        · obtain ⟨v, v', C', B, hK, hBl, hv, hCA, hB, hrun⟩ := takeP_sound hs g2
          have hs' : SR G ρ (s.put o.dst v) (a.put o.dst v') w := hs.put (Pre.refl ρ) o.dst hv hs.h
          have hA' : rest.no1 = true ∨ CA ρ (s.put o.dst v).h C' (B ++ A) := by
            rcases hA with hA | hA
            · simp only [Scr.no1, Bool.and_eq_true] at hA; exact .inl hA.2
            · rw [put_t]; exact .inr (hCA A hA)
          have ih := dops_sound fin hsel hQp hQ rest n C' _ _ ρ _ w (B ++ A) hK hc2 hs' hx hA'
          refine wpR_mono (R := RA fin (B ++ A)) (fun j w1 w2 hh => ?_) _ _ _ _ (wpR_first (S := SA B) (v := v') ho (Region.noSelect_spec hsel) (fun c a w hq => absurd hq (hQp c _ w)) (fun w => .inr fun p _ hp => hp) n listed a w
            (fun j oj hj hne hun hno => ?_) hrd (.inl ⟨g1, fun w1 hw1 => hrun w1 hw1⟩) hB ih)
          · rcases hh with hh | hh
            · exact .inl hh
            · exact .inr fun p hp => hh p (List.mem_append_right _ hp)
          · obtain ⟨f1, f2⟩ := freeR_spec ho hc1.2 j oj hj hne hun hno
            refine ⟨f1, fun w1 w2 hS hR => ?_⟩
            cases hl : isLoad o with
            | false =>
              rw [hBl hl]
              intro p hp
              cases hp
            | true =>
              rcases hR with hR | hR
              · rw [f2 hl] at hR; cases hR
              · exact fun p hp => hR p (List.mem_append_left _ hp) (hS p hp)
        · have hs' := hs.putU (G := G) o.dst
          have hA' : rest.no1 = true ∨ CA ρ (s.put o.dst undef).h C A := by
            rcases hA with hA | hA
            · simp only [Scr.no1, Bool.and_eq_true] at hA; exact .inl hA.2
            · rw [put_t]; exact .inr hA
          have ih := dops_sound fin hsel hQp hQ rest n C _ _ ρ _ w A g2 hc2 hs' hx hA'
          refine wpR_first (S := fun _ => True) (v := undef) ho (Region.noSelect_spec hsel) (fun c a w hq => absurd hq (hQp c _ w)) (fun w => .inr fun p _ hp => hp) n listed a w
            (fun j oj hj hne hun hno => ?_) hrd (.inr ⟨g1, rfl⟩) trivial ih
          obtain ⟨f1, f2⟩ := freeR_spec ho hc1.2 j oj hj hne hun hno
          exact ⟨f1, fun w1 w2 _ _ => trivial⟩
      | 1, h, hc1, hA =>
        simp only [Bool.and_eq_true, beq_iff_eq, Bool.not_eq_true'] at hc1
        have hCA : CA ρ s.h C A := by
          rcases hA with hA | hA
          · simp [Scr.no1] at hA
          · exact hA
        refine ⟨fun h0 => (by rw [hc1.1] at h0; cases h0), fun j hj => ?_⟩
        rw [hc1.1] at hj
        simp at hj; subst hj
        unfold wpOp
        simp only [ho]
        rcases guard_sound hs h with ⟨g1, g2⟩ | ⟨g1, g2⟩
        · rw [if_pos g1]
          refine .inl (step_sound hs g2 fun ρ' v v' h' w' hK hv hh hext => ?_)
          obtain ⟨hkeep, hK⟩ := hK
          have hCA' := hCA.keep hext.toPre hkeep
          have hs' := hs.put hext.toPre o.dst hv hh
          refine ⟨.inr fun p hp _ => hCA'.cells hh p hp, dops_sound fin hsel hQp hQ rest n C _ _ ρ' _ w' A hK hc2 hs' (hx.trans hext) (.inr ?_)⟩
          rw [put_t]; exact hCA'
        · rw [if_neg (by simp [g1])]
          refine ⟨.inr fun p _ hp => hp, dops_sound fin hsel hQp hQ rest n C _ _ ρ _ w A g2 hc2 (hs.putU o.dst) hx (.inr ?_)⟩
          rw [put_t]; exact hCA
      | k + 2, h, hc1, hA =>
        simp only [Bool.and_eq_true, beq_iff_eq] at hc1
        refine ⟨fun h0 => (by rw [hc1.1.1] at h0; cases h0), fun j hj => ?_⟩
        rw [hc1.1.1] at hj
        simp at hj; subst hj
        unfold wpOp
        simp only [ho]
        rcases guard_sound hs h with ⟨g1, g2⟩ | ⟨g1, g2⟩
        · rw [if_pos g1]
          refine .inl (step_sound hs g2 fun ρ' v v' h' w' hK hv hh hext => ?_)
          exact ⟨.inl hc1.1.2, dops_sound fin hsel hQp hQ rest n [] _ _ ρ' _ w' A hK hc2 (hs.put hext.toPre o.dst hv hh) (hx.trans hext) (.inl hc1.2)⟩
        · rw [if_neg (by simp [g1])]
          exact ⟨.inl hc1.1.2, dops_sound fin hsel hQp hQ rest n [] _ _ ρ _ w A g2 hc2 (hs.putU o.dst) hx (.inl hc1.2)⟩
  | .br l, n, C, s, listed, ρ, a, w, A, h, hc, hs, hx, hA => by
    unfold dopsP at h
    unfold dchk at hc
    simp only [Bool.and_eq_true, beq_iff_eq, Bool.not_eq_true', List.isEmpty_eq_false_iff] at hc
    obtain ⟨⟨hc1, hc3⟩, hc2⟩ := hc
    cases n with
    | zero => simp at hc2
    | succ n =>
    simp only at hc2
    have hCA : CA ρ s.h C A := by
      rcases hA with hA | hA
      · simp [Scr.no1] at hA
      · exact hA
    refine ⟨fun h0 => absurd (hc1 ▸ h0) hc3, fun j hj => ?_⟩
    rw [hc1] at hj
    exact dopss_sound fin hsel hQp hQ l n C s listed ρ a w A h hc2 hs hx hCA j hj
theorem dopss_sound (fin : Nat → Bool) (hsel : Region.noSelect os = true) (hQp : ∀ c a w, ¬ Q (.panic c) a w)
    (hQ : ∀ ρ s a w, K s → SR G ρ s a w → Ext ρ0 ρ w0 w → Q .normal a w) :
    ∀ (l : Scrs) (n : Nat) (C : List (Nat × Nat × Nat)) (s : St) (listed : Array Bool) (ρ : List Ent) (a : Act) (w : World) (A : List (Addr × Value)),
      dopsPs P G os K l C s → dchks os fin l n listed = true → SR G ρ s a w → Ext ρ0 ρ w0 w → CA ρ s.h C A →
      ∀ j ∈ l.nums, wpOp P os Q j (fun a' w' => RA fin A j w w' ∧ wpR P .any os Q (RA fin A) n (listed.setIfInBounds j true) a' w') a w
  | .nil, n, C, s, listed, ρ, a, w, A, h, hc, hs, hx, hCA => by intro j hj; simp [Scrs.nums] at hj
  | .cons i rest l, n, C, s, listed, ρ, a, w, A, h, hc, hs, hx, hCA => by
    intro j hj
    unfold dopsPs at h
    unfold dchks at hc
    simp only [Bool.and_eq_true, Bool.not_eq_true'] at hc
    simp only [Scrs.nums, List.mem_cons] at hj
    by_cases hji : j = i
    · subst hji
      cases ho : os[j]? with
      | none => simp only [ho] at h; exact h.1.elim
      | some o =>
        simp only [ho] at h
        unfold wpOp
        simp only [ho]
        rcases guard_sound hs h.1 with ⟨g1, g2⟩ | ⟨g1, g2⟩
        · rw [if_pos g1]
          refine .inl (step_sound hs g2 fun ρ' v v' h' w' hK hv hh hext => ?_)
          obtain ⟨hkeep, hK⟩ := hK
          have hCA' := hCA.keep hext.toPre hkeep
          have hs' := hs.put hext.toPre o.dst hv hh
          refine ⟨.inr fun p hp _ => hCA'.cells hh p hp, dops_sound fin hsel hQp hQ rest n C _ _ ρ' _ w' A hK hc.1.2 hs' (hx.trans hext) (.inr ?_)⟩
          rw [put_t]; exact hCA'
        · rw [if_neg (by simp [g1])]
          refine ⟨.inr fun p _ hp => hp, dops_sound fin hsel hQp hQ rest n C _ _ ρ _ w A g2 hc.1.2 (hs.putU o.dst) hx (.inr ?_)⟩
          rw [put_t]; exact hCA
    · exact dopss_sound fin hsel hQp hQ l n C s listed ρ a w A h.2 hc.2 hs hx hCA j (hj.resolve_left hji)
end

end sound

/-! ### Part 12 -/
def thn (next : St → Prop) (Q : Exit → St → Prop) : Exit → St → Prop
  | .normal, s => next s
  | e, s => Q e s

def blk (id : Nat) (Q : Exit → St → Prop) : Exit → St → Prop
  | .exit j, s => if j = id then Q .normal s else Q (.exit j) s
  | e, s => Q e s

def scp (Q : Exit → St → Prop) : Exit → St → Prop
  | .goto _, _ => False
  | e, s => Q e s

/-- Of temporaries no more is known. -/
def leT : List (Option Value) → List (Option Value) → Prop
  | [], [] => True
  | none :: l, _ :: m => leT l m
  | some v :: l, x :: m => x = some v ∧ leT l m
  | _, _ => False

def bdT (n : Nat) : List (Option Value) → Bool
  | [] => true
  | none :: l => bdT n l
  | some v :: l => bd n v && bdT n l

def bdH (n : Nat) : List Blk → Bool
  | [] => true
  | b :: l => bds n b.c && bdH n l

/-- A weaker state: temporaries are forgotten; blocks behind the last are let go (m stay at least). -/
def Le (m : Nat) (s' s : St) : Prop :=
  leT s'.t s.t ∧ (s.h = s'.h ∨ (m ≤ s'.h.length ∧ bdT s'.h.length s'.t = true ∧ bdH s'.h.length s'.h = true ∧ ∃ g, s.h = s'.h ++ g))

def drawP (P : Program) (G : Glob) (os : Array Oper) (K : St → Prop) (s : St) : Prop :=
  P.follows .mixedOrders = true ∧ Region.noSelect os = true ∧ ∃ script : Scr, dchk os script.fin script os.size (Array.replicate os.size false) = true ∧ dopsP P G os K script [] s

def loopP (m : Nat) (W : (Exit → St → Prop) → St → Prop) (Q : Exit → St → Prop) (s : St) : Prop :=
  ∃ (α : Type) (F : α → St) (inv : α → Prop) (μ : α → Nat) (a0 : α), inv a0 ∧ Le m (F a0) s ∧
    ∀ a, inv a → W (thn (fun s' => ∃ a', inv a' ∧ Le m (F a') s' ∧ μ a' < μ a) Q) (F a)

def swp (P : Program) (G : Glob) (m : Nat) : Code → (Exit → St → Prop) → St → Prop
  | .skip, Q, s => Q .normal s
  | .region _ os draw, Q, s => if draw then drawP P G os (Q .normal) s else opsP P G os (Q .normal) os.toList s
  | .seq a b, Q, s => swp P G m a (thn (swp P G m b Q) Q) s
  | .cond c a b, Q, s => match s.ev c with
    | some (.bool t) => (t = true → swp P G m a Q s) ∧ (t = false → swp P G m b Q s)
    | _ => False
  | .block id c, Q, s => swp P G m c (blk id Q) s
  | .loop c, Q, s => loopP m (swp P G m c) Q s
  | .exit id, Q, s => Q (.exit id) s
  | .scope c, Q, s => swp P G m c (scp Q) s
  | .label _, Q, s => Q .normal s
  | .ret, Q, s => Q .ret s
  | _, _, _ => False

theorem leT_get : ∀ {l m : List (Option Value)}, leT l m → l.length = m.length ∧ ∀ (i : Nat) (v : Value), l[i]? = some (some v) → m[i]? = some (some v)
  | [], [], _ => ⟨rfl, by simp⟩
  | none :: l, y :: m, h => by
    obtain ⟨h1, h2⟩ := leT_get (l := l) (m := m) h
    refine ⟨by simp [h1], fun i v hi => ?_⟩
    cases i with
    | zero => simp at hi
    | succ i => simpa using h2 i v (by simpa using hi)
  | some u :: l, y :: m, h => by
    obtain ⟨hy, h⟩ := h
    obtain ⟨h1, h2⟩ := leT_get (l := l) (m := m) h
    refine ⟨by simp [h1], fun i v hi => ?_⟩
    cases i with
    | zero => simp at hi; subst hi; simp [hy]
    | succ i => simpa using h2 i v (by simpa using hi)
  | [], _ :: _, h => h.elim
  | none :: _, [], h => h.elim
  | some _ :: _, [], h => h.elim

theorem bdT_get {n : Nat} : ∀ {l : List (Option Value)}, bdT n l = true → ∀ (i : Nat) (v : Value), l[i]? = some (some v) → bd n v = true
  | [], _, i, v, h => by simp at h
  | none :: l, hb, i, v, h => by
    cases i with
    | zero => simp at h
    | succ i => exact bdT_get (l := l) hb i v (by simpa using h)
  | some u :: l, hb, i, v, h => by
    simp only [bdT, Bool.and_eq_true] at hb
    cases i with
    | zero => simp at h; subst h; exact hb.1
    | succ i => exact bdT_get (l := l) hb.2 i v (by simpa using h)

theorem bdH_mem {n : Nat} : ∀ {l : List Blk}, bdH n l = true → ∀ b ∈ l, bds n b.c = true
  | [], _, b, h => by cases h
  | x :: l, hb, b, h => by
    simp only [bdH, Bool.and_eq_true] at hb
    cases h with
    | head => exact hb.1
    | tail _ h => exact bdH_mem hb.2 b h

section sound
variable {P : Program} {G : Glob} {ρ0 : List Ent} {w0 : World}

theorem SR.weaken {ρ : List Ent} {s s' : St} {a : Act} {w : World} (hs : SR G ρ s a w) (hx : Ext ρ0 ρ w0 w) (h : Le ρ0.length s' s) : ∃ ρ', SR G ρ' s' a w ∧ Ext ρ0 ρ' w0 w := by
  obtain ⟨hT, hH⟩ := h
  obtain ⟨hl, hg⟩ := leT_get hT
  rcases hH with hH | ⟨hm, hb, hbh, g, hH⟩
  · exact ⟨ρ, ⟨hs.d, ⟨by rw [hl]; exact hs.t.1, fun i v hi => hs.t.2 i v (hg i v hi)⟩, by rw [← hH]; exact hs.h⟩, hx⟩
  · have hh := hs.h
    rw [hH] at hh
    refine ⟨ρ.take s'.h.length, ⟨hs.d, ⟨by rw [hl]; exact hs.t.1, fun i v hi => ?_⟩, hh.take (bdH_mem hbh)⟩, hx.take hm⟩
    obtain ⟨v', h1, h2⟩ := hs.t.2 i v (hg i v hi)
    exact ⟨v', h1, h2.take (bdT_get hb i v hi)⟩

def Lift (G : Glob) (ρ0 : List Ent) (w0 : World) (Q : Exit → St → Prop) : Exit → Act → World → Prop
  | .panic _, _, _ => False
  | .outgrown, _, _ => False
  | e, a, w => ∃ ρ s, Q e s ∧ SR G ρ s a w ∧ Ext ρ0 ρ w0 w

theorem swp_sound : ∀ (c : Code) (Q : Exit → St → Prop) (s : St) (ρ : List Ent) (a : Act) (w : World),
    swp P G ρ0.length c Q s → SR G ρ s a w → Ext ρ0 ρ w0 w → c.wp P (Lift G ρ0 w0 Q) a w
  | .skip, Q, s, ρ, a, w, h, hs, hx => wp_skip ⟨ρ, s, h, hs, hx⟩
  | .region id os draw, Q, s, ρ, a, w, h, hs, hx => by
    unfold swp at h
    cases draw with
    | false =>
      simp only [Bool.false_eq_true, if_false] at h
      exact wp_region_list (ops_sound (fun ρ s a w hK hs hx => ⟨ρ, s, hK, hs, hx⟩) _ s ρ a w h hs hx)
    | true =>
      simp only [if_true] at h
      obtain ⟨hm, hsel, script, hc, h⟩ := h
      have hs' : SR G ρ s a { w with drawn := w.drawn + 1 } := SR.same hs rfl
      have hx' : Ext ρ0 ρ w0 { w with drawn := w.drawn + 1 } := hx.trans Ext.drew
      have := dops_sound (P := P) (Q := Lift G ρ0 w0 Q) script.fin hsel (fun _ _ _ h => h) (fun ρ s a w hK hs hx => ⟨ρ, s, hK, hs, hx⟩) script os.size [] s (Array.replicate os.size false) ρ a _ [] h hc hs' hx' (.inr fun p hp => by cases hp)
      exact wp_region_any hm (wpAny_of_R _ _ _ _ this)
  | .seq x y, Q, s, ρ, a, w, h, hs, hx => by
    unfold swp at h
    refine wp_seq (Code.wp_mono (fun e a w hq => ?_) (swp_sound x _ s ρ a w h hs hx))
    cases e with
    | normal => obtain ⟨ρ', s', h1, h2, h3⟩ := hq; exact swp_sound y Q s' ρ' a w h1 h2 h3
    | exit id => exact hq
    | goto l => exact hq
    | ret => exact hq
    | panic c => exact hq
    | outgrown => exact hq
  | .cond c x y, Q, s, ρ, a, w, h, hs, hx => by
    unfold swp at h
    split at h
    · rename_i t hc
      have hv := hs.ev hc
      have hcv : a.eval c = .bool t := by
        generalize a.eval c = u at hv
        cases hv; rfl
      refine wp_cond_split hcv (fun ht => ?_) (fun ht => ?_)
      · exact swp_sound x Q s ρ a w (h.1 ht) hs hx
      · exact swp_sound y Q s ρ a w (h.2 ht) hs hx
    · exact h.elim
  | .block id c, Q, s, ρ, a, w, h, hs, hx => by
    unfold swp at h
    refine wp_block (Code.wp_mono (fun e a w hq => ?_) (swp_sound c _ s ρ a w h hs hx))
    cases e with
    | normal => exact hq
    | exit j =>
      obtain ⟨ρ', s', h1, h2, h3⟩ := hq
      simp only [blk] at h1
      simp only [Exit.inBlock]
      split
      · rename_i hj; rw [if_pos hj] at h1; exact ⟨ρ', s', h1, h2, h3⟩
      · rename_i hj; rw [if_neg hj] at h1; exact ⟨ρ', s', h1, h2, h3⟩
    | goto l => exact hq
    | ret => exact hq
    | panic c => exact hq
    | outgrown => exact hq
  | .loop c, Q, s, ρ, a, w, h, hs, hx => by
    unfold swp at h
    obtain ⟨α, F, inv, μ, a0, hi0, hle0, hround⟩ := h
    obtain ⟨ρ1, hs1, hx1⟩ := hs.weaken hx hle0
    refine wp_loop_ghost (fun n a w => ∃ x ρ, μ x = n ∧ inv x ∧ SR G ρ (F x) a w ∧ Ext ρ0 ρ w0 w) (μ a0) ⟨a0, ρ1, rfl, hi0, hs1, hx1⟩ fun n a w hI => ?_
    obtain ⟨x, ρx, hμ, hinv, hsx, hxx⟩ := hI
    refine Code.wp_mono (fun e a w hq => ?_) (swp_sound c _ (F x) ρx a w (hround x hinv) hsx hxx)
    cases e with
    | normal =>
      obtain ⟨ρ', s', ⟨a', h1, h2, h3⟩, h4, h5⟩ := hq
      obtain ⟨ρ2, hs2, hx2⟩ := h4.weaken h5 h2
      exact ⟨μ a', hμ ▸ h3, a', ρ2, rfl, h1, hs2, hx2⟩
    | exit id => exact hq
    | goto l => exact hq
    | ret => exact hq
    | panic c => exact hq
    | outgrown => exact hq
  | .exit id, Q, s, ρ, a, w, h, hs, hx => wp_exit ⟨ρ, s, h, hs, hx⟩
  | .scope c, Q, s, ρ, a, w, h, hs, hx => by
    unfold swp at h
    refine wp_scope_straight (Code.wp_mono (fun e a w hq => ?_) (swp_sound c _ s ρ a w h hs hx))
    cases e with
    | normal => exact hq
    | exit j => exact hq
    | goto l => obtain ⟨ρ', s', h1, h2, h3⟩ := hq; exact h1.elim
    | ret => exact hq
    | panic c => exact hq
    | outgrown => exact hq
  | .label l, Q, s, ρ, a, w, h, hs, hx => wp_label ⟨ρ, s, h, hs, hx⟩
  | .ret, Q, s, ρ, a, w, h, hs, hx => wp_ret ⟨ρ, s, h, hs, hx⟩
  | .rangeFunc .., Q, s, ρ, a, w, h, hs, hx => by unfold swp at h; exact h.elim
  | .goto _, Q, s, ρ, a, w, h, hs, hx => by unfold swp at h; exact h.elim
  | .refuse _, Q, s, ρ, a, w, h, hs, hx => by unfold swp at h; exact h.elim

end sound

/-! A function's contract -/
def resV (P : Program) (s : St) : List ResultVar → Option (List Value)
  | [] => some []
  | .tmp t :: l => match s.ev (.tmp t), resV P s l with
    | some v, some r => some (v :: r)
    | _, _ => none
  | .cell x t :: l => match s.ev (.tmp x) with
    | some (.pointer (some ad)) => match loadV P s.h t ad.block ad.off, resV P s l with
      | some v, some r => some (v :: r)
      | _, _ => none
    | _ => none

def tup : List Value → Value
  | [v] => v
  | l => .tuple ⟨l⟩

/-- At the end: what is handed back, and the heap; or, blocks behind the n-th let go. -/
def retK (m : Nat) (K : Value → List Blk → Prop) (r : Value) (h : List Blk) : Prop :=
  K r h ∨ ∃ n, m ≤ n ∧ n ≤ h.length ∧ bd n r = true ∧ bdH n (h.take n) = true ∧ K r (h.take n)

def retQ (P : Program) (rs : List ResultVar) (m : Nat) (K : Value → List Blk → Prop) : Exit → St → Prop
  | .ret, s => ∃ l, resV P s rs = some l ∧ retK m K (tup l) s.h
  | .normal, s => ∃ l, resV P s rs = some l ∧ retK m K (tup l) s.h
  | _, _ => False

def rvar (tmps : Array Value) : ResultVar → Sem Value
  | .tmp t => pure (tmps.getD t undef)
  | .cell x t => do loadVar t (← asAddr (tmps.getD x undef))

theorem results_eq (fn : Func) (tmps : Array Value) : results fn tmps = (do let vs ← fn.results.mapM (rvar tmps); pure (if h : vs.size = 1 then vs[0] else .tuple vs)) := by
  unfold results
  congr 2

theorem resV_run {P : Program} {G : Glob} {ρ : List Ent} {s : St} {a : Act} {w : World} (hs : SR G ρ s a w) : ∀ (rs : List ResultVar) (l : List Value), resV P s rs = some l →
    ∃ l', VRs ρ l l' ∧ (rs.mapM (rvar a.tmps)).run P w = .ok l' w
  | [], l, h => by simp only [resV] at h; cases h; exact ⟨[], .nil, by simp⟩
  | .tmp t :: rs, l, h => by
    simp only [resV] at h
    split at h
    · rename_i v r hv hr
      cases h
      obtain ⟨l', h1, h2⟩ := resV_run hs rs r hr
      have hv' := hs.ev hv
      refine ⟨_, .cons hv' h1, ?_⟩
      simp only [List.mapM_cons, rvar, Sem.run_bind, Sem.run_pure, Result.andThen_ok, h2]
      rfl
    · cases h
  | .cell x t :: rs, l, h => by
    simp only [resV] at h
    split at h
    · rename_i ad hx
      split at h
      · rename_i v r hv hr
        cases h
        obtain ⟨l', h1, h2⟩ := resV_run hs rs r hr
        obtain ⟨e, he, hx'⟩ := addr_eq (hs.ev hx)
        obtain ⟨v', h3, h4⟩ := partC_sound (P := P) hs.h he hv
        refine ⟨_, .cons h4 h1, ?_⟩
        simp only [Instr.loadAt, Instr.sureAddr, Sem.run_bind, Sem.run_pure, Result.andThen_ok] at h3
        simp only [Act.eval] at hx'
        have ha : ∀ (b : Addr) (w : World), (asAddr (.pointer (some b))).run P w = .ok b w := fun _ _ => by simp [asAddr]
        simp only [List.mapM_cons, rvar, Sem.run_bind, Sem.run_pure, Result.andThen_ok, h2, hx', ha, h3]
      · cases h
    · cases h

theorem CC.intro {P : Program} {G : Glob} {f : Nat} {fn : Func} {c : Code} {as : List Value} {h : List Blk} {K : Value → List Blk → Prop}
    (hf : P.funcs[f]? = some fn) (hname : (fn.name == "runtime.NumGoroutine") = false) (hb : fn.body = some c) (n : Nat) (hn : fn.ntmps = as.length + n)
    (H : swp P G h.length c (retQ P fn.results.toList h.length K) ⟨as.map some ++ List.replicate n (some undef), h⟩) : CC P G f as h K := by
  refine ⟨⟨fn, hf, hname, by rw [hb]; rfl⟩, fun ρ w as' hh hv => ?_⟩
  have hlen := hh.len
  have hvl := hv.length
  refine calls_of_wp hf hb ?_
  have hsz : as'.toArray.size = as.length := by simp [hvl]
  have htm : as'.toArray ++ Array.replicate (fn.ntmps - as'.toArray.size) undef = (as' ++ List.replicate n undef).toArray := by
    rw [hsz, hn, Nat.add_sub_cancel_left, ← List.toArray_replicate, List.append_toArray]
  rw [htm]
  have hSR : SR G ρ ⟨as.map some ++ List.replicate n (some undef), h⟩ { tmps := (as' ++ List.replicate n undef).toArray, defers := [] } w := by
    refine ⟨rfl, ⟨by simp [hvl], fun i v hi => ?_⟩, hh⟩
    by_cases hlt : i < as.length
    · rw [List.getElem?_append_left (by simpa using hlt)] at hi
      have hi' : as[i]? = some v := by
        rw [List.getElem?_map] at hi
        cases hq : as[i]? with
        | none => rw [hq] at hi; cases hi
        | some u => rw [hq] at hi; simp at hi; rw [hi]
      obtain ⟨v', h1, h2⟩ := hv.get hi'
      exact ⟨v', by simp [List.getElem?_append_left (hvl ▸ hlt : i < as'.length), h1], h2⟩
    · rw [List.getElem?_append_right (by simpa using hlt)] at hi
      have hm := List.mem_of_getElem? hi
      have hv' := (List.mem_replicate.1 hm).2
      cases hv'
      have hlt2 := (List.getElem?_eq_some_iff.1 hi).1
      simp at hlt2 hlt
      refine ⟨undef, ?_, undef_VR⟩
      simp only [List.getElem?_toArray]
      rw [List.getElem?_append_right (by omega), List.getElem?_replicate, if_pos (by omega)]
  rw [← hlen] at H
  refine Code.wp_mono (fun e a' w' hq => ?_) (swp_sound (ρ0 := ρ) (w0 := w) c _ _ ρ _ w H hSR (Ext.refl _ _))
  have fin : ∀ (ρ' : List Ent) (s' : St), (∃ l, resV P s' fn.results.toList = some l ∧ retK ρ.length K (tup l) s'.h) → SR G ρ' s' a' w' → Ext ρ ρ' w w' →
      a'.defers = [] ∧ ∃ v, (results fn a'.tmps).run P w' = .ok v w' ∧ ∃ ρ' r r' h', K r h' ∧ Ending.returned v = Ending.returned r' ∧ VR ρ' r r' ∧ HR G ρ' h' w' ∧ Ext ρ ρ' w w' := by
    intro ρ' s' hl hs hx
    obtain ⟨l, hl, hK⟩ := hl
    obtain ⟨l', hvs, hrun⟩ := resV_run hs _ l hl
    have hma : (fn.results.mapM (rvar a'.tmps)).run P w' = .ok l'.toArray w' := by
      rw [← Array.toArray_toList (xs := fn.results)]
      simp only [List.mapM_toArray, Sem.run_map, hrun, Result.andThen_ok]
    have htup : VR ρ' (tup l) (tup l') := by
      cases hvs with
      | nil => exact .tuple .nil
      | cons h1 h2 => cases h2 with
        | nil => exact h1
        | cons h2 h3 => exact .tuple (.cons h1 (.cons h2 h3))
    refine ⟨hs.d, tup l', ?_, ?_⟩
    · have key : (if h : l'.toArray.size = 1 then l'.toArray[0] else Value.tuple l'.toArray) = tup l' := by
        match l' with
        | [] => rfl
        | [v] => rfl
        | _ :: _ :: _ => simp [tup]
      have hr : (results fn a'.tmps).run P w' = .ok (if h : l'.toArray.size = 1 then l'.toArray[0] else Value.tuple l'.toArray) w' := by
        rw [results_eq]
        simp only [Sem.run_bind, hma, Result.andThen_ok, Sem.run_pure]
      rw [hr, key]
    · rcases hK with hK | ⟨k, hk1, hk2, hb1, hb2, hK⟩
      · exact ⟨ρ', tup l, tup l', s'.h, hK, rfl, htup, hs.h, hx⟩
      · have hsplit : s'.h = s'.h.take k ++ s'.h.drop k := (List.take_append_drop k s'.h).symm
        have hh2 := hs.h
        rw [hsplit] at hh2
        have hlk : (s'.h.take k).length = k := by simp; omega
        have := hh2.take (by rw [hlk]; exact bdH_mem hb2)
        rw [hlk] at this
        exact ⟨ρ'.take k, tup l, tup l', s'.h.take k, hK, rfl, htup.take hb1, this, hx.take hk1⟩
  cases e with
  | normal => obtain ⟨ρ', s', h1, h2, h3⟩ := hq; exact fin ρ' s' h1 h2 h3
  | ret => obtain ⟨ρ', s', h1, h2, h3⟩ := hq; exact fin ρ' s' h1 h2 h3
  | exit id => obtain ⟨ρ', s', h1, h2, h3⟩ := hq; exact h1.elim
  | goto l => obtain ⟨ρ', s', h1, h2, h3⟩ := hq; exact h1.elim
  | panic c => exact hq.elim
  | outgrown => exact hq.elim

end Go.Proofs.YtkcdcogmnplhjaaDoor
