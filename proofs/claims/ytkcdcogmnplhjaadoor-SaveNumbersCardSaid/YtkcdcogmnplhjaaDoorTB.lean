/-
  The weakest-precondition function once more, in a form that simp runs: the operations. Generic in the program.
-/
import Derived.Test.YtkcdcogmnplhjaaDoorTA
namespace Go.Proofs.YtkcdcogmnplhjaaDoor
open Go
set_option linter.unusedSimpArgs false
set_option linter.unusedVariables false
set_option linter.unnecessarySimpa false

/-! ### Part 13 -/
/-! The same once more, in a form that 'simp' runs: continuations are never under a binder; it stands still at a branch that is not decided, a call, a loop, a region that draws. -/
def goV (o : Option Value) (K : Value → List Blk → Prop) (h : List Blk) : Prop :=
  match o with
  | some v => K v h
  | none => False
def goH (o : Option (List Blk)) (K : Value → List Blk → Prop) : Prop :=
  match o with
  | some h => K undef h
  | none => False
def flatP (P : Program) (s : St) (o : Oper) (K : Value → List Blk → Prop) : Prop := ∃ v, FlatRun P s o v ∧ K v s.h
def goF (P : Program) (s : St) (o : Oper) (x : Option Value) (K : Value → List Blk → Prop) : Prop :=
  match x with
  | some v => K v s.h
  | none => flatP P s o K
def pickP (c a b : Option Value) (K : Value → List Blk → Prop) (h : List Blk) : Prop :=
  match c with
  | some (.bool t) => (t = true → goV a K h) ∧ (t = false → goV b K h)
  | _ => False
def loadE (P : Program) (t : Nat) (x : Option Value) (K : Value → List Blk → Prop) (h : List Blk) : Prop :=
  match x with
  | some (.pointer (some ad)) => goV (loadV P h t ad.block ad.off) K h
  | _ => False
def storeE (P : Program) (t : Nat) (x y : Option Value) (K : Value → List Blk → Prop) (h : List Blk) : Prop :=
  match x, y with
  | some (.pointer (some ad)), some v => goH (storeV P h t ad.block ad.off v) K
  | _, _ => False
def allocE (P : Program) (t : Nat) (K : Value → List Blk → Prop) (h : List Blk) : Prop :=
  match zeroT P t with
  | some z => fl z = true ∧ K (.pointer (some ⟨h.length, 0, none⟩)) (h ++ [⟨true, t, vcells z⟩])
  | none => False
def boxE (t : Nat) (x : Option Value) (K : Value → List Blk → Prop) (h : List Blk) : Prop :=
  match x with
  | some v => K (.pointer (some ⟨h.length, 0, none⟩)) (h ++ [⟨true, t, vcells v⟩])
  | none => False
def goC (e n : Nat) (o : Option (List Value)) (K : Value → List Blk → Prop) (h : List Blk) : Prop :=
  match o with
  | some c => K (.slice (some ⟨h.length, 0, none⟩) n n) (h ++ [⟨true, e, c⟩])
  | none => False
def bsliceE (P : Program) (t n : Nat) (ps : Option (List (Nat × Value))) (K : Value → List Blk → Prop) (h : List Blk) : Prop :=
  match elemT P t, ps with
  | some (e, sz, _, z), some ps => n * sz ≤ 16777216 ∧ goC e n (fillC (fun i => some (i * sz, sz)) (rep n z) ps) K h
  | _, _ => False
def msliceE (P : Program) (t : Nat) (l c : Option Value) (K : Value → List Blk → Prop) (h : List Blk) : Prop :=
  match elemT P t, l, c with
  | some (e, _, by', z), some (.int _ l), some (.int _ c) => 0 ≤ l ∧ l ≤ c ∧ c < 9223372036854775807 ∧ by' * c ≤ 281474976710656 ∧
      K (.slice (some ⟨h.length, 0, none⟩) l.toNat c.toNat) (h ++ [⟨true, e, rep c.toNat z⟩])
  | _, _, _ => False
def callE (P : Program) (G : Glob) (f : Option Value) (as : Option (List Value)) (K : Value → List Blk → Prop) (h : List Blk) : Prop :=
  match f, as with
  | some (.func (.func n) ⟨[]⟩ ⟨[]⟩), some as => CC P G n as h K
  | _, _ => False
def goM (P : Program) (G : Glob) (n : Option Nat) (as : List Value) (K : Value → List Blk → Prop) (h : List Blk) : Prop :=
  match n with
  | some n => CC P G n as h K
  | none => False
def invokeE (P : Program) (G : Glob) (r : Option Value) (name : String) (as : Option (List Value)) (K : Value → List Blk → Prop) (h : List Blk) : Prop :=
  match r, as with
  | some (.iface t v), some as => goM P G (methT P t name) (v :: as) K h
  | _, _ => False
def appE (P : Program) (ts : List Nat) (as : Option (List Value)) (K : Value → List Blk → Prop) (h : List Blk) : Prop :=
  match as, ts with
  | some [sl, xs], [t, t'] => t = t' ∧ appendStep P h t sl xs K
  | _, _ => False
def copyE (P : Program) (ts : List Nat) (as : Option (List Value)) (K : Value → List Blk → Prop) (h : List Blk) : Prop :=
  match as, ts with
  | some [sl, xs], [t, _] => copyStep P h t sl xs K
  | _, _ => False
def clearE (P : Program) (ts : List Nat) (as : Option (List Value)) (K : Value → List Blk → Prop) (h : List Blk) : Prop :=
  match as, ts with
  | some [x], [t] => clearStep P h t x K
  | _, _ => False

def stepE (P : Program) (G : Glob) (s : St) (o : Oper) (K : Value → List Blk → Prop) : Prop :=
  match o.op with
  | .move x | .assign x => goV (s.ev x) K s.h
  | .pick c a b => pickP (s.ev c) (s.ev a) (s.ev b) K s.h
  | .load t x => loadE P t (s.ev x) K s.h
  | .store t x y => storeE P t (s.ev x) (s.ev y) K s.h
  | .alloc t => allocE P t K s.h
  | .box t x => boxE t (s.ev x) K s.h
  | .buildSlice t n parts => bsliceE P t n (partsEv s parts.toList) K s.h
  | .makeSlice t l c => msliceE P t (s.ev l) (s.ev c) K s.h
  | .call c => match c.callee with
    | .value f => callE P G (s.ev f) (argsEv s c.args.toList) K s.h
    | .invoke r name => invokeE P G (s.ev r) name (argsEv s c.args.toList) K s.h
    | .builtin .append => appE P c.argTypes.toList (argsEv s c.args.toList) K s.h
    | .builtin .copy => copyE P c.argTypes.toList (argsEv s c.args.toList) K s.h
    | .builtin .clear => clearE P c.argTypes.toList (argsEv s c.args.toList) K s.h
    | _ => goV (pureV P s (.call c)) K s.h
  | op => goF P s o (pureV P s op) K

theorem goV_step {o : Option Value} {K : Value → List Blk → Prop} {h : List Blk} (H : goV o K h) : ∃ v, o = some v ∧ K v h := by
  cases o with
  | none => exact H.elim
  | some v => exact ⟨v, rfl, H⟩

theorem stepE_step {P : Program} {G : Glob} {s : St} {o : Oper} {K : Value → List Blk → Prop} (H : stepE P G s o K) : step P G s o K := by
  obtain ⟨dst, op, ty, pos, af, gd⟩ := o
  unfold stepE at H
  unfold step
  simp only at H ⊢
  cases op with
  | move x => simp only [pureV] at H ⊢; obtain ⟨v, h1, h2⟩ := goV_step H; rw [h1]; exact h2
  | assign x => simp only [pureV] at H ⊢; obtain ⟨v, h1, h2⟩ := goV_step H; rw [h1]; exact h2
  | pick c a b =>
    simp only [pickP] at H ⊢
    split at H
    · rename_i t ht
      simp only [ht]
      exact ⟨fun h => goV_step (H.1 h), fun h => goV_step (H.2 h)⟩
    · exact H.elim
  | load t x =>
    simp only [loadE] at H ⊢
    split at H
    · rename_i ad hx; simp only [hx]; exact goV_step H
    · exact H.elim
  | store t x y =>
    simp only [storeE] at H ⊢
    split at H
    · rename_i ad v hx hy
      simp only [hx, hy]
      unfold goH at H
      split at H
      · rename_i h hh; exact ⟨h, hh, H⟩
      · exact H.elim
    · exact H.elim
  | alloc t => exact H
  | box t x => exact H
  | buildSlice t n parts =>
    simp only [bsliceE] at H ⊢
    split at H
    · rename_i e sz b z ps he hp
      simp only [he, hp]
      refine ⟨H.1, ?_⟩
      have := H.2
      unfold goC at this
      split at this
      · rename_i c hc; exact ⟨c, hc, this⟩
      · exact this.elim
    · exact H.elim
  | makeSlice t l c => exact H
  | call c =>
    obtain ⟨cal, args, tys⟩ := c
    cases cal with
    | value f =>
      simp only [callE] at H ⊢
      exact H
    | invoke r name =>
      simp only [invokeE] at H ⊢
      split at H
      · rename_i t v as hr has
        simp only [hr, has]
        exact H
      · exact H.elim
    | builtin b =>
      cases b
      case append => exact H
      case copy => exact H
      case clear => exact H
      all_goals (simp only at H ⊢; obtain ⟨v, h1, h2⟩ := goV_step H; rw [h1]; exact h2)
  | _ => exact H

def opsK (E : St → Prop) (d : Option Nat) (t : List (Option Value)) : Value → List Blk → Prop :=
  fun v h => E (St.put ⟨t, h⟩ d v)
def skipK (E : St → Prop) (d : Option Nat) : St → Prop := fun s => E (s.put d undef)
def stepK (P : Program) (G : Glob) (o : Oper) (E : St → Prop) : St → Prop := fun s => stepE P G s o (opsK E o.dst s.t)

def gval (os : Array Oper) (j : Nat) (s : St) : Option Value :=
  match os[j]? with
  | some oj => match oj.dst with
    | some d => match s.t[d]? with
      | some (some v) => some v
      | _ => none
    | none => none
  | none => none

def guardE (b : Option Value) (want : Bool) (A B : St → Prop) (s : St) : Prop :=
  match b with
  | some (.bool t) => (t = want → A s) ∧ (t = !want → B s)
  | some (.tuple _) => B s
  | _ => False

def opsE (P : Program) (G : Glob) (os : Array Oper) (K : St → Prop) : List Oper → St → Prop
  | [], s => K s
  | o :: rest, s => match o.guard with
    | none => stepE P G s o (opsK (opsE P G os K rest) o.dst s.t)
    | some (j, want) => guardE (gval os j s) want (stepK P G o (opsE P G os K rest)) (skipK (opsE P G os K rest) o.dst) s

theorem step_mono {P : Program} {G : Glob} {s : St} {o : Oper} {K K' : Value → List Blk → Prop} (hk : ∀ v h, K v h → K' v h) (H : stepE P G s o K) : stepE P G s o K' := by
  have gv : ∀ {x : Option Value} {h : List Blk}, goV x K h → goV x K' h := by
    intro x h H; cases x with
    | none => exact H
    | some v => exact hk _ _ H
  obtain ⟨dst, op, ty, pos, af, gd⟩ := o
  unfold stepE at H ⊢
  simp only at H ⊢
  cases op with
  | move x => exact gv H
  | assign x => exact gv H
  | pick c a b =>
    simp only [pickP] at H ⊢
    split at H
    · exact ⟨fun h => gv (H.1 h), fun h => gv (H.2 h)⟩
    · exact H
  | load t x =>
    simp only [loadE] at H ⊢
    split at H
    · exact gv H
    · exact H
  | store t x y =>
    simp only [storeE] at H ⊢
    split at H
    · unfold goH at H ⊢
      split at H
      · exact hk _ _ H
      · exact H
    · exact H
  | alloc t =>
    simp only [allocE] at H ⊢
    split at H
    · exact ⟨H.1, hk _ _ H.2⟩
    · exact H
  | box t x =>
    simp only [boxE] at H ⊢
    split at H
    · exact hk _ _ H
    · exact H
  | buildSlice t n parts =>
    simp only [bsliceE] at H ⊢
    split at H
    · refine ⟨H.1, ?_⟩
      have := H.2
      unfold goC at this ⊢
      split at this
      · exact hk _ _ this
      · exact this
    · exact H
  | makeSlice t l c =>
    simp only [msliceE] at H ⊢
    split at H
    · exact ⟨H.1, H.2.1, H.2.2.1, H.2.2.2.1, hk _ _ H.2.2.2.2⟩
    · exact H
  | call c =>
    obtain ⟨cal, args, tys⟩ := c
    cases cal with
    | value f =>
      simp only [callE] at H ⊢
      split at H
      · exact H.mono hk
      · exact H
    | invoke r name =>
      simp only [invokeE] at H ⊢
      split at H
      · unfold goM at H ⊢
        split at H
        · exact H.mono hk
        · exact H
      · exact H
    | builtin b =>
      cases b
      case append =>
        simp only [appE] at H ⊢
        split at H
        · refine ⟨H.1, ?_⟩
          have := H.2
          unfold appendStep at this ⊢
          split at this
          · exact ⟨this.1, hk _ _ this.2⟩
          · obtain ⟨news, h1, h2, h3, h4, h5, h6⟩ := this
            exact ⟨news, h1, h2, h3, h4, fun h => hk _ _ (h5 h), fun h cap rest a b c => hk _ _ (h6 h cap rest a b c)⟩
          · obtain ⟨b, news, h1, h2, h3, h4, h5, h6, h7, h8, h9⟩ := this
            refine ⟨b, news, h1, h2, h3, h4, h5, h6, h7, h8, ?_⟩
            rcases h9 with ⟨g1, g2⟩ | ⟨g1, g2, g3, g4⟩
            · exact .inl ⟨g1, hk _ _ g2⟩
            · exact .inr ⟨g1, g2, g3, fun cap' rest a b c => hk _ _ (g4 cap' rest a b c)⟩
          · exact this
        · exact H
      case copy =>
        simp only [copyE] at H ⊢
        split at H
        · unfold copyStep at H ⊢
          split at H
          · exact hk _ _ H
          · obtain ⟨b, news, h1, h2, h3, h4, h5, h6⟩ := H
            exact ⟨b, news, h1, h2, h3, h4, h5, hk _ _ h6⟩
          · exact H
        · exact H
      case clear =>
        simp only [clearE] at H ⊢
        split at H
        · unfold clearStep at H ⊢
          split at H
          · exact hk _ _ H
          · obtain ⟨b, h1, h2, h3, h4, h5⟩ := H
            exact ⟨b, h1, h2, h3, h4, hk _ _ h5⟩
          · exact H
        · exact H
      all_goals exact gv H
  | _ =>
    simp only [goF, flatP] at H ⊢
    split at H
    · exact hk _ _ H
    · obtain ⟨v, h1, h2⟩ := H; exact ⟨v, h1, hk _ _ h2⟩

theorem opsE_ops {P : Program} {G : Glob} {os : Array Oper} {K : St → Prop} : ∀ (l : List Oper) (s : St), opsE P G os K l s → opsP P G os K l s
  | [], _, h => h
  | o :: rest, s, h => by
    unfold opsE at h
    unfold opsP guardP
    split at h
    · rename_i hg
      simp only [hg]
      exact stepE_step (step_mono (fun v h' hh => opsE_ops rest _ hh) h)
    · rename_i j want hg
      simp only [hg]
      unfold gval guardE at h
      cases hj : os[j]? with
      | none => simp only [hj] at h
      | some oj =>
        simp only [hj] at h ⊢
        cases hd : oj.dst with
        | none => simp only [hd] at h
        | some d =>
          simp only [hd] at h ⊢
          cases ht : s.t[d]? with
          | none => simp only [ht] at h
          | some x =>
            cases x with
            | none => simp only [ht] at h
            | some v =>
              simp only [ht] at h ⊢
              cases v <;> first
                | exact h.elim
                | exact opsE_ops rest _ h
                | exact ⟨fun hh => stepE_step (step_mono (fun v h' hh => opsE_ops rest _ hh) (h.1 hh)), fun hh => opsE_ops rest _ (h.2 hh)⟩

end Go.Proofs.YtkcdcogmnplhjaaDoor
