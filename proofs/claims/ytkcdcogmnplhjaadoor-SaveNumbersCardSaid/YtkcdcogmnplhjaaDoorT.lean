/-
  The weakest-precondition function in the form that simp runs: the code; its soundness; a contract out of it (CC.introE). Generic in the program.
-/
import Derived.Test.YtkcdcogmnplhjaaDoorTB
namespace Go.Proofs.YtkcdcogmnplhjaaDoor
open Go
set_option linter.unusedSimpArgs false
set_option linter.unusedVariables false
set_option linter.unnecessarySimpa false

/-! ### Part 14 -/
/-! Regions that draw -/
def dK (E : List (Nat × Nat × Nat) → St → Prop) (C : List (Nat × Nat × Nat)) (s : St) (d : Option Nat) : Value → List Blk → Prop := fun v _ => E C (s.put d v)
def keepK (E : List (Nat × Nat × Nat) → St → Prop) (C : List (Nat × Nat × Nat)) (s : St) (d : Option Nat) : Value → List Blk → Prop := fun v h => keepC s.h h C ∧ E C (St.put ⟨s.t, h⟩ d v)
def finK (E : List (Nat × Nat × Nat) → St → Prop) (s : St) (d : Option Nat) : Value → List Blk → Prop := fun v h => E [] (St.put ⟨s.t, h⟩ d v)

def takeE (P : Program) (s : St) (o : Oper) (C : List (Nat × Nat × Nat)) (E : List (Nat × Nat × Nat) → St → Prop) : Prop :=
  match o.op with
  | .move x | .assign x => goV (s.ev x) (dK E C s o.dst) s.h
  | .pick c a b => pickP (s.ev c) (s.ev a) (s.ev b) (dK E C s o.dst) s.h
  | .load t x => match s.ev x, cellsN P t with
    | some (.pointer (some ad)), some n => goV (loadV P s.h t ad.block ad.off) (dK E ((ad.block, ad.off, n) :: C) s o.dst) s.h
    | _, _ => False
  | _ => goF P s o (pureV P s o.op) (dK E C s o.dst)

def takeK (P : Program) (o : Oper) (C : List (Nat × Nat × Nat)) (E : List (Nat × Nat × Nat) → St → Prop) : St → Prop := fun s => takeE P s o C E
def keepS (P : Program) (G : Glob) (o : Oper) (C : List (Nat × Nat × Nat)) (E : List (Nat × Nat × Nat) → St → Prop) : St → Prop := fun s => stepE P G s o (keepK E C s o.dst)
def finS (P : Program) (G : Glob) (o : Oper) (E : List (Nat × Nat × Nat) → St → Prop) : St → Prop := fun s => stepE P G s o (finK E s o.dst)
def skipC (E : List (Nat × Nat × Nat) → St → Prop) (C : List (Nat × Nat × Nat)) (d : Option Nat) : St → Prop := fun s => E C (s.put d undef)

def gE (os : Array Oper) (o : Oper) (A B : St → Prop) (s : St) : Prop :=
  match o.guard with
  | none => A s
  | some (j, want) => guardE (gval os j s) want A B s

def kindE (P : Program) (G : Glob) (os : Array Oper) (o : Oper) (kind : Nat) (C : List (Nat × Nat × Nat)) (E : List (Nat × Nat × Nat) → St → Prop) (s : St) : Prop :=
  match kind with
  | 0 => gE os o (takeK P o C E) (skipC E C o.dst) s
  | 1 => gE os o (keepS P G o C E) (skipC E C o.dst) s
  | _ => gE os o (finS P G o E) (skipC E [] o.dst) s

def goO (P : Program) (G : Glob) (os : Array Oper) (x : Option Oper) (kind : Nat) (C : List (Nat × Nat × Nat)) (E : List (Nat × Nat × Nat) → St → Prop) (s : St) : Prop :=
  match x with
  | some o => kindE P G os o kind C E s
  | none => False

mutual
def dopsE (P : Program) (G : Glob) (os : Array Oper) (K : St → Prop) : Scr → List (Nat × Nat × Nat) → St → Prop
  | .done, _, s => K s
  | .st i kind rest, C, s => goO P G os os[i]? kind C (dopsE P G os K rest) s
  | .br l, C, s => dopsEs P G os K l C s
def dopsEs (P : Program) (G : Glob) (os : Array Oper) (K : St → Prop) : Scrs → List (Nat × Nat × Nat) → St → Prop
  | .nil, _, _ => True
  | .cons i rest l, C, s => goO P G os os[i]? 1 C (dopsE P G os K rest) s ∧ dopsEs P G os K l C s
end

theorem takeE_take {P : Program} {s : St} {o : Oper} {C : List (Nat × Nat × Nat)} {E E' : List (Nat × Nat × Nat) → St → Prop} (hk : ∀ C s, E C s → E' C s) (H : takeE P s o C E) :
    takeP P s o C (fun v C' => E' C' (s.put o.dst v)) := by
  obtain ⟨dst, op, ty, pos, af, gd⟩ := o
  unfold takeE at H
  unfold takeP
  simp only at H ⊢
  cases op with
  | move x => simp only [pureV] at H ⊢; obtain ⟨v, h1, h2⟩ := goV_step H; rw [h1]; exact hk _ _ h2
  | assign x => simp only [pureV] at H ⊢; obtain ⟨v, h1, h2⟩ := goV_step H; rw [h1]; exact hk _ _ h2
  | pick c a b =>
    simp only [pickP] at H ⊢
    split at H
    · rename_i t ht
      simp only [ht]
      exact ⟨fun h => let ⟨v, h1, h2⟩ := goV_step (H.1 h); ⟨v, h1, hk _ _ h2⟩, fun h => let ⟨v, h1, h2⟩ := goV_step (H.2 h); ⟨v, h1, hk _ _ h2⟩⟩
    · exact H.elim
  | load t x =>
    simp only at H ⊢
    split at H
    · rename_i ad n hx hn
      simp only [hx, hn]
      obtain ⟨v, h1, h2⟩ := goV_step H
      exact ⟨v, h1, hk _ _ h2⟩
    · exact H.elim
  | _ =>
    simp only [goF, flatP] at H ⊢
    split at H
    · rename_i v hv; simp only [hv]; exact hk _ _ H
    · rename_i hv; simp only [hv]; obtain ⟨v, h1, h2⟩ := H; exact ⟨v, h1, hk _ _ h2⟩

theorem gE_guard {os : Array Oper} {o : Oper} {A B : St → Prop} {s : St} {yes no : Prop} (hA : A s → yes) (hB : B s → no) (h : gE os o A B s) : guardP os o s yes no := by
  unfold gE at h
  unfold guardP
  split at h
  · rename_i hg; simp only [hg]; exact hA h
  · rename_i j want hg
    simp only [hg]
    unfold gval guardE at h
    cases hj : os[j]? with
    | none => simp only [hj] at h
    | some oj =>
      simp only [hj] at h ⊢
      cases hd : oj.dst with
      | none => simp only [hd] at h
      | some d =>
        simp only [hd] at h ⊢
        cases ht : s.t[d]? with
        | none => simp only [ht] at h
        | some x =>
          cases x with
          | none => simp only [ht] at h
          | some v =>
            simp only [ht] at h ⊢
            cases v <;> first
              | exact h.elim
              | exact hB h
              | exact ⟨fun hh => hA (h.1 hh), fun hh => hB (h.2 hh)⟩

mutual
theorem dopsE_dops {P : Program} {G : Glob} {os : Array Oper} {K : St → Prop} : ∀ (l : Scr) (C : List (Nat × Nat × Nat)) (s : St), dopsE P G os K l C s → dopsP P G os K l C s
  | .done, C, s, h => by unfold dopsE at h; unfold dopsP; exact h
  | .st i kind rest, C, s, h => by
    unfold dopsE goO at h
    unfold dopsP
    cases ho : os[i]? with
    | none => simp only [ho] at h
    | some o =>
      simp only [ho] at h ⊢
      have ih := fun C s => dopsE_dops (P := P) (G := G) (os := os) (K := K) rest C s
      match kind, h with
      | 0, h => exact gE_guard (fun hh => takeE_take ih hh) (fun hh => ih _ _ hh) h
      | 1, h => exact gE_guard (fun hh => stepE_step (step_mono (fun v h' hh => ⟨hh.1, ih _ _ hh.2⟩) hh)) (fun hh => ih _ _ hh) h
      | k + 2, h => exact gE_guard (fun hh => stepE_step (step_mono (fun v h' hh => ih _ _ hh) hh)) (fun hh => ih _ _ hh) h
  | .br l, C, s, h => by unfold dopsE at h; unfold dopsP; exact dopsE_dopss l C s h
theorem dopsE_dopss {P : Program} {G : Glob} {os : Array Oper} {K : St → Prop} : ∀ (l : Scrs) (C : List (Nat × Nat × Nat)) (s : St), dopsEs P G os K l C s → dopsPs P G os K l C s
  | .nil, C, s, h => by unfold dopsPs; trivial
  | .cons i rest l, C, s, h => by
    unfold dopsEs goO at h
    unfold dopsPs
    refine ⟨?_, dopsE_dopss l C s h.2⟩
    have h := h.1
    cases ho : os[i]? with
    | none => simp only [ho] at h
    | some o =>
      simp only [ho] at h ⊢
      have ih := fun C s => dopsE_dops (P := P) (G := G) (os := os) (K := K) rest C s
      exact gE_guard (fun hh => stepE_step (step_mono (fun v h' hh => ⟨hh.1, ih _ _ hh.2⟩) hh)) (fun hh => ih _ _ hh) h
end

/-! Code -/
def condP (t : Option Value) (A B : St → Prop) (s : St) : Prop :=
  match t with
  | some (.bool b) => (b = true → A s) ∧ (b = false → B s)
  | _ => False

def drawE (P : Program) (G : Glob) (os : Array Oper) (K : St → Prop) (s : St) : Prop :=
  P.follows .mixedOrders = true ∧ Region.noSelect os = true ∧ ∃ script : Scr, dchk os script.fin script os.size (Array.replicate os.size false) = true ∧ dopsE P G os K script [] s

def swpE (P : Program) (G : Glob) (m : Nat) : Code → (Exit → St → Prop) → St → Prop
  | .skip, Q, s => Q .normal s
  | .region _ os draw, Q, s => if draw then drawE P G os (Q .normal) s else opsE P G os (Q .normal) os.toList s
  | .seq a b, Q, s => swpE P G m a (thn (swpE P G m b Q) Q) s
  | .cond c a b, Q, s => condP (s.ev c) (swpE P G m a Q) (swpE P G m b Q) s
  | .block id c, Q, s => swpE P G m c (blk id Q) s
  | .loop c, Q, s => loopP m (swpE P G m c) Q s
  | .exit id, Q, s => Q (.exit id) s
  | .scope c, Q, s => swpE P G m c (scp Q) s
  | .label _, Q, s => Q .normal s
  | .ret, Q, s => Q .ret s
  | _, _, _ => False

section sound
variable {P : Program} {G : Glob} {ρ0 : List Ent} {w0 : World}

theorem swpE_sound : ∀ (c : Code) (Q : Exit → St → Prop) (s : St) (ρ : List Ent) (a : Act) (w : World),
    swpE P G ρ0.length c Q s → SR G ρ s a w → Ext ρ0 ρ w0 w → c.wp P (Lift G ρ0 w0 Q) a w
  | .skip, Q, s, ρ, a, w, h, hs, hx => wp_skip ⟨ρ, s, h, hs, hx⟩
  | .region id os draw, Q, s, ρ, a, w, h, hs, hx => by
    unfold swpE at h
    cases draw with
    | false =>
      simp only [Bool.false_eq_true, if_false] at h
      exact wp_region_list (ops_sound (fun ρ s a w hK hs hx => ⟨ρ, s, hK, hs, hx⟩) _ s ρ a w (opsE_ops _ _ h) hs hx)
    | true =>
      simp only [if_true] at h
      obtain ⟨hm, hsel, script, hc, h⟩ := h
      have hs' : SR G ρ s a { w with drawn := w.drawn + 1 } := SR.same hs rfl
      have hx' : Ext ρ0 ρ w0 { w with drawn := w.drawn + 1 } := hx.trans Ext.drew
      have := dops_sound (P := P) (Q := Lift G ρ0 w0 Q) script.fin hsel (fun _ _ _ h => h) (fun ρ s a w hK hs hx => ⟨ρ, s, hK, hs, hx⟩) script os.size [] s (Array.replicate os.size false) ρ a _ [] (dopsE_dops _ _ _ h) hc hs' hx' (.inr fun p hp => by cases hp)
      exact wp_region_any hm (wpAny_of_R _ _ _ _ this)
  | .seq x y, Q, s, ρ, a, w, h, hs, hx => by
    unfold swpE at h
    refine wp_seq (Code.wp_mono (fun e a w hq => ?_) (swpE_sound x _ s ρ a w h hs hx))
    cases e with
    | normal => obtain ⟨ρ', s', h1, h2, h3⟩ := hq; exact swpE_sound y Q s' ρ' a w h1 h2 h3
    | exit id => exact hq
    | goto l => exact hq
    | ret => exact hq
    | panic c => exact hq
    | outgrown => exact hq
  | .cond c x y, Q, s, ρ, a, w, h, hs, hx => by
    unfold swpE condP at h
    split at h
    · rename_i t hc
      have hv := hs.ev hc
      have hcv : a.eval c = .bool t := by
        generalize a.eval c = u at hv
        cases hv; rfl
      refine wp_cond_split hcv (fun ht => ?_) (fun ht => ?_)
      · exact swpE_sound x Q s ρ a w (h.1 ht) hs hx
      · exact swpE_sound y Q s ρ a w (h.2 ht) hs hx
    · exact h.elim
  | .block id c, Q, s, ρ, a, w, h, hs, hx => by
    unfold swpE at h
    refine wp_block (Code.wp_mono (fun e a w hq => ?_) (swpE_sound c _ s ρ a w h hs hx))
    cases e with
    | normal => exact hq
    | exit j =>
      obtain ⟨ρ', s', h1, h2, h3⟩ := hq
      simp only [blk] at h1
      simp only [Exit.inBlock]
      split
      · rename_i hj; rw [if_pos hj] at h1; exact ⟨ρ', s', h1, h2, h3⟩
      · rename_i hj; rw [if_neg hj] at h1; exact ⟨ρ', s', h1, h2, h3⟩
    | goto l => exact hq
    | ret => exact hq
    | panic c => exact hq
    | outgrown => exact hq
  | .loop c, Q, s, ρ, a, w, h, hs, hx => by
    unfold swpE at h
    obtain ⟨α, F, inv, μ, a0, hi0, hle0, hround⟩ := h
    obtain ⟨ρ1, hs1, hx1⟩ := hs.weaken hx hle0
    refine wp_loop_ghost (fun n a w => ∃ x ρ, μ x = n ∧ inv x ∧ SR G ρ (F x) a w ∧ Ext ρ0 ρ w0 w) (μ a0) ⟨a0, ρ1, rfl, hi0, hs1, hx1⟩ fun n a w hI => ?_
    obtain ⟨x, ρx, hμ, hinv, hsx, hxx⟩ := hI
    refine Code.wp_mono (fun e a w hq => ?_) (swpE_sound c _ (F x) ρx a w (hround x hinv) hsx hxx)
    cases e with
    | normal =>
      obtain ⟨ρ', s', ⟨a', h1, h2, h3⟩, h4, h5⟩ := hq
      obtain ⟨ρ2, hs2, hx2⟩ := h4.weaken h5 h2
      exact ⟨μ a', hμ ▸ h3, a', ρ2, rfl, h1, hs2, hx2⟩
    | exit id => exact hq
    | goto l => exact hq
    | ret => exact hq
    | panic c => exact hq
    | outgrown => exact hq
  | .exit id, Q, s, ρ, a, w, h, hs, hx => wp_exit ⟨ρ, s, h, hs, hx⟩
  | .scope c, Q, s, ρ, a, w, h, hs, hx => by
    unfold swpE at h
    refine wp_scope_straight (Code.wp_mono (fun e a w hq => ?_) (swpE_sound c _ s ρ a w h hs hx))
    cases e with
    | normal => exact hq
    | exit j => exact hq
    | goto l => obtain ⟨ρ', s', h1, h2, h3⟩ := hq; exact h1.elim
    | ret => exact hq
    | panic c => exact hq
    | outgrown => exact hq
  | .label l, Q, s, ρ, a, w, h, hs, hx => wp_label ⟨ρ, s, h, hs, hx⟩
  | .ret, Q, s, ρ, a, w, h, hs, hx => wp_ret ⟨ρ, s, h, hs, hx⟩
  | .rangeFunc .., Q, s, ρ, a, w, h, hs, hx => by unfold swpE at h; exact h.elim
  | .goto _, Q, s, ρ, a, w, h, hs, hx => by unfold swpE at h; exact h.elim
  | .refuse _, Q, s, ρ, a, w, h, hs, hx => by unfold swpE at h; exact h.elim

end sound

def goR (o : Option (List Value)) (m : Nat) (K : Value → List Blk → Prop) (h : List Blk) : Prop :=
  match o with
  | some l => retK m K (tup l) h
  | none => False

def retE (P : Program) (rs : List ResultVar) (m : Nat) (K : Value → List Blk → Prop) : Exit → St → Prop
  | .ret, s => goR (resV P s rs) m K s.h
  | .normal, s => goR (resV P s rs) m K s.h
  | _, _ => False

theorem CC.introW {P : Program} {G : Glob} {f : Nat} {fn : Func} {c : Code} {as : List Value} {h : List Blk} {K : Value → List Blk → Prop}
    (hf : P.funcs[f]? = some fn) (hname : (fn.name == "runtime.NumGoroutine") = false) (hb : fn.body = some c) (n : Nat) (hn : fn.ntmps = as.length + n)
    (H : ∀ (ρ : List Ent) (a : Act) (w : World), ρ.length = h.length → SR G ρ ⟨as.map some ++ List.replicate n (some undef), h⟩ a w → c.wp P (Lift G ρ w (retE P fn.results.toList h.length K)) a w) : CC P G f as h K := by
  refine ⟨⟨fn, hf, hname, by rw [hb]; rfl⟩, fun ρ w as' hh hv => ?_⟩
  have hlen := hh.len
  have hvl := hv.length
  refine calls_of_wp hf hb ?_
  have hsz : as'.toArray.size = as.length := by simp [hvl]
  have htm : as'.toArray ++ Array.replicate (fn.ntmps - as'.toArray.size) undef = (as' ++ List.replicate n undef).toArray := by
    rw [hsz, hn, Nat.add_sub_cancel_left, ← List.toArray_replicate, List.append_toArray]
  rw [htm]
  have hSR : SR G ρ ⟨as.map some ++ List.replicate n (some undef), h⟩ { tmps := (as' ++ List.replicate n undef).toArray, defers := [] } w := by
    refine ⟨rfl, ⟨by simp [hvl], fun i v hi => ?_⟩, hh⟩
    by_cases hlt : i < as.length
    · rw [List.getElem?_append_left (by simpa using hlt)] at hi
      have hi' : as[i]? = some v := by
        rw [List.getElem?_map] at hi
        cases hq : as[i]? with
        | none => rw [hq] at hi; cases hi
        | some u => rw [hq] at hi; simp at hi; rw [hi]
      obtain ⟨v', h1, h2⟩ := hv.get hi'
      exact ⟨v', by simp [List.getElem?_append_left (hvl ▸ hlt : i < as'.length), h1], h2⟩
    · rw [List.getElem?_append_right (by simpa using hlt)] at hi
      have hm := List.mem_of_getElem? hi
      have hv' := (List.mem_replicate.1 hm).2
      cases hv'
      have hlt2 := (List.getElem?_eq_some_iff.1 hi).1
      simp at hlt2 hlt
      refine ⟨undef, ?_, undef_VR⟩
      simp only [List.getElem?_toArray]
      rw [List.getElem?_append_right (by omega), List.getElem?_replicate, if_pos (by omega)]
  have H := H ρ _ w hlen hSR
  rw [← hlen] at H
  refine Code.wp_mono (fun e a' w' hq => ?_) H
  have fin : ∀ (ρ' : List Ent) (s' : St), goR (resV P s' fn.results.toList) ρ.length K s'.h → SR G ρ' s' a' w' → Ext ρ ρ' w w' →
      a'.defers = [] ∧ ∃ v, (results fn a'.tmps).run P w' = .ok v w' ∧ ∃ ρ' r r' h', K r h' ∧ Ending.returned v = Ending.returned r' ∧ VR ρ' r r' ∧ HR G ρ' h' w' ∧ Ext ρ ρ' w w' := by
    intro ρ' s' hl hs hx
    have hl2 : ∃ l, resV P s' fn.results.toList = some l ∧ retK ρ.length K (tup l) s'.h := by
      unfold goR at hl
      split at hl
      · rename_i l hh; exact ⟨l, hh, hl⟩
      · exact hl.elim
    obtain ⟨l, hl, hK⟩ := hl2
    obtain ⟨l', hvs, hrun⟩ := resV_run hs _ l hl
    have hma : (fn.results.mapM (rvar a'.tmps)).run P w' = .ok l'.toArray w' := by
      rw [← Array.toArray_toList (xs := fn.results)]
      simp only [List.mapM_toArray, Sem.run_map, hrun, Result.andThen_ok]
    have htup : VR ρ' (tup l) (tup l') := by
      cases hvs with
      | nil => exact .tuple .nil
      | cons h1 h2 => cases h2 with
        | nil => exact h1
        | cons h2 h3 => exact .tuple (.cons h1 (.cons h2 h3))
    refine ⟨hs.d, tup l', ?_, ?_⟩
    · have key : (if h : l'.toArray.size = 1 then l'.toArray[0] else Value.tuple l'.toArray) = tup l' := by
        match l' with
        | [] => rfl
        | [v] => rfl
        | _ :: _ :: _ => simp [tup]
      have hr : (results fn a'.tmps).run P w' = .ok (if h : l'.toArray.size = 1 then l'.toArray[0] else Value.tuple l'.toArray) w' := by
        rw [results_eq]
        simp only [Sem.run_bind, hma, Result.andThen_ok, Sem.run_pure]
      rw [hr, key]
    · rcases hK with hK | ⟨k, hk1, hk2, hb1, hb2, hK⟩
      · exact ⟨ρ', tup l, tup l', s'.h, hK, rfl, htup, hs.h, hx⟩
      · have hsplit : s'.h = s'.h.take k ++ s'.h.drop k := (List.take_append_drop k s'.h).symm
        have hh2 := hs.h
        rw [hsplit] at hh2
        have hlk : (s'.h.take k).length = k := by simp; omega
        have := hh2.take (by rw [hlk]; exact bdH_mem hb2)
        rw [hlk] at this
        exact ⟨ρ'.take k, tup l, tup l', s'.h.take k, hK, rfl, htup.take hb1, this, hx.take hk1⟩
  cases e with
  | normal => obtain ⟨ρ', s', h1, h2, h3⟩ := hq; exact fin ρ' s' h1 h2 h3
  | ret => obtain ⟨ρ', s', h1, h2, h3⟩ := hq; exact fin ρ' s' h1 h2 h3
  | exit id => obtain ⟨ρ', s', h1, h2, h3⟩ := hq; exact h1.elim
  | goto l => obtain ⟨ρ', s', h1, h2, h3⟩ := hq; exact h1.elim
  | panic c => exact hq.elim
  | outgrown => exact hq.elim

theorem CC.introE {P : Program} {G : Glob} {f : Nat} {fn : Func} {c : Code} {as : List Value} {h : List Blk} {K : Value → List Blk → Prop}
    (hf : P.funcs[f]? = some fn) (hname : (fn.name == "runtime.NumGoroutine") = false) (hb : fn.body = some c) (n : Nat) (hn : fn.ntmps = as.length + n)
    (H : swpE P G h.length c (retE P fn.results.toList h.length K) ⟨as.map some ++ List.replicate n (some undef), h⟩) : CC P G f as h K :=
  CC.introW hf hname hb n hn fun ρ a w hl hs => swpE_sound (ρ0 := ρ) (w0 := w) c _ _ ρ a w (hl ▸ H) hs (Ext.refl _ _)

/-! Steps of a walk -/
theorem retK_all {m : Nat} {K : Value → List Blk → Prop} {r : Value} {h : List Blk} (H : K r h) : retK m K r h := .inl H
theorem retK_cut {m : Nat} {K : Value → List Blk → Prop} {r : Value} {h : List Blk} (n : Nat) (h1 : m ≤ n) (h2 : n ≤ h.length) (h3 : bd n r = true) (h4 : bdH n (h.take n) = true) (H : K r (h.take n)) : retK m K r h :=
  .inr ⟨n, h1, h2, h3, h4, H⟩
theorem condP_split {t : Bool} {A B : St → Prop} {s : St} (h1 : t = true → A s) (h2 : t = false → B s) : condP (some (.bool t)) A B s := ⟨h1, h2⟩
theorem guardE_split {t want : Bool} {A B : St → Prop} {s : St} (h1 : t = want → A s) (h2 : t = !want → B s) : guardE (some (.bool t)) want A B s := ⟨h1, h2⟩
theorem pickP_split {t : Bool} {a b : Option Value} {K : Value → List Blk → Prop} {h : List Blk} (h1 : t = true → goV a K h) (h2 : t = false → goV b K h) : pickP (some (.bool t)) a b K h := ⟨h1, h2⟩
theorem loopP_intro {m : Nat} {W : (Exit → St → Prop) → St → Prop} {Q : Exit → St → Prop} {s : St} {α : Type} (F : α → St) (inv : α → Prop) (μ : α → Nat) (a0 : α)
    (h1 : inv a0) (h2 : Le m (F a0) s) (h3 : ∀ a, inv a → W (thn (fun s' => ∃ a', inv a' ∧ Le m (F a') s' ∧ μ a' < μ a) Q) (F a)) : loopP m W Q s := ⟨α, F, inv, μ, a0, h1, h2, h3⟩
theorem drawE_intro {P : Program} {G : Glob} {os : Array Oper} {K : St → Prop} {s : St} (script : Scr) (hm : P.follows .mixedOrders = true) (hsel : Region.noSelect os = true)
    (hc : dchk os script.fin script os.size (Array.replicate os.size false) = true) (h : dopsE P G os K script [] s) : drawE P G os K s := ⟨hm, hsel, script, hc, h⟩

/-! What 'simp' runs -/
section eqs
variable {P : Program} {G : Glob} {m : Nat} {os : Array Oper} {K : Value → List Blk → Prop} {h : List Blk} {A B : St → Prop} {s : St}
@[simp] theorem swpE_skip {Q : Exit → St → Prop} : swpE P G m .skip Q s = Q .normal s := id rfl
@[simp] theorem swpE_seq {a b : Code} {Q : Exit → St → Prop} : swpE P G m (.seq a b) Q s = swpE P G m a (thn (swpE P G m b Q) Q) s := id rfl
@[simp] theorem swpE_cond {c : Operand} {a b : Code} {Q : Exit → St → Prop} : swpE P G m (.cond c a b) Q s = condP (s.ev c) (swpE P G m a Q) (swpE P G m b Q) s := id rfl
@[simp] theorem swpE_region {i : Nat} {l : List Oper} {Q : Exit → St → Prop} : swpE P G m (.region i l.toArray false) Q s = opsE P G l.toArray (Q .normal) l s := id rfl
@[simp] theorem swpE_draw {i : Nat} {Q : Exit → St → Prop} : swpE P G m (.region i os true) Q s = drawE P G os (Q .normal) s := id rfl
@[simp] theorem swpE_block {i : Nat} {c : Code} {Q : Exit → St → Prop} : swpE P G m (.block i c) Q s = swpE P G m c (blk i Q) s := id rfl
@[simp] theorem swpE_loop {c : Code} {Q : Exit → St → Prop} : swpE P G m (.loop c) Q s = loopP m (swpE P G m c) Q s := id rfl
@[simp] theorem swpE_exit {i : Nat} {Q : Exit → St → Prop} : swpE P G m (.exit i) Q s = Q (.exit i) s := id rfl
@[simp] theorem swpE_scope {c : Code} {Q : Exit → St → Prop} : swpE P G m (.scope c) Q s = swpE P G m c (scp Q) s := id rfl
@[simp] theorem swpE_label {i : Nat} {Q : Exit → St → Prop} : swpE P G m (.label i) Q s = Q .normal s := id rfl
@[simp] theorem swpE_ret {Q : Exit → St → Prop} : swpE P G m .ret Q s = Q .ret s := id rfl
@[simp] theorem thn_normal {next : St → Prop} {Q : Exit → St → Prop} : thn next Q .normal s = next s := id rfl
@[simp] theorem thn_exit {next : St → Prop} {Q : Exit → St → Prop} {i : Nat} : thn next Q (.exit i) s = Q (.exit i) s := id rfl
@[simp] theorem thn_ret {next : St → Prop} {Q : Exit → St → Prop} : thn next Q .ret s = Q .ret s := id rfl
@[simp] theorem blk_normal {i : Nat} {Q : Exit → St → Prop} : blk i Q .normal s = Q .normal s := id rfl
@[simp] theorem blk_exit {i j : Nat} {Q : Exit → St → Prop} : blk i Q (.exit j) s = if j = i then Q .normal s else Q (.exit j) s := id rfl
@[simp] theorem blk_ret {i : Nat} {Q : Exit → St → Prop} : blk i Q .ret s = Q .ret s := id rfl
@[simp] theorem scp_normal {Q : Exit → St → Prop} : scp Q .normal s = Q .normal s := id rfl
@[simp] theorem scp_exit {Q : Exit → St → Prop} {i : Nat} : scp Q (.exit i) s = Q (.exit i) s := id rfl
@[simp] theorem scp_ret {Q : Exit → St → Prop} : scp Q .ret s = Q .ret s := id rfl
@[simp] theorem condP_true : condP (some (.bool true)) A B s = A s := by simp [condP]
@[simp] theorem condP_false : condP (some (.bool false)) A B s = B s := by simp [condP]
@[simp] theorem guardE_true {t : Bool} : guardE (some (.bool t)) t A B s = A s := by cases t <;> simp [guardE]
@[simp] theorem guardE_ft : guardE (some (.bool false)) true A B s = B s := by simp [guardE]
@[simp] theorem guardE_tf : guardE (some (.bool true)) false A B s = B s := by simp [guardE]
@[simp] theorem guardE_undef {l : Array Value} {want : Bool} : guardE (some (.tuple l)) want A B s = B s := id rfl
@[simp] theorem opsE_nil {K : St → Prop} : opsE P G os K [] s = K s := id rfl
@[simp] theorem opsE_cons {K : St → Prop} {d : Option Nat} {op : Op} {ty : Nat} {p : String} {af : Array Edge} {r : List Oper} :
    opsE P G os K (⟨d, op, ty, p, af, none⟩ :: r) s = stepE P G s ⟨d, op, ty, p, af, none⟩ (opsK (opsE P G os K r) d s.t) := id rfl
@[simp] theorem opsE_guard {K : St → Prop} {d : Option Nat} {op : Op} {ty : Nat} {p : String} {af : Array Edge} {r : List Oper} {j : Nat} {want : Bool} :
    opsE P G os K (⟨d, op, ty, p, af, some (j, want)⟩ :: r) s = guardE (gval os j s) want (stepK P G ⟨d, op, ty, p, af, some (j, want)⟩ (opsE P G os K r)) (skipK (opsE P G os K r) d) s := id rfl
@[simp] theorem opsK_app {d : Option Nat} {t : List (Option Value)} {v : Value} : opsK A d t v h = A (St.put ⟨t, h⟩ d v) := id rfl
@[simp] theorem skipK_app {d : Option Nat} : skipK A d s = A (s.put d undef) := id rfl
@[simp] theorem stepK_app {o : Oper} : stepK P G o A s = stepE P G s o (opsK A o.dst s.t) := id rfl
@[simp] theorem goV_some {v : Value} : goV (some v) K h = K v h := id rfl
@[simp] theorem goH_some : goH (some h) K = K undef h := id rfl
@[simp] theorem goF_some {o : Oper} {v : Value} : goF P s o (some v) K = K v s.h := id rfl
@[simp] theorem goF_none {o : Oper} : goF P s o none K = flatP P s o K := id rfl
@[simp] theorem goR_some {l : List Value} : goR (some l) m K h = retK m K (tup l) h := id rfl
@[simp] theorem goC_some {e n : Nat} {c : List Value} : goC e n (some c) K h = K (.slice (some ⟨h.length, 0, none⟩) n n) (h ++ [⟨true, e, c⟩]) := id rfl
@[simp] theorem pickP_true {a b : Option Value} : pickP (some (.bool true)) a b K h = goV a K h := by simp [pickP]
@[simp] theorem pickP_false {a b : Option Value} : pickP (some (.bool false)) a b K h = goV b K h := by simp [pickP]
@[simp] theorem put_some {t : List (Option Value)} {d : Nat} {v : Value} : St.put ⟨t, h⟩ (some d) v = ⟨t.set d (some v), h⟩ := id rfl
@[simp] theorem put_none {t : List (Option Value)} {v : Value} : St.put ⟨t, h⟩ none v = ⟨t, h⟩ := id rfl
@[simp] theorem dopsE_done {K : St → Prop} {C : List (Nat × Nat × Nat)} : dopsE P G os K .done C s = K s := by simp only [dopsE]
@[simp] theorem dopsE_st {K : St → Prop} {C : List (Nat × Nat × Nat)} {i k : Nat} {r : Scr} : dopsE P G os K (.st i k r) C s = goO P G os os[i]? k C (dopsE P G os K r) s := by simp only [dopsE]
@[simp] theorem dopsE_br {K : St → Prop} {C : List (Nat × Nat × Nat)} {l : Scrs} : dopsE P G os K (.br l) C s = dopsEs P G os K l C s := by simp only [dopsE]
@[simp] theorem dopsEs_nil {K : St → Prop} {C : List (Nat × Nat × Nat)} : dopsEs P G os K .nil C s = True := by simp only [dopsEs]
@[simp] theorem dopsEs_cons {K : St → Prop} {C : List (Nat × Nat × Nat)} {i : Nat} {r : Scr} {l : Scrs} : dopsEs P G os K (.cons i r l) C s = (goO P G os os[i]? 1 C (dopsE P G os K r) s ∧ dopsEs P G os K l C s) := by simp only [dopsEs]
@[simp] theorem dK_app {E : List (Nat × Nat × Nat) → St → Prop} {C : List (Nat × Nat × Nat)} {d : Option Nat} {v : Value} : dK E C s d v h = E C (s.put d v) := id rfl
@[simp] theorem keepK_app {E : List (Nat × Nat × Nat) → St → Prop} {C : List (Nat × Nat × Nat)} {d : Option Nat} {v : Value} : keepK E C s d v h = (keepC s.h h C ∧ E C (St.put ⟨s.t, h⟩ d v)) := id rfl
@[simp] theorem finK_app {E : List (Nat × Nat × Nat) → St → Prop} {d : Option Nat} {v : Value} : finK E s d v h = E [] (St.put ⟨s.t, h⟩ d v) := id rfl
@[simp] theorem takeK_app {E : List (Nat × Nat × Nat) → St → Prop} {C : List (Nat × Nat × Nat)} {o : Oper} : takeK P o C E s = takeE P s o C E := id rfl
@[simp] theorem keepS_app {E : List (Nat × Nat × Nat) → St → Prop} {C : List (Nat × Nat × Nat)} {o : Oper} : keepS P G o C E s = stepE P G s o (keepK E C s o.dst) := id rfl
@[simp] theorem finS_app {E : List (Nat × Nat × Nat) → St → Prop} {o : Oper} : finS P G o E s = stepE P G s o (finK E s o.dst) := id rfl
@[simp] theorem skipC_app {E : List (Nat × Nat × Nat) → St → Prop} {C : List (Nat × Nat × Nat)} {d : Option Nat} : skipC E C d s = E C (s.put d undef) := id rfl
@[simp] theorem goO_some {E : List (Nat × Nat × Nat) → St → Prop} {C : List (Nat × Nat × Nat)} {o : Oper} {k : Nat} : goO P G os (some o) k C E s = kindE P G os o k C E s := id rfl
end eqs
attribute [simp] eqA eqC ints stepE loadE storeE allocE boxE bsliceE msliceE callE invokeE goM takeE gE kindE retE gval St.ev pureV binV intV unV partsEv argsEv bndV sliceV lenV mm2 mmL loadV storeV partC vcells addO fillC resV tup keepC seg cellsN

attribute [irreducible] swpE
end Go.Proofs.YtkcdcogmnplhjaaDoor
