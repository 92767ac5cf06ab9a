/-
  Chapter 17's law: for no input at all (it has none) the call returns true; package-level data as the program lays it.
-/
import Derived.Test.YtkcdcogmnplhjaaDoorL4
import Derived.Test.YtkcdcogmnplhjaaDoorRows
import Derived.Test.YtkcdcogmnplhjaaDoorCards
import Derived.Test.YtkcdcogmnplhjaaDoorTie
import Derived.ProofKit
import Derived.LaidMore
import Derived.OpenShut
import Derived.Stop.Joined
import Derived.SevenTiedAt
namespace Go.Proofs.YtkcdcogmnplhjaaDoor
open Go Go.ChangeShapes Go.WideShapes Go.ChangeAt Go.WideMaps Go.WideElems Go.RowKit
set_option linter.unusedSimpArgs false
set_option linter.unusedVariables false
set_option linter.unnecessarySimpa false

theorem own : ownKnob Tryd.prog.godebug = none := by kernel_rfl
theorem gTab : Tryd.prog.globalNamed "math/bits.deBruijn64tab" = some 0 := by kernel_rfl
theorem tTab : (Tryd.prog.globals[0]?).map (·.type) = some 75 := by kernel_rfl
theorem uTab : Tryd.prog.underlying 75 = some (.array 64 5) := by kernel_rfl
theorem uByte : Tryd.prog.underlying 5 = some (.int .u8) := by kernel_rfl
theorem cTab : Tryd.prog.cellsOf 75 = 64 := by kernel_rfl
theorem cByte : Tryd.prog.cellsOf 5 = 1 := by kernel_rfl
abbrev laid1 : List (String × DataW Unit) := [("math/bits.deBruijn64tab", Rows.laid_math_bits_deBruijn64tab)]
theorem tab_data : Rows.laid_math_bits_deBruijn64tab (H := Unit) = .agg (tzT.map fun n : Nat => .lit (.int .u8 (n : Int))) := rfl

/-- Where the door's own simp lays the table, the walks find it. -/
theorem tzg_of_laid {W : World} (h : laidMetH Tryd.prog laid1 W) : TZG ⟨W.heap.size, fun b => W.heap[b]?⟩ := by
  rw [MakeChecks.laidMetH_plain _ _ _ (by kernel_rfl)] at h
  obtain ⟨ps, ⟨g0, t0, cs0, f0, p0, q0, hg0, ht0, hv0, hd0, _, _⟩, _, _⟩ := h
  obtain rfl := Option.some.inj (gTab.symm.trans hg0)
  obtain rfl := Option.some.inj (tTab.symm.trans ht0)
  obtain ⟨xs, m1, rfl, hx1, hlen, hn3, hel⟩ := DataW.trod_array uTab hd0
  rw [cTab] at hlen
  rw [tab_data] at hx1
  simp only [Prod.mk.injEq, DataW.agg.injEq] at hx1
  have key : cs0.toList = tzT.map fun n : Nat => Value.int .u8 (n : Int) := by
    apply List.ext_getElem
    · rw [hlen]; rfl
    · intro i h1 h2
      have hi : i < 64 := by rw [hlen] at h1; exact h1
      have he := hel i hi
      rw [cByte, Nat.mul_one] at he
      have hxi : i < xs.length := by omega
      rw [List.getElem?_eq_getElem hxi] at he
      obtain ⟨k, e1, e2, _⟩ := DataW.trod_int uByte he
      have e3 : cs0.toList[i]'h1 = .int .u8 k := by
        have := congrArg (fun l => l[0]?) e1
        simpa [List.getElem?_take, List.getElem?_drop, List.getElem?_eq_getElem h1] using this
      have e4 : (xs.map (·.1))[i]? = some (.lit (.int .u8 k)) := by rw [List.getElem?_map, List.getElem?_eq_getElem hxi, e2]; rfl
      rw [← hx1.1, List.getElem?_map, List.getElem?_eq_getElem (by simpa using h2)] at e4
      simp at e4
      rw [e3]
      simp [e4]
  simp only [World.var?, gTab, Option.bind_some] at hv0
  split at hv0
  · rename_i cs T m hb
    cases hv0
    refine ⟨(Array.getElem?_eq_some_iff.1 hb).1, T, m, ?_⟩
    show W.heap[0]? = _
    rw [hb, ← key]
  · cases hv0

/-- What a walk from no blocks leaves as it was. -/
theorem kept_of_ext {ρ : List Ent} {w w' : World} (h : Ext [] ρ w w') (may : MemPlace → Prop) : w.keptBut w' may := by
  refine ⟨h.os, h.output, fun i hi => ?_⟩
  rw [h.frame i hi (by simp)]
  split
  · rename_i c t fr c' t' fr' e1 e2
    rw [e1] at e2; cases e2
    exact ⟨rfl, rfl, rfl, fun _ _ => rfl⟩
  · rename_i e1 e2
    rw [e1] at e2; cases e2
    exact .inr ⟨rfl, rfl⟩
  · rfl

theorem hr0 (W : World) (n : Nat) (hn : n ≤ W.heap.size) : HR ⟨n, fun b => W.heap[b]?⟩ [] [] W :=
  ⟨rfl, fun k e b h => by simp at h, fun i j ei ej bi bj _ h => by simp at h, fun k e h => by simp at h, fun k e h => by simp at h, hn, fun b _ => rfl⟩

theorem door_met (os : Os) (args : Array Value) : laidMetH Tryd.prog laid1 ((World.doorLaid Tryd.prog 400 os).forCall (fun _ _ => 0) ⟨#[], args, []⟩).memory :=
  laidMetH_of_parts3 (fuel := 8) (laidMet_of_run' 8 (by kernel_rfl) (by kernel_rfl)) (by kernel_rfl) (by kernel_rfl)

set_option maxRecDepth 100000 in
theorem lifted (os : Os) (started : os.Started) (H : Type) (enc : TypeId × Value → H) :
    ReturnsInHanded {} Tryd.checked os 3 .any (fun w args => (Rows.saveNumbersSpec.pre enc Tryd.prog Tryd.f3 [] false w args ∧ laidMetH Tryd.prog laid1 w) ∧ sizedMet enc Tryd.prog Tryd.f3 (OpenSpec.ofChange Rows.saveNumbersSpec) false w args)
      (Rows.saveNumbersSpec.post enc Tryd.prog Tryd.f3 false true false false) := by
  refine returnsInHanded_of_change_and (C := Tryd.checked) (X := fun w _ => laidMetH Tryd.prog laid1 w) (fun _ _ _ hh h => h.of_heap hh) own started (by kernel_rfl) Tryd.func3
    (ChangeSpec.witness_shaped (enc := enc) (C := Tryd.checked) (os := os) (X := fun w _ => laidMetH Tryd.prog laid1 w) false (World.doorLaid Tryd.prog 400 os) #[] 8 rfl (World.shaped_of_RefB (by kernel_rfl) (by kernel_rfl)) (by kernel_rfl) (by kernel_rfl) (by kernel_rfl) (door_met os _)) ?_
  intro W base args ds gs before hval0 hW _ _ hL _
  have hW' := hW
  obtain ⟨p, q, hA0, hV, rfl, hfz, hnd⟩ := hW
  have hA : DataW.TrodAll enc Tryd.prog W 0 (fun _ => true) true Tryd.f3.params.toList args.toList ds p := hA0
  rw [Tryd.params3] at hA
  obtain ⟨ha, rfl, rfl⟩ := trodAll_nil hA
  obtain rfl : args = #[] := by simpa using ha
  obtain ⟨rfl, rfl⟩ := trodVars_none hV
  refine ((c_SaveNumbers _ (c_TZ _ (tzg_of_laid hL)) (fun r _ => r = .bool true) (fun _ => rfl)).2 [] W [] (hr0 W _ (Nat.le_refl _)) .nil).mono fun e W' h => ?_
  obtain ⟨ρ', r, r', h', hK, rfl, hr, hh, hx⟩ := h
  subst hK
  cases hr
  refine ⟨_, rfl, [], [], [], [], [], [], hW', ?_, ?_, ?_, kept_of_ext hx _, fun h => by cases h⟩
  · exact trodAll_mk1 (shut_bool Tryd.underlying4 _)
  · show DataW.TrodAll enc Tryd.prog W' 0 _ true Tryd.f3.params.toList [] [] []
    rw [Tryd.params3]
    simp [DataW.TrodAll]
  · show DataW.TrodVars enc Tryd.prog W' _ [] [] []
    simp [DataW.TrodVars]

theorem saveNumbers_row : Rows.SaveNumbersSaid :=
  OpenClaim.holds_of_wide 3 Tryd.f3 rfl rfl rfl rfl rfl rfl rfl ⟨rfl, rfl, rfl, rfl, rfl⟩ rfl rfl rfl rfl rfl (by kernel_rfl) Tryd.func3 (by kernel_rfl)
    (of_decide_eq_true (by kernel_rfl)) (by unfold Func.isWrapper; first | (rw [if_pos (by decide +kernel)]; kernel_rfl) | (rw [if_neg (by decide +kernel)]; exact ⟨rfl, rfl⟩))
    (fun os started H enc _ => lifted os started H enc)

/-- Chapter 17's law, with its table tied to the program's text. -/
theorem saveNumbers_holds : Rows.SaveNumbersCardSaid :=
  Claim7.holds_tied_plain_at .later [] [.data] true (true, "168205a372fbee46d134c49367dd87ff6c49b3f370ea465273ce563d23ccd0a5") false
    saveNumbers_row (fun _ h => by cases h) (by kernel_rfl) (fun _ h => by cases h) saveNumbers_row_tie rfl ⟨rfl, rfl⟩ (by kernel_rfl) rfl
    (fun f fn hf hfn => by
      obtain rfl : f = 3 := Option.some.inj ((show Tryd.prog.funcNamed "dioscuri/dioscurilaw17.SaveNumbers" = some 3 by kernel_rfl).symm.trans hf) |>.symm
      obtain rfl : fn = Tryd.f3 := (Option.some.inj (Tryd.func3.symm.trans hfn)).symm
      exact ⟨by kernel_rfl, fun j t ht => by
        rw [Tryd.params3] at ht
        simp at ht⟩)
    (by kernel_rfl)
#print axioms saveNumbers_holds
end Go.Proofs.YtkcdcogmnplhjaaDoor
