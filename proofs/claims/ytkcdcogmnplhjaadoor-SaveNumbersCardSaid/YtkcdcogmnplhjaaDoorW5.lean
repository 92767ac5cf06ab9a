/-
  Walks: checkpoints: New, Scrub, Flip, Bits, of the program and of the document.
-/
import Derived.Test.YtkcdcogmnplhjaaDoorW4
import Derived.Test.YtkcdcogmnplhjaaDoorS
namespace Go.Proofs.YtkcdcogmnplhjaaDoor
open Go
set_option linter.unusedSimpArgs false
set_option linter.unusedVariables false
set_option linter.unnecessarySimpa false
set_option maxRecDepth 10000

/-- Checkpoints: a row of 79 words; which word is scrubbed next. -/
structure Sv where
  row : Row
  ix : Nat
def encV (TR T m : Nat) (s : Sv) : List Blk := encR TR m s.row ++ [⟨true, T, [.pointer (some ⟨m + 1, 0, none⟩), .int .i64 (s.ix : Int)]⟩]
@[simp] theorem encV_len (TR T m : Nat) (s : Sv) : (encV TR T m s).length = 3 := rfl
theorem encV_bd (TR T : Nat) {m n : Nat} (s : Sv) (h : m + 1 < n) : bdH n (encV TR T m s) = true := by
  unfold encV; exact bdH_append (encR_bd TR s.row (by omega)) (by simp [bds, bd, Addr.bd, h])
theorem encV_le {h : List Blk} {TR T m : Nat} {s : Sv} (H : At h m (encV TR T m s)) : m + 3 ≤ h.length := H.le (by simp [encV])
structure Sv.Ok (s : Sv) : Prop where
  len : s.row.ws.length = 79
  lt : s.ix < 79
theorem encV_row {h h' : List Blk} {TR T m : Nat} {s : Sv} {x : Row} (H : At h m (encV TR T m s)) (H' : At h' m (encR TR m x)) (hf : Fr h h' [(m, 2)]) : At h' m (encV TR T m ⟨x, s.ix⟩) := by
  simp only [encV, at_append, encR_len, at_cons, at_nil, and_true] at H ⊢
  exact ⟨H', by rw [hf.same _ (by simp)]; exact H.2⟩
theorem fr23 {h h' : List Blk} {m : Nat} (hf : Fr h h' [(m, 2)]) : Fr h h' [(m, 3)] := hf.mono fun k hk => by simp at hk ⊢; omega
theorem encV_get {h : List Blk} {TR T m : Nat} {s : Sv} (H : At h m (encV TR T m s)) : At h m (encR TR m s.row) ∧ h[m + 2]? = some ⟨true, T, [.pointer (some ⟨m + 1, 0, none⟩), .int .i64 (s.ix : Int)]⟩ := by
  simpa [encV] using H
theorem encV_ix {h : List Blk} {TR T m : Nat} {s : Sv} (H : At h m (encV TR T m s)) (j : Nat) : At (h.set (m + 2) ⟨true, T, [.pointer (some ⟨m + 1, 0, none⟩), .int .i64 (j : Int)]⟩) m (encV TR T m ⟨s.row, j⟩) := by
  have hl := encV_le H
  simp only [encV, at_append, encR_len, at_cons, at_nil, and_true] at H ⊢
  exact ⟨H.1.same fun k h1 h2 => List.getElem?_set_ne (by simp at h2; omega), List.getElem?_set_self (by omega)⟩

abbrev encVi (m : Nat) (s : Sv) : List Blk := encV 66 47 m s
abbrev encVr (m : Nat) (s : Sv) : List Blk := encV 62 42 m s

def Sv.scrub (s : Sv) : Sv := ⟨s.row.get s.ix, (s.ix + 1) % 79⟩
def Sv.flip (s : Sv) (i : Int) : Sv := ⟨s.row.flip i, s.ix⟩
def Sv.new : Sv := ⟨((Row.new 79).put 38 1526595584#32).put 77 1526595584#32, 0⟩
theorem Sv.scrub_ok {s : Sv} (h : s.Ok) : s.scrub.Ok := ⟨by simp [Sv.scrub, h.len], Nat.mod_lt _ (by decide)⟩
theorem Sv.flip_ok {s : Sv} (h : s.Ok) (i : Int) : (s.flip i).Ok := ⟨by simp [Sv.flip, h.len], h.lt⟩
theorem Sv.new_ok : Sv.new.Ok := ⟨by simp [Sv.new, Row.new], by decide⟩

theorem c_sBits (G : Glob) (h : List Blk) (m : Nat) (s : Sv) (hs : s.Ok) (H : At h m (encVi m s)) (K : Value → List Blk → Prop) (hK : K (.int .i64 3081) h) :
    CC Tryd.prog G 17 [.pointer (some ⟨m + 2, 0, none⟩)] h K := by
  refine CC.introB Tryd.func17 (by rfl) rfl 7 rfl (fun hB hbA => ?_)
  obtain ⟨H1, H2⟩ := encV_get H
  simp [H2]
  refine c_iBits G h m s.row H1 (by rw [hs.len]; decide) _ ?_
  rw [hs.len]
  simp
  exact retK_all hK

theorem c_sFlip (G : Glob) (h : List Blk) (m : Nat) (s : Sv) (hs : s.Ok) (H : At h m (encVi m s)) (i : Int) (K : Value → List Blk → Prop)
    (hK : ∀ h', At h' m (encVi m (s.flip i)) → Fr h h' [(m, 3)] → K (.bool (flipB s.row.ws i)) h') :
    CC Tryd.prog G 13 [.pointer (some ⟨m + 2, 0, none⟩), .int .i64 i] h K := by
  refine CC.introB Tryd.func13 (by rfl) rfl 9 rfl (fun hB hbA => ?_)
  obtain ⟨H1, H2⟩ := encV_get H
  simp [H2]
  refine c_iFlip G h m s.row H1 (by rw [hs.len]; decide) i _ fun h' H' hf => ?_
  simp
  exact retK_all (hK h' (encV_row H H' hf) (fr23 hf))

theorem c_sScrub (G : Glob) (hT : TZC G) (h : List Blk) (m : Nat) (s : Sv) (hs : s.Ok) (H : At h m (encVi m s)) (K : Value → List Blk → Prop)
    (hK : ∀ h', At h' m (encVi m s.scrub) → Fr h h' [(m, 3)] → K (.int .i64 (getS s.row.ws s.ix : Int)) h') :
    CC Tryd.prog G 11 [.pointer (some ⟨m + 2, 0, none⟩)] h K := by
  refine CC.introB Tryd.func11 (by rfl) rfl 27 rfl (fun hB hbA => ?_)
  obtain ⟨H1, H2⟩ := encV_get H
  have hlt := hs.lt
  simp [H2]
  refine drawE_intro (.st 0 0 <| .st 1 0 <| .st 2 0 <| .st 3 0 <| .st 4 0 <| .st 5 0 <| .st 6 0 <| .st 7 0 <| .st 8 2 <| .st 9 0 .done) (by kernel_rfl) (by kernel_rfl) (by kernel_rfl) ?_
  simp [H2]
  refine c_iScrub G hT h m s.row H1 s.ix _ fun h' H' hf => ?_
  have Hv := encV_row H H' hf
  obtain ⟨_, H3⟩ := encV_get Hv
  have e9 : IntKind.i64.wrap ((s.ix : Int) + 1) = ((s.ix + 1 : Nat) : Int) := by rw [wrap_i64 (by omega)]; rfl
  have e4 : Int.tmod ((s.ix + 1 : Nat) : Int) 79 = (((s.ix + 1) % 79 : Nat) : Int) := rfl
  simp [H3, e9]
  refine drawE_intro (.st 0 0 <| .st 1 0 <| .st 2 0 <| .st 3 0 <| .st 4 0 <| .st 5 0 <| .st 6 0 <| .st 7 0 <| .st 8 0 <| .st 9 0 <| .st 10 1 <| .st 11 0 <| .st 12 0 <| .st 13 0 <| .st 14 2 .done) (by kernel_rfl) (by kernel_rfl) (by kernel_rfl) ?_
  simp [H3, e9, -Int.natCast_add]
  refine c_iLen G h' m _ H' _ ?_
  have hl : (s.row.get s.ix).ws.length = 79 := by simp [hs.len]
  simp [H3, e9, e4, hl, seg, -Int.natCast_emod, -Int.natCast_add, -Row.get_len]
  exact retK_all (hK _ (encV_ix Hv ((s.ix + 1) % 79)) ((fr23 hf).trans (Fr.set (by simp; omega))))

def newK : Nat → Row
  | 0 => Row.new 79
  | k + 1 => (newK k).put (39 * k + 38 : Nat) 1526595584#32
theorem c_sNew (G : Glob) (hT : TZC G) (h : List Blk) (K : Value → List Blk → Prop) (hK : K (.pointer (some ⟨h.length + 2, 0, none⟩)) (h ++ encVi h.length Sv.new)) :
    CC Tryd.prog G 7 [] h K := by
  refine CC.introB Tryd.func7 (by rfl) rfl 19 rfl (fun hB hbA => ?_)
  simp
  refine c_iNew G h 79 (by decide) _ ?_
  simp
  have H0 := at_new h (encVi h.length ⟨newK 0, 0⟩)
  have G0 := Gr.app h (encVi h.length ⟨newK 0, 0⟩) []
  change loopP _ _ _ ⟨_, h ++ encVi h.length ⟨newK 0, 0⟩⟩
  generalize h ++ encVi h.length ⟨newK 0, 0⟩ = h0 at H0 G0
  refine loopP_m [7, 8, 2, 9, 10, 11, 12, 13, 14, 15, 16, 17, 6] (α := List Blk × Nat) (fun a => [(6, .int .i64 (a.2 : Int))]) (fun a => a.1)
    (fun a => a.2 ≤ 2 ∧ At a.1 h.length (encVi h.length ⟨newK a.2, 0⟩) ∧ Gr h a.1 []) (fun a => 2 - a.2) (h0, 0) ⟨by simp, H0, G0⟩ (by simp) ?_
  rintro ⟨h', k⟩ ⟨hk, H, hg⟩
  simp only at hk H hg
  obtain ⟨H1, H2⟩ := encV_get H
  simp
  refine condP_split (fun h1 => ?_) (fun h1 => ?_)
  · have hlt : k < 2 := by simp at h1; omega
    have e1 : IntKind.i64.wrap ((k : Int) * 39) = ((39 * k : Nat) : Int) := by rw [wrap_i64 (by omega)]; omega
    have e2 : IntKind.i64.wrap (((39 * k : Nat) : Int) + 38) = ((39 * k + 38 : Nat) : Int) := by rw [wrap_i64 (by omega)]; omega
    have e3 : IntKind.i64.wrap ((k : Int) + 1) = ((k + 1 : Nat) : Int) := by rw [wrap_i64 (by omega)]; omega
    simp [H2, e1, e2, -Int.natCast_add, -Int.natCast_mul]
    refine c_iPut G hT h' h.length (newK k) H1 _ 1526595584#32 _ fun h2 H3 hf => ?_
    simp [e3, -Int.natCast_add]
    refine ⟨h2, k + 1, ⟨by omega, encV_row H H3 hf, hg.then hf fun j hj _ => by simp; omega⟩, by simp, by omega⟩
  · have hlt : k = 2 := by simp at h1; omega
    subst hlt
    simp
    exact retK_new hB hg H (encV_bd _ _ _ (by simp)) (by simp [bd, Addr.bd]) hK
end Go.Proofs.YtkcdcogmnplhjaaDoor
