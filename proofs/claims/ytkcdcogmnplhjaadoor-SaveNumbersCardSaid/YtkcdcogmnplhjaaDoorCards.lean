/-
  DERIVED. GIVEN WITH THE SEED: THE CARDS: each row of YtkcdcogmnplhjaaDoorRows.lean that lists a variable, with what it lists TIED to the program's text (the seventh form; the later family's looks); each row that meets fmt, with fmt's text TOLD by the authors' own Lean function (tested against real Go, not proved from fmt's source: count such statements apart). THE CARD IS WHAT COUNTS. Prove the row's statement (the work); the ties are given (YtkcdcogmnplhjaaDoorTie.lean); close each card by the builder's one call (the guide's Derived/Test/ToyasCard.lean, 'card_holds'). Laid BY PROGRAM, IN A SANDBOX (cutbox-door.mjs). By AI agents, Wed Nov 11 2026. No macro, syntax, notation, axiom, sorry.
-/
import Derived.Test.YtkcdcogmnplhjaaDoorRows
import GoSem.ClaimSeven
namespace Go.Proofs.YtkcdcogmnplhjaaDoor
namespace Rows

/-- THE TIED CARD OF 'dioscurilaw17.SaveNumbers'. -/
def saveNumbersCard : Claim7 := { stood := { row := saveNumbersRow, standIns := [], harness := (true, "168205a372fbee46d134c49367dd87ff6c49b3f370ea465273ce563d23ccd0a5"), looks := false }, kinds := [], alts := [], laidByText := true, laidKinds := [.data], laidTests := true, laidLooks := .later }
def SaveNumbersCardSaid : Prop := Claim7.holds Tryd.pinned (.plain (OpenSpec.ofChange saveNumbersSpec)) saveNumbersCard

/-- THE SECOND FORM's CARD OF 'dioscurilaw17.SaveNumbers'. -/
def saveNumbersUptoCard : Claim7 := { stood := { row := saveNumbersUptoRow, standIns := [], harness := (true, "168205a372fbee46d134c49367dd87ff6c49b3f370ea465273ce563d23ccd0a5"), looks := false }, kinds := [], alts := [], laidByText := true, laidKinds := [.data], laidTests := true, laidLooks := .later }
def SaveNumbersUptoCardSaid : Prop := Claim7.holds Tryd.pinned (.plain (OpenSpec.upto saveNumbersSpec)) saveNumbersUptoCard
end Rows
end Go.Proofs.YtkcdcogmnplhjaaDoor
