/-
  DERIVED. GIVEN WITH THE SEED: THE CARDS: each row of YtepjjgnkhcjpcaaDoorRows.lean that lists a variable, with what it lists TIED to the program's text (the seventh form; the later family's looks); each row that meets fmt, with fmt's text TOLD by the authors' own Lean function (tested against real Go, not proved from fmt's source: count such statements apart). THE CARD IS WHAT COUNTS. Prove the row's statement (the work); the ties are given (YtepjjgnkhcjpcaaDoorTie.lean); close each card by the builder's one call (the guide's Derived/Test/ToyasCard.lean, 'card_holds'). Laid BY PROGRAM, IN A SANDBOX (cutbox-door.mjs). By AI agents, Wed Nov 11 2026. No macro, syntax, notation, axiom, sorry.
-/
import Derived.Test.YtepjjgnkhcjpcaaDoorRows
import GoSem.ClaimSeven
namespace Go.Proofs.YtepjjgnkhcjpcaaDoor
namespace Rows

/-- THE TIED CARD OF 'metronomelaw23.CliteTexts'. -/
def cliteTextsCard : Claim7 := { stood := { row := cliteTextsRow, standIns := [], harness := (true, "5bfce42863fe035afbad6b60e8497cffc225bab984c0e916968ba9b3f49dfb6b"), looks := true }, kinds := [], alts := [], laidByText := true, laidKinds := [.data, .data, .data], laidTests := true, laidLooks := .later }
def CliteTextsCardSaid : Prop := Claim7.holds Tryd.pinned (.plain (OpenSpec.ofChange cliteTextsSpec)) cliteTextsCard

/-- THE SECOND FORM's CARD OF 'metronomelaw23.CliteTexts'. -/
def cliteTextsUptoCard : Claim7 := { stood := { row := cliteTextsUptoRow, standIns := [], harness := (true, "5bfce42863fe035afbad6b60e8497cffc225bab984c0e916968ba9b3f49dfb6b"), looks := true }, kinds := [], alts := [], laidByText := true, laidKinds := [.data, .data, .data], laidTests := true, laidLooks := .later }
def CliteTextsUptoCardSaid : Prop := Claim7.holds Tryd.pinned (.plain (OpenSpec.upto cliteTextsSpec)) cliteTextsUptoCard
end Rows
end Go.Proofs.YtepjjgnkhcjpcaaDoor
