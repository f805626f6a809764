/-
  DERIVED. GIVEN WITH THE SEED: THE CARDS: each row of YtijdhfjdnndkmaaDoorRows.lean that lists a variable, with what it lists TIED to the program's text (the seventh form; the later family's looks); each row that meets fmt, with fmt's text TOLD by the authors' own Lean function (tested against real Go, not proved from fmt's source: count such statements apart). THE CARD IS WHAT COUNTS. Prove the row's statement (the work); the ties are given (YtijdhfjdnndkmaaDoorTie.lean); close each card by the builder's one call (the guide's Derived/Test/ToyasCard.lean, 'card_holds'). Laid BY PROGRAM, IN A SANDBOX (cutbox-door.mjs). By AI agents, Wed Nov 11 2026. No macro, syntax, notation, axiom, sorry.
-/
import Derived.Test.YtijdhfjdnndkmaaDoorRows
import GoSem.ClaimSeven
namespace Go.Proofs.YtijdhfjdnndkmaaDoor
namespace Rows

/-- THE TIED CARD OF 'metronomelaw03.LexNumbers'. -/
def lexNumbersCard : Claim7 := { stood := { row := lexNumbersRow, standIns := [], harness := (true, "f7fe81f5debdbaa37a70564e6000e46a71b42d42ca0f977bf1ac604b0816dcfb"), looks := true }, kinds := [], alts := [], laidByText := true, laidKinds := [.handle], laidTests := true, laidLooks := .later }
def LexNumbersCardSaid : Prop := Claim7.holds Tryd.pinned (.plain (OpenSpec.ofChange lexNumbersSpec)) lexNumbersCard

/-- THE TIED CARD OF 'metronomelaw03.LexLimits'. -/
def lexLimitsCard : Claim7 := { stood := { row := lexLimitsRow, standIns := [], harness := (true, "f7fe81f5debdbaa37a70564e6000e46a71b42d42ca0f977bf1ac604b0816dcfb"), looks := true }, kinds := [], alts := [], laidByText := true, laidKinds := [.handle], laidTests := true, laidLooks := .later }
def LexLimitsCardSaid : Prop := Claim7.holds Tryd.pinned (.plain (OpenSpec.ofChange lexLimitsSpec)) lexLimitsCard

/-- THE TIED CARD OF 'metronomelaw03.LexCuts'. -/
def lexCutsCard : Claim7 := { stood := { row := lexCutsRow, standIns := [], harness := (true, "f7fe81f5debdbaa37a70564e6000e46a71b42d42ca0f977bf1ac604b0816dcfb"), looks := true }, kinds := [], alts := [], laidByText := true, laidKinds := [.handle], laidTests := true, laidLooks := .later }
def LexCutsCardSaid : Prop := Claim7.holds Tryd.pinned (.plain (OpenSpec.ofChange lexCutsSpec)) lexCutsCard

/-- THE SECOND FORM's CARD OF 'metronomelaw03.LexNumbers'. -/
def lexNumbersUptoCard : Claim7 := { stood := { row := lexNumbersUptoRow, standIns := [], harness := (true, "f7fe81f5debdbaa37a70564e6000e46a71b42d42ca0f977bf1ac604b0816dcfb"), looks := true }, kinds := [], alts := [], laidByText := true, laidKinds := [.handle], laidTests := true, laidLooks := .later }
def LexNumbersUptoCardSaid : Prop := Claim7.holds Tryd.pinned (.plain (OpenSpec.upto lexNumbersSpec)) lexNumbersUptoCard

/-- THE SECOND FORM's CARD OF 'metronomelaw03.LexLimits'. -/
def lexLimitsUptoCard : Claim7 := { stood := { row := lexLimitsUptoRow, standIns := [], harness := (true, "f7fe81f5debdbaa37a70564e6000e46a71b42d42ca0f977bf1ac604b0816dcfb"), looks := true }, kinds := [], alts := [], laidByText := true, laidKinds := [.handle], laidTests := true, laidLooks := .later }
def LexLimitsUptoCardSaid : Prop := Claim7.holds Tryd.pinned (.plain (OpenSpec.upto lexLimitsSpec)) lexLimitsUptoCard

/-- THE SECOND FORM's CARD OF 'metronomelaw03.LexCuts'. -/
def lexCutsUptoCard : Claim7 := { stood := { row := lexCutsUptoRow, standIns := [], harness := (true, "f7fe81f5debdbaa37a70564e6000e46a71b42d42ca0f977bf1ac604b0816dcfb"), looks := true }, kinds := [], alts := [], laidByText := true, laidKinds := [.handle], laidTests := true, laidLooks := .later }
def LexCutsUptoCardSaid : Prop := Claim7.holds Tryd.pinned (.plain (OpenSpec.upto lexCutsSpec)) lexCutsUptoCard
end Rows
end Go.Proofs.YtijdhfjdnndkmaaDoor
