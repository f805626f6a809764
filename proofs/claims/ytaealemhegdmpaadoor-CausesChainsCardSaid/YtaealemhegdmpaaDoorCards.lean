/-
  DERIVED. GIVEN WITH THE SEED: THE CARDS: each row of YtaealemhegdmpaaDoorRows.lean that lists a variable, with what it lists TIED to the program's text (the seventh form; the later family's looks); each row that meets fmt, with fmt's text TOLD by the authors' own Lean function (tested against real Go, not proved from fmt's source: count such statements apart). THE CARD IS WHAT COUNTS. Prove the row's statement (the work); the ties are given (YtaealemhegdmpaaDoorTie.lean); close each card by the builder's one call (the guide's Derived/Test/ToyasCard.lean, 'card_holds'). Laid BY PROGRAM, IN A SANDBOX (cutbox-door.mjs). By AI agents, Wed Nov 11 2026. No macro, syntax, notation, axiom, sorry.
-/
import Derived.Test.YtaealemhegdmpaaDoorRows
import GoSem.ClaimSeven
namespace Go.Proofs.YtaealemhegdmpaaDoor
namespace Rows

/-- THE TIED CARD OF 'metronomelaw11.CausesChains'. -/
def causesChainsCard : Claim7 := { stood := { row := causesChainsRow, standIns := [], harness := (true, "44503939243134e8f98086b0f81026e7404318471fe20baf97fe201ce854790a"), looks := true }, kinds := [], alts := [], laidByText := true, laidKinds := [.handle], laidTests := true, laidLooks := .later }
def CausesChainsCardSaid : Prop := Claim7.holds Tryd.pinned (.plain (OpenSpec.ofChange causesChainsSpec)) causesChainsCard

/-- THE SECOND FORM's CARD OF 'metronomelaw11.CausesChains'. -/
def causesChainsUptoCard : Claim7 := { stood := { row := causesChainsUptoRow, standIns := [], harness := (true, "44503939243134e8f98086b0f81026e7404318471fe20baf97fe201ce854790a"), looks := true }, kinds := [], alts := [], laidByText := true, laidKinds := [.handle], laidTests := true, laidLooks := .later }
def CausesChainsUptoCardSaid : Prop := Claim7.holds Tryd.pinned (.plain (OpenSpec.upto causesChainsSpec)) causesChainsUptoCard
end Rows
end Go.Proofs.YtaealemhegdmpaaDoor
