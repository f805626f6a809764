/-
  DERIVED. GIVEN WITH THE SEED: THE CARDS: each row of YthhhnfjcaicjnaaGreatDoorRows.lean that lists a variable, with what it lists TIED to the program's text (the seventh form; the later family's looks); each row that meets fmt, with fmt's text TOLD by the authors' own Lean function (tested against real Go, not proved from fmt's source: count such statements apart). THE CARD IS WHAT COUNTS. Prove the row's statement (the work); the ties are given (YthhhnfjcaicjnaaGreatDoorTie.lean); close each card by the builder's one call (the guide's Derived/Test/ToyasCard.lean, 'card_holds'). Laid BY PROGRAM, IN A SANDBOX (cutbox-door.mjs). By AI agents, Wed Nov 11 2026. No macro, syntax, notation, axiom, sorry.
-/
import Derived.Test.YthhhnfjcaicjnaaGreatDoorRows
import GoSem.ClaimSeven
namespace Go.Proofs.YthhhnfjcaicjnaaGreatDoor
namespace Rows

/-- THE TIED CARD OF 'metronomelaw08.TypesExprs'. -/
def typesExprsCard : Claim7 := { stood := { row := typesExprsRow, standIns := [], harness := (true, "5199055d8402a3702c5a77759cec4fdd4e4183905730121de20b36c067cd5402"), looks := true }, kinds := [], alts := [], laidByText := true, laidKinds := [.handle], laidTests := true, laidLooks := .later }
def TypesExprsCardSaid : Prop := Claim7.holds Tryz.pinned (.plain (OpenSpec.ofChange typesExprsSpec)) typesExprsCard

/-- THE SECOND FORM's CARD OF 'metronomelaw08.TypesExprs'. -/
def typesExprsUptoCard : Claim7 := { stood := { row := typesExprsUptoRow, standIns := [], harness := (true, "5199055d8402a3702c5a77759cec4fdd4e4183905730121de20b36c067cd5402"), looks := true }, kinds := [], alts := [], laidByText := true, laidKinds := [.handle], laidTests := true, laidLooks := .later }
def TypesExprsUptoCardSaid : Prop := Claim7.holds Tryz.pinned (.plain (OpenSpec.upto typesExprsSpec)) typesExprsUptoCard
end Rows
end Go.Proofs.YthhhnfjcaicjnaaGreatDoor
