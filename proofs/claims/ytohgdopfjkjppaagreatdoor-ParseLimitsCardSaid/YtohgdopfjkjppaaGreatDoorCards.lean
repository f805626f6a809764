/-
  DERIVED. GIVEN WITH THE SEED: THE CARDS: each row of YtohgdopfjkjppaaGreatDoorRows.lean that lists a variable, with what it lists TIED to the program's text (the seventh form; the later family's looks); each row that meets fmt, with fmt's text TOLD by the authors' own Lean function (tested against real Go, not proved from fmt's source: count such statements apart). THE CARD IS WHAT COUNTS. Prove the row's statement (the work); the ties are given (YtohgdopfjkjppaaGreatDoorTie.lean); close each card by the builder's one call (the guide's Derived/Test/ToyasCard.lean, 'card_holds'). Laid BY PROGRAM, IN A SANDBOX (cutbox-door.mjs). By AI agents, Wed Nov 11 2026. No macro, syntax, notation, axiom, sorry.
-/
import Derived.Test.YtohgdopfjkjppaaGreatDoorRows
import GoSem.ClaimSeven
namespace Go.Proofs.YtohgdopfjkjppaaGreatDoor
namespace Rows

/-- THE TIED CARD OF 'metronomelaw06.ParseStrong'. -/
def parseStrongCard : Claim7 := { stood := { row := parseStrongRow, standIns := [], harness := (true, "3d302a36c25c91f09ef6180719806aba6a532b3a7e4c809c6f516af8422256e9"), looks := true }, kinds := [], alts := [], laidByText := true, laidKinds := [.handle], laidTests := true, laidLooks := .later }
def ParseStrongCardSaid : Prop := Claim7.holds Tryz.pinned (.plain (OpenSpec.ofChange parseStrongSpec)) parseStrongCard

/-- THE TIED CARD OF 'metronomelaw06.ParseDeep'. -/
def parseDeepCard : Claim7 := { stood := { row := parseDeepRow, standIns := [], harness := (true, "3d302a36c25c91f09ef6180719806aba6a532b3a7e4c809c6f516af8422256e9"), looks := true }, kinds := [], alts := [], laidByText := true, laidKinds := [.handle], laidTests := true, laidLooks := .later }
def ParseDeepCardSaid : Prop := Claim7.holds Tryz.pinned (.plain (OpenSpec.ofChange parseDeepSpec)) parseDeepCard

/-- THE TIED CARD OF 'metronomelaw06.ParseLimits'. -/
def parseLimitsCard : Claim7 := { stood := { row := parseLimitsRow, standIns := [], harness := (true, "3d302a36c25c91f09ef6180719806aba6a532b3a7e4c809c6f516af8422256e9"), looks := true }, kinds := [], alts := [], laidByText := true, laidKinds := [.handle], laidTests := true, laidLooks := .later }
def ParseLimitsCardSaid : Prop := Claim7.holds Tryz.pinned (.plain (OpenSpec.ofChange parseLimitsSpec)) parseLimitsCard

/-- THE SECOND FORM's CARD OF 'metronomelaw06.ParseStrong'. -/
def parseStrongUptoCard : Claim7 := { stood := { row := parseStrongUptoRow, standIns := [], harness := (true, "3d302a36c25c91f09ef6180719806aba6a532b3a7e4c809c6f516af8422256e9"), looks := true }, kinds := [], alts := [], laidByText := true, laidKinds := [.handle], laidTests := true, laidLooks := .later }
def ParseStrongUptoCardSaid : Prop := Claim7.holds Tryz.pinned (.plain (OpenSpec.upto parseStrongSpec)) parseStrongUptoCard

/-- THE SECOND FORM's CARD OF 'metronomelaw06.ParseDeep'. -/
def parseDeepUptoCard : Claim7 := { stood := { row := parseDeepUptoRow, standIns := [], harness := (true, "3d302a36c25c91f09ef6180719806aba6a532b3a7e4c809c6f516af8422256e9"), looks := true }, kinds := [], alts := [], laidByText := true, laidKinds := [.handle], laidTests := true, laidLooks := .later }
def ParseDeepUptoCardSaid : Prop := Claim7.holds Tryz.pinned (.plain (OpenSpec.upto parseDeepSpec)) parseDeepUptoCard

/-- THE SECOND FORM's CARD OF 'metronomelaw06.ParseLimits'. -/
def parseLimitsUptoCard : Claim7 := { stood := { row := parseLimitsUptoRow, standIns := [], harness := (true, "3d302a36c25c91f09ef6180719806aba6a532b3a7e4c809c6f516af8422256e9"), looks := true }, kinds := [], alts := [], laidByText := true, laidKinds := [.handle], laidTests := true, laidLooks := .later }
def ParseLimitsUptoCardSaid : Prop := Claim7.holds Tryz.pinned (.plain (OpenSpec.upto parseLimitsSpec)) parseLimitsUptoCard
end Rows
end Go.Proofs.YtohgdopfjkjppaaGreatDoor
