/-
  DERIVED. GIVEN WITH THE SEED: THE CARDS: each row of YticdboelpgalpaaDoorRows.lean that lists a variable, with what it lists TIED to the program's text (the seventh form; the later family's looks); each row that meets fmt, with fmt's text TOLD by the authors' own Lean function (tested against real Go, not proved from fmt's source: count such statements apart). THE CARD IS WHAT COUNTS. Prove the row's statement (the work); the ties are given (YticdboelpgalpaaDoorTie.lean); close each card by the builder's one call (the guide's Derived/Test/ToyasCard.lean, 'card_holds'). Laid BY PROGRAM, IN A SANDBOX (cutbox-door.mjs). By AI agents, Wed Nov 11 2026. No macro, syntax, notation, axiom, sorry.
-/
import Derived.Test.YticdboelpgalpaaDoorRows
import GoSem.ClaimSeven
namespace Go.Proofs.YticdboelpgalpaaDoor
namespace Rows

/-- THE TIED CARD OF 'metronomelaw08.TypesOperators'. -/
def typesOperatorsCard : Claim7 := { stood := { row := typesOperatorsRow, standIns := [], harness := (true, "4183b5a2132310a47e1b7f9d6bb70b8430ac81112932a41227ce6a94dba73576"), looks := true }, kinds := [], alts := [], laidByText := true, laidKinds := [.handle], laidTests := true, laidLooks := .later }
def TypesOperatorsCardSaid : Prop := Claim7.holds Tryd.pinned (.plain (OpenSpec.ofChange typesOperatorsSpec)) typesOperatorsCard

/-- THE TIED CARD OF 'metronomelaw08.TypesMade'. -/
def typesMadeCard : Claim7 := { stood := { row := typesMadeRow, standIns := [], harness := (true, "4183b5a2132310a47e1b7f9d6bb70b8430ac81112932a41227ce6a94dba73576"), looks := true }, kinds := [], alts := [], laidByText := true, laidKinds := [.handle], laidTests := true, laidLooks := .later }
def TypesMadeCardSaid : Prop := Claim7.holds Tryd.pinned (.plain (OpenSpec.ofChange typesMadeSpec)) typesMadeCard

/-- THE SECOND FORM's CARD OF 'metronomelaw08.TypesOperators'. -/
def typesOperatorsUptoCard : Claim7 := { stood := { row := typesOperatorsUptoRow, standIns := [], harness := (true, "4183b5a2132310a47e1b7f9d6bb70b8430ac81112932a41227ce6a94dba73576"), looks := true }, kinds := [], alts := [], laidByText := true, laidKinds := [.handle], laidTests := true, laidLooks := .later }
def TypesOperatorsUptoCardSaid : Prop := Claim7.holds Tryd.pinned (.plain (OpenSpec.upto typesOperatorsSpec)) typesOperatorsUptoCard

/-- THE SECOND FORM's CARD OF 'metronomelaw08.TypesMade'. -/
def typesMadeUptoCard : Claim7 := { stood := { row := typesMadeUptoRow, standIns := [], harness := (true, "4183b5a2132310a47e1b7f9d6bb70b8430ac81112932a41227ce6a94dba73576"), looks := true }, kinds := [], alts := [], laidByText := true, laidKinds := [.handle], laidTests := true, laidLooks := .later }
def TypesMadeUptoCardSaid : Prop := Claim7.holds Tryd.pinned (.plain (OpenSpec.upto typesMadeSpec)) typesMadeUptoCard
end Rows
end Go.Proofs.YticdboelpgalpaaDoor
