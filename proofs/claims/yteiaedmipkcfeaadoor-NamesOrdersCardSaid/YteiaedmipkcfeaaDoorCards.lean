/-
  DERIVED. GIVEN WITH THE SEED: THE CARDS: each row of YteiaedmipkcfeaaDoorRows.lean that lists a variable, with what it lists TIED to the program's text (the seventh form; the later family's looks); each row that meets fmt, with fmt's text TOLD by the authors' own Lean function (tested against real Go, not proved from fmt's source: count such statements apart). THE CARD IS WHAT COUNTS. Prove the row's statement (the work); the ties are given (YteiaedmipkcfeaaDoorTie.lean); close each card by the builder's one call (the guide's Derived/Test/ToyasCard.lean, 'card_holds'). Laid BY PROGRAM, IN A SANDBOX (cutbox-door.mjs). By AI agents, Wed Nov 11 2026. No macro, syntax, notation, axiom, sorry.
-/
import Derived.Test.YteiaedmipkcfeaaDoorRows
import GoSem.ClaimSeven
namespace Go.Proofs.YteiaedmipkcfeaaDoor
namespace Rows

/-- THE TIED CARD OF 'metronomelaw07.NamesMade'. -/
def namesMadeCard : Claim7 := { stood := { row := namesMadeRow, standIns := [], harness := (true, "52ccd94de0b56a775a0c813fd7d671fd37a94b4de461f99d077f472419d70b00"), looks := true }, kinds := [], alts := [], laidByText := true, laidKinds := [.handle], laidTests := true, laidLooks := .later }
def NamesMadeCardSaid : Prop := Claim7.holds Tryd.pinned (.plain (OpenSpec.ofChange namesMadeSpec)) namesMadeCard

/-- THE TIED CARD OF 'metronomelaw07.NamesEnums'. -/
def namesEnumsCard : Claim7 := { stood := { row := namesEnumsRow, standIns := [], harness := (true, "52ccd94de0b56a775a0c813fd7d671fd37a94b4de461f99d077f472419d70b00"), looks := true }, kinds := [], alts := [], laidByText := true, laidKinds := [.handle], laidTests := true, laidLooks := .later }
def NamesEnumsCardSaid : Prop := Claim7.holds Tryd.pinned (.plain (OpenSpec.ofChange namesEnumsSpec)) namesEnumsCard

/-- THE TIED CARD OF 'metronomelaw07.NamesNeeds'. -/
def namesNeedsCard : Claim7 := { stood := { row := namesNeedsRow, standIns := [], harness := (true, "52ccd94de0b56a775a0c813fd7d671fd37a94b4de461f99d077f472419d70b00"), looks := true }, kinds := [], alts := [], laidByText := true, laidKinds := [.handle], laidTests := true, laidLooks := .later }
def NamesNeedsCardSaid : Prop := Claim7.holds Tryd.pinned (.plain (OpenSpec.ofChange namesNeedsSpec)) namesNeedsCard

/-- THE TIED CARD OF 'metronomelaw07.NamesOrders'. -/
def namesOrdersCard : Claim7 := { stood := { row := namesOrdersRow, standIns := [], harness := (true, "52ccd94de0b56a775a0c813fd7d671fd37a94b4de461f99d077f472419d70b00"), looks := true }, kinds := [], alts := [], laidByText := true, laidKinds := [.handle], laidTests := true, laidLooks := .later }
def NamesOrdersCardSaid : Prop := Claim7.holds Tryd.pinned (.plain (OpenSpec.ofChange namesOrdersSpec)) namesOrdersCard

/-- THE SECOND FORM's CARD OF 'metronomelaw07.NamesMade'. -/
def namesMadeUptoCard : Claim7 := { stood := { row := namesMadeUptoRow, standIns := [], harness := (true, "52ccd94de0b56a775a0c813fd7d671fd37a94b4de461f99d077f472419d70b00"), looks := true }, kinds := [], alts := [], laidByText := true, laidKinds := [.handle], laidTests := true, laidLooks := .later }
def NamesMadeUptoCardSaid : Prop := Claim7.holds Tryd.pinned (.plain (OpenSpec.upto namesMadeSpec)) namesMadeUptoCard

/-- THE SECOND FORM's CARD OF 'metronomelaw07.NamesEnums'. -/
def namesEnumsUptoCard : Claim7 := { stood := { row := namesEnumsUptoRow, standIns := [], harness := (true, "52ccd94de0b56a775a0c813fd7d671fd37a94b4de461f99d077f472419d70b00"), looks := true }, kinds := [], alts := [], laidByText := true, laidKinds := [.handle], laidTests := true, laidLooks := .later }
def NamesEnumsUptoCardSaid : Prop := Claim7.holds Tryd.pinned (.plain (OpenSpec.upto namesEnumsSpec)) namesEnumsUptoCard

/-- THE SECOND FORM's CARD OF 'metronomelaw07.NamesNeeds'. -/
def namesNeedsUptoCard : Claim7 := { stood := { row := namesNeedsUptoRow, standIns := [], harness := (true, "52ccd94de0b56a775a0c813fd7d671fd37a94b4de461f99d077f472419d70b00"), looks := true }, kinds := [], alts := [], laidByText := true, laidKinds := [.handle], laidTests := true, laidLooks := .later }
def NamesNeedsUptoCardSaid : Prop := Claim7.holds Tryd.pinned (.plain (OpenSpec.upto namesNeedsSpec)) namesNeedsUptoCard

/-- THE SECOND FORM's CARD OF 'metronomelaw07.NamesOrders'. -/
def namesOrdersUptoCard : Claim7 := { stood := { row := namesOrdersUptoRow, standIns := [], harness := (true, "52ccd94de0b56a775a0c813fd7d671fd37a94b4de461f99d077f472419d70b00"), looks := true }, kinds := [], alts := [], laidByText := true, laidKinds := [.handle], laidTests := true, laidLooks := .later }
def NamesOrdersUptoCardSaid : Prop := Claim7.holds Tryd.pinned (.plain (OpenSpec.upto namesOrdersSpec)) namesOrdersUptoCard
end Rows
end Go.Proofs.YteiaedmipkcfeaaDoor
