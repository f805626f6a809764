/-
  DERIVED. GIVEN WITH THE SEED: THE CARDS: each row of YtofnlkogpljmmaaDoorRows.lean that lists a variable, with what it lists TIED to the program's text (the seventh form; the later family's looks); each row that meets fmt, with fmt's text TOLD by the authors' own Lean function (tested against real Go, not proved from fmt's source: count such statements apart). THE CARD IS WHAT COUNTS. Prove the row's statement (the work); the ties are given (YtofnlkogpljmmaaDoorTie.lean); close each card by the builder's one call (the guide's Derived/Test/ToyasCard.lean, 'card_holds'). Laid BY PROGRAM, IN A SANDBOX (cutbox-door.mjs). By AI agents, Wed Nov 11 2026. No macro, syntax, notation, axiom, sorry.
-/
import Derived.Test.YtofnlkogpljmmaaDoorRows
import GoSem.ClaimSeven
namespace Go.Proofs.YtofnlkogpljmmaaDoor
namespace Rows

/-- THE TIED CARD OF 'metronomelaw01.FaultsPlain'. -/
def faultsPlainCard : Claim7 := { stood := { row := faultsPlainRow, standIns := [], harness := (true, "48894fda5ed020d8c5daf8cbb777c62d46eb52be12f42dbcf3c421aa0f7d7a9f"), looks := true }, kinds := [], alts := [], laidByText := true, laidKinds := [.handle], laidTests := true, laidLooks := .later }
def FaultsPlainCardSaid : Prop := Claim7.holds Tryd.pinned (.plain (OpenSpec.ofChange faultsPlainSpec)) faultsPlainCard

/-- THE TIED CARD OF 'metronomelaw01.FaultsOdd'. -/
def faultsOddCard : Claim7 := { stood := { row := faultsOddRow, standIns := [], harness := (true, "48894fda5ed020d8c5daf8cbb777c62d46eb52be12f42dbcf3c421aa0f7d7a9f"), looks := true }, kinds := [], alts := [], laidByText := true, laidKinds := [.handle], laidTests := true, laidLooks := .later }
def FaultsOddCardSaid : Prop := Claim7.holds Tryd.pinned (.plain (OpenSpec.ofChange faultsOddSpec)) faultsOddCard

/-- THE TIED CARD OF 'metronomelaw01.FaultsTold'. -/
def faultsToldCard : Claim7 := { stood := { row := faultsToldRow, standIns := [], harness := (true, "48894fda5ed020d8c5daf8cbb777c62d46eb52be12f42dbcf3c421aa0f7d7a9f"), looks := true }, kinds := [], alts := [], laidByText := true, laidKinds := [.handle], laidTests := true, laidLooks := .later }
def FaultsToldCardSaid : Prop := Claim7.holds Tryd.pinned (.plain (OpenSpec.ofChange faultsToldSpec)) faultsToldCard

/-- THE TIED CARD OF 'metronomelaw01.FaultsNone'. -/
def faultsNoneCard : Claim7 := { stood := { row := faultsNoneRow, standIns := [], harness := (true, "48894fda5ed020d8c5daf8cbb777c62d46eb52be12f42dbcf3c421aa0f7d7a9f"), looks := true }, kinds := [], alts := [], laidByText := true, laidKinds := [.data, .data, .data, .handle], laidTests := true, laidLooks := .later }
def FaultsNoneCardSaid : Prop := Claim7.holds Tryd.pinned (.plain (OpenSpec.ofChange faultsNoneSpec)) faultsNoneCard

/-- THE TIED CARD OF 'metronomelaw01.FaultsFirst'. -/
def faultsFirstCard : Claim7 := { stood := { row := faultsFirstRow, standIns := [], harness := (true, "48894fda5ed020d8c5daf8cbb777c62d46eb52be12f42dbcf3c421aa0f7d7a9f"), looks := true }, kinds := [], alts := [], laidByText := true, laidKinds := [.handle], laidTests := true, laidLooks := .later }
def FaultsFirstCardSaid : Prop := Claim7.holds Tryd.pinned (.plain (OpenSpec.ofChange faultsFirstSpec)) faultsFirstCard

/-- THE SECOND FORM's CARD OF 'metronomelaw01.FaultsPlain'. -/
def faultsPlainUptoCard : Claim7 := { stood := { row := faultsPlainUptoRow, standIns := [], harness := (true, "48894fda5ed020d8c5daf8cbb777c62d46eb52be12f42dbcf3c421aa0f7d7a9f"), looks := true }, kinds := [], alts := [], laidByText := true, laidKinds := [.handle], laidTests := true, laidLooks := .later }
def FaultsPlainUptoCardSaid : Prop := Claim7.holds Tryd.pinned (.plain (OpenSpec.upto faultsPlainSpec)) faultsPlainUptoCard

/-- THE SECOND FORM's CARD OF 'metronomelaw01.FaultsOdd'. -/
def faultsOddUptoCard : Claim7 := { stood := { row := faultsOddUptoRow, standIns := [], harness := (true, "48894fda5ed020d8c5daf8cbb777c62d46eb52be12f42dbcf3c421aa0f7d7a9f"), looks := true }, kinds := [], alts := [], laidByText := true, laidKinds := [.handle], laidTests := true, laidLooks := .later }
def FaultsOddUptoCardSaid : Prop := Claim7.holds Tryd.pinned (.plain (OpenSpec.upto faultsOddSpec)) faultsOddUptoCard

/-- THE SECOND FORM's CARD OF 'metronomelaw01.FaultsTold'. -/
def faultsToldUptoCard : Claim7 := { stood := { row := faultsToldUptoRow, standIns := [], harness := (true, "48894fda5ed020d8c5daf8cbb777c62d46eb52be12f42dbcf3c421aa0f7d7a9f"), looks := true }, kinds := [], alts := [], laidByText := true, laidKinds := [.handle], laidTests := true, laidLooks := .later }
def FaultsToldUptoCardSaid : Prop := Claim7.holds Tryd.pinned (.plain (OpenSpec.upto faultsToldSpec)) faultsToldUptoCard

/-- THE SECOND FORM's CARD OF 'metronomelaw01.FaultsNone'. -/
def faultsNoneUptoCard : Claim7 := { stood := { row := faultsNoneUptoRow, standIns := [], harness := (true, "48894fda5ed020d8c5daf8cbb777c62d46eb52be12f42dbcf3c421aa0f7d7a9f"), looks := true }, kinds := [], alts := [], laidByText := true, laidKinds := [.data, .data, .data, .handle], laidTests := true, laidLooks := .later }
def FaultsNoneUptoCardSaid : Prop := Claim7.holds Tryd.pinned (.plain (OpenSpec.upto faultsNoneSpec)) faultsNoneUptoCard

/-- THE SECOND FORM's CARD OF 'metronomelaw01.FaultsFirst'. -/
def faultsFirstUptoCard : Claim7 := { stood := { row := faultsFirstUptoRow, standIns := [], harness := (true, "48894fda5ed020d8c5daf8cbb777c62d46eb52be12f42dbcf3c421aa0f7d7a9f"), looks := true }, kinds := [], alts := [], laidByText := true, laidKinds := [.handle], laidTests := true, laidLooks := .later }
def FaultsFirstUptoCardSaid : Prop := Claim7.holds Tryd.pinned (.plain (OpenSpec.upto faultsFirstSpec)) faultsFirstUptoCard
end Rows
end Go.Proofs.YtofnlkogpljmmaaDoor
