/-
  No cell of these rows narrows 'for every input' (looked for: loops, veiled, ifaces, maps, wideKeys, modest, calm, conditions, laid).
  DERIVED. THE GIVEN ROWS OF THIS SEAT. 2 by the template 'for every input the law returns true; each argument reads behind the call as it read before'; 0 by the template 'total and deterministic' (their statements: YtaealemhegdmpaaTotals.lean).
  GIVEN WITH THE SEED: the statements are not yours to turn. If you find one false, say at which input.
  Laid BY PROGRAM, IN A SANDBOX (cutbox-rows.mjs): the forced cells as the released guide's own fill.sh prints them over the translation c963461724874687… (all of the seat's roots in one cut). By AI agents, Wed Nov 11 2026. No macro, syntax, notation, axiom, sorry.
-/
import Derived.Test.YtaealemhegdmpaaChecked
import GoSem.Claim
import GoSem.ClaimJoined
import GoSem.ClaimMapViews
import Derived.JoinedTies
import Derived.KernelRfl
namespace Go.Proofs.Ytaealemhegdmpaa
/- THE CELL 'sum', in the pinned program and in every row, IS THE sha256 OF THE DUMP (.gsa) THAT YtaealemhegdmpaaProg.lean LOADS. Nothing in Lean hashes anything: it is a label: what it is worth is what the hold of that sum in a sandbox is worth. -/
noncomputable def Try.pinned : Pinned := { name := "ytaealemhegdmpaa", sum := "c96346172487468746f8105a19779cd5a0cd333618b6023308b1ab4b65f107c5", checked := Try.checked }
namespace Rows
def none {H : Type} : Left H := { results := [], args := [] }

/-- 'metronomelaw11.CausesMade': WHATEVER THE INPUT: true; the input reads as it did. -/
def causesMadeSpec : ChangeSpec := { name := "causesMade", fn := fun _ => fun
  | [d] => { results := [.lit (.bool true)], args := [d] }
  | _ => none }
def causesMadeRow : OpenClaim := { program := "ytaealemhegdmpaa", sum := "c96346172487468746f8105a19779cd5a0cd333618b6023308b1ab4b65f107c5", func := "metronome/metronomelaw11.CausesMade", spec := "causesMade", inPlace := ["internal/reflectlite.TypeOf"], unfollowed := true, recurses := true, apart := false }
def CausesMadeSaid : Prop := causesMadeRow.holds Try.pinned (OpenSpec.ofChange causesMadeSpec)

/-- ITS FALSE NEIGHBOUR: 'it returns false'. Refute it at one input. -/
def causesMadeWrong : ChangeSpec := { name := "causesMade", fn := fun _ => fun
  | [d] => { results := [.lit (.bool false)], args := [d] }
  | _ => none }
def CausesMadeWrongFalsely : Prop := causesMadeRow.holds Try.pinned (OpenSpec.ofChange causesMadeWrong)

/-- 'metronomelaw11.CausesNeeds': WHATEVER THE INPUT: true; the input reads as it did. -/
def causesNeedsSpec : ChangeSpec := { name := "causesNeeds", fn := fun _ => fun
  | [d] => { results := [.lit (.bool true)], args := [d] }
  | _ => none }
def causesNeedsRow : OpenClaim := { program := "ytaealemhegdmpaa", sum := "c96346172487468746f8105a19779cd5a0cd333618b6023308b1ab4b65f107c5", func := "metronome/metronomelaw11.CausesNeeds", spec := "causesNeeds", inPlace := ["internal/reflectlite.TypeOf"], unfollowed := true, recurses := true, apart := false }
def CausesNeedsSaid : Prop := causesNeedsRow.holds Try.pinned (OpenSpec.ofChange causesNeedsSpec)

/-- ITS FALSE NEIGHBOUR: 'it returns false'. Refute it at one input. -/
def causesNeedsWrong : ChangeSpec := { name := "causesNeeds", fn := fun _ => fun
  | [d] => { results := [.lit (.bool false)], args := [d] }
  | _ => none }
def CausesNeedsWrongFalsely : Prop := causesNeedsRow.holds Try.pinned (OpenSpec.ofChange causesNeedsWrong)

/- THE SECOND FORM. 'bulk': how many values and letters a reading holds, each counted each time it is reached (what is shared counts as often as it is met; a slice's spare places count too). A statement '..UptoSaid' is the law's where the arguments, and the package variables that the reading takes, are together of bulk at most 1048576: NARROWER than '..Said'. Prove '..Said' where nothing that the law and all that it calls make is longer than what came in: it says more and counts as full. Else prove '..UptoSaid'. A law counts once. -/
mutual
def uptoBulk {H : Type} : DataW H → Nat
  | .lit (.string bytes) => bytes.length + 1
  | .lit _ => 1
  | .nil => 1
  | .ptr d => uptoBulk d + 1
  | .slice elems spare => uptoBulkAll elems + uptoBulkAll spare + 1
  | .agg parts => uptoBulkAll parts + 1
  | .iface _ d => uptoBulk d + 1
  | .map entries => uptoBulkEntries entries + 1
  | .held _ => 1
def uptoBulkAll {H : Type} : List (DataW H) → Nat
  | [] => 0
  | d :: r => uptoBulk d + uptoBulkAll r
def uptoBulkEntries {H : Type} : List (Lit × DataW H) → Nat
  | [] => 0
  | x :: r => uptoBulkEntry x + uptoBulkEntries r
def uptoBulkEntry {H : Type} : Lit × DataW H → Nat
  | (.string bytes, d) => bytes.length + uptoBulk d + 1
  | (_, d) => uptoBulk d + 1
 end
def uptoSmall : (H : Type) → List (DataW H) → Bool := fun _ ds => decide (uptoBulkAll ds ≤ 1048576)
def OpenSpec.upto (s : _root_.Go.ChangeSpec) : _root_.Go.OpenSpec := { _root_.Go.OpenSpec.ofChange s with cond := some uptoSmall }

/-- 'metronomelaw11.CausesMade', WHERE WHAT IT READS IS OF BULK AT MOST 1048576: true; the input reads as it did. -/
def causesMadeUptoRow : OpenClaim := { program := "ytaealemhegdmpaa", sum := "c96346172487468746f8105a19779cd5a0cd333618b6023308b1ab4b65f107c5", func := "metronome/metronomelaw11.CausesMade", spec := "causesMade", inPlace := ["internal/reflectlite.TypeOf"], unfollowed := true, recurses := true, apart := false, narrowed := true }
def CausesMadeUptoSaid : Prop := causesMadeUptoRow.holds Try.pinned (OpenSpec.upto causesMadeSpec)

/-- 'metronomelaw11.CausesNeeds', WHERE WHAT IT READS IS OF BULK AT MOST 1048576: true; the input reads as it did. -/
def causesNeedsUptoRow : OpenClaim := { program := "ytaealemhegdmpaa", sum := "c96346172487468746f8105a19779cd5a0cd333618b6023308b1ab4b65f107c5", func := "metronome/metronomelaw11.CausesNeeds", spec := "causesNeeds", inPlace := ["internal/reflectlite.TypeOf"], unfollowed := true, recurses := true, apart := false, narrowed := true }
def CausesNeedsUptoSaid : Prop := causesNeedsUptoRow.holds Try.pinned (OpenSpec.upto causesNeedsSpec)

end Rows
end Go.Proofs.Ytaealemhegdmpaa
