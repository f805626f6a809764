/-
  No cell of these rows narrows 'for every input' (looked for: loops, veiled, ifaces, maps, wideKeys, modest, calm, conditions, laid).
  DERIVED. THE GIVEN ROWS OF THIS SEAT. 3 by the template 'for every input the law returns true; each argument reads behind the call as it read before'; 0 by the template 'total and deterministic' (their statements: YtamdnlnoioglnaaTotals.lean).
  GIVEN WITH THE SEED: the statements are not yours to turn. If you find one false, say at which input.
  Laid BY PROGRAM, IN A SANDBOX (cutbox-rows.mjs): the forced cells as the released guide's own fill.sh prints them over the translation ab9bbc7dacddff9a… (all of the seat's roots in one cut). By AI agents, Wed Nov 11 2026. No macro, syntax, notation, axiom, sorry.
-/
import Derived.Test.YtamdnlnoioglnaaChecked
import GoSem.Claim
import GoSem.ClaimJoined
import GoSem.ClaimMapViews
import Derived.JoinedTies
import Derived.KernelRfl
namespace Go.Proofs.Ytamdnlnoioglnaa
/- THE CELL 'sum', in the pinned program and in every row, IS THE sha256 OF THE DUMP (.gsa) THAT YtamdnlnoioglnaaProg.lean LOADS. Nothing in Lean hashes anything: it is a label: what it is worth is what the hold of that sum in a sandbox is worth. -/
noncomputable def Try.pinned : Pinned := { name := "ytamdnlnoioglnaa", sum := "ab9bbc7dacddff9a86373b071b454e6a54246df341ec4c9dd77d7b0093c8b908", checked := Try.checked }
namespace Rows
def none {H : Type} : Left H := { results := [], args := [] }

/-- 'metronomelaw09.ClocksMade': WHATEVER THE INPUT: true; the input reads as it did. -/
def clocksMadeSpec : ChangeSpec := { name := "clocksMade", fn := fun _ => fun
  | [d] => { results := [.lit (.bool true)], args := [d] }
  | _ => none }
def clocksMadeRow : OpenClaim := { program := "ytamdnlnoioglnaa", sum := "ab9bbc7dacddff9a86373b071b454e6a54246df341ec4c9dd77d7b0093c8b908", func := "metronome/metronomelaw09.ClocksMade", spec := "clocksMade", inPlace := ["internal/reflectlite.TypeOf"], unfollowed := true, recurses := true, apart := false }
def ClocksMadeSaid : Prop := clocksMadeRow.holds Try.pinned (OpenSpec.ofChange clocksMadeSpec)

/-- ITS FALSE NEIGHBOUR: 'it returns false'. Refute it at one input. -/
def clocksMadeWrong : ChangeSpec := { name := "clocksMade", fn := fun _ => fun
  | [d] => { results := [.lit (.bool false)], args := [d] }
  | _ => none }
def ClocksMadeWrongFalsely : Prop := clocksMadeRow.holds Try.pinned (OpenSpec.ofChange clocksMadeWrong)

/-- 'metronomelaw09.ClocksSame': WHATEVER THE INPUT: true; the input reads as it did. -/
def clocksSameSpec : ChangeSpec := { name := "clocksSame", fn := fun _ => fun
  | [d1, d2] => { results := [.lit (.bool true)], args := [d1, d2] }
  | _ => none }
def clocksSameRow : OpenClaim := { program := "ytamdnlnoioglnaa", sum := "ab9bbc7dacddff9a86373b071b454e6a54246df341ec4c9dd77d7b0093c8b908", func := "metronome/metronomelaw09.ClocksSame", spec := "clocksSame", inPlace := ["internal/reflectlite.TypeOf"], unfollowed := true, recurses := true, apart := false }
def ClocksSameSaid : Prop := clocksSameRow.holds Try.pinned (OpenSpec.ofChange clocksSameSpec)

/-- ITS FALSE NEIGHBOUR: 'it returns false'. Refute it at one input. -/
def clocksSameWrong : ChangeSpec := { name := "clocksSame", fn := fun _ => fun
  | [d1, d2] => { results := [.lit (.bool false)], args := [d1, d2] }
  | _ => none }
def ClocksSameWrongFalsely : Prop := clocksSameRow.holds Try.pinned (OpenSpec.ofChange clocksSameWrong)

/-- 'metronomelaw09.ClocksWhens': WHATEVER THE INPUT: true; the input reads as it did. -/
def clocksWhensSpec : ChangeSpec := { name := "clocksWhens", fn := fun _ => fun
  | [d1, d2] => { results := [.lit (.bool true)], args := [d1, d2] }
  | _ => none }
def clocksWhensRow : OpenClaim := { program := "ytamdnlnoioglnaa", sum := "ab9bbc7dacddff9a86373b071b454e6a54246df341ec4c9dd77d7b0093c8b908", func := "metronome/metronomelaw09.ClocksWhens", spec := "clocksWhens", inPlace := ["internal/reflectlite.TypeOf"], unfollowed := true, recurses := true, apart := false }
def ClocksWhensSaid : Prop := clocksWhensRow.holds Try.pinned (OpenSpec.ofChange clocksWhensSpec)

/-- ITS FALSE NEIGHBOUR: 'it returns false'. Refute it at one input. -/
def clocksWhensWrong : ChangeSpec := { name := "clocksWhens", fn := fun _ => fun
  | [d1, d2] => { results := [.lit (.bool false)], args := [d1, d2] }
  | _ => none }
def ClocksWhensWrongFalsely : Prop := clocksWhensRow.holds Try.pinned (OpenSpec.ofChange clocksWhensWrong)

/- THE SECOND FORM. 'bulk': how many values and letters a reading holds, each counted each time it is reached (what is shared counts as often as it is met; a slice's spare places count too). A statement '..UptoSaid' is the law's where the arguments, and the package variables that the reading takes, are together of bulk at most 1048576: NARROWER than '..Said'. Prove '..Said' where nothing that the law and all that it calls make is longer than what came in: it says more and counts as full. Else prove '..UptoSaid'. A law counts once. -/
mutual
def uptoBulk {H : Type} : DataW H → Nat
  | .lit (.string bytes) => bytes.length + 1
  | .lit _ => 1
  | .nil => 1
  | .ptr d => uptoBulk d + 1
  | .slice elems spare => uptoBulkAll elems + uptoBulkAll spare + 1
  | .agg parts => uptoBulkAll parts + 1
  | .iface _ d => uptoBulk d + 1
  | .map entries => uptoBulkEntries entries + 1
  | .held _ => 1
def uptoBulkAll {H : Type} : List (DataW H) → Nat
  | [] => 0
  | d :: r => uptoBulk d + uptoBulkAll r
def uptoBulkEntries {H : Type} : List (Lit × DataW H) → Nat
  | [] => 0
  | x :: r => uptoBulkEntry x + uptoBulkEntries r
def uptoBulkEntry {H : Type} : Lit × DataW H → Nat
  | (.string bytes, d) => bytes.length + uptoBulk d + 1
  | (_, d) => uptoBulk d + 1
 end
def uptoSmall : (H : Type) → List (DataW H) → Bool := fun _ ds => decide (uptoBulkAll ds ≤ 1048576)
def OpenSpec.upto (s : _root_.Go.ChangeSpec) : _root_.Go.OpenSpec := { _root_.Go.OpenSpec.ofChange s with cond := some uptoSmall }

/-- 'metronomelaw09.ClocksMade', WHERE WHAT IT READS IS OF BULK AT MOST 1048576: true; the input reads as it did. -/
def clocksMadeUptoRow : OpenClaim := { program := "ytamdnlnoioglnaa", sum := "ab9bbc7dacddff9a86373b071b454e6a54246df341ec4c9dd77d7b0093c8b908", func := "metronome/metronomelaw09.ClocksMade", spec := "clocksMade", inPlace := ["internal/reflectlite.TypeOf"], unfollowed := true, recurses := true, apart := false, narrowed := true }
def ClocksMadeUptoSaid : Prop := clocksMadeUptoRow.holds Try.pinned (OpenSpec.upto clocksMadeSpec)

/-- 'metronomelaw09.ClocksSame', WHERE WHAT IT READS IS OF BULK AT MOST 1048576: true; the input reads as it did. -/
def clocksSameUptoRow : OpenClaim := { program := "ytamdnlnoioglnaa", sum := "ab9bbc7dacddff9a86373b071b454e6a54246df341ec4c9dd77d7b0093c8b908", func := "metronome/metronomelaw09.ClocksSame", spec := "clocksSame", inPlace := ["internal/reflectlite.TypeOf"], unfollowed := true, recurses := true, apart := false, narrowed := true }
def ClocksSameUptoSaid : Prop := clocksSameUptoRow.holds Try.pinned (OpenSpec.upto clocksSameSpec)

/-- 'metronomelaw09.ClocksWhens', WHERE WHAT IT READS IS OF BULK AT MOST 1048576: true; the input reads as it did. -/
def clocksWhensUptoRow : OpenClaim := { program := "ytamdnlnoioglnaa", sum := "ab9bbc7dacddff9a86373b071b454e6a54246df341ec4c9dd77d7b0093c8b908", func := "metronome/metronomelaw09.ClocksWhens", spec := "clocksWhens", inPlace := ["internal/reflectlite.TypeOf"], unfollowed := true, recurses := true, apart := false, narrowed := true }
def ClocksWhensUptoSaid : Prop := clocksWhensUptoRow.holds Try.pinned (OpenSpec.upto clocksWhensSpec)

end Rows
end Go.Proofs.Ytamdnlnoioglnaa
