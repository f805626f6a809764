/-
  No cell of these rows narrows 'for every input' (looked for: loops, veiled, ifaces, maps, wideKeys, modest, calm, conditions, laid).
  DERIVED. THE GIVEN ROWS OF THIS SEAT. 5 by the template 'for every input the law returns true; each argument reads behind the call as it read before'; 0 by the template 'total and deterministic' (their statements: YtepjjgnkhcjpcaaTotals.lean).
  GIVEN WITH THE SEED: the statements are not yours to turn. If you find one false, say at which input.
  Laid BY PROGRAM, IN A SANDBOX (cutbox-rows.mjs): the forced cells as the released guide's own fill.sh prints them over the translation cbe6be2e737be0b9… (all of the seat's roots in one cut). By AI agents, Wed Nov 11 2026. No macro, syntax, notation, axiom, sorry.
-/
import Derived.Test.YtepjjgnkhcjpcaaChecked
import GoSem.Claim
import GoSem.ClaimJoined
import GoSem.ClaimMapViews
import Derived.JoinedTies
import Derived.KernelRfl
namespace Go.Proofs.Ytepjjgnkhcjpcaa
/- THE CELL 'sum', in the pinned program and in every row, IS THE sha256 OF THE DUMP (.gsa) THAT YtepjjgnkhcjpcaaProg.lean LOADS. Nothing in Lean hashes anything: it is a label: what it is worth is what the hold of that sum in a sandbox is worth. -/
noncomputable def Try.pinned : Pinned := { name := "ytepjjgnkhcjpcaa", sum := "cbe6be2e737be0b9fbd09f75a3f7cf239314119524799fcd5dcdafc62193be27", checked := Try.checked }
namespace Rows
def none {H : Type} : Left H := { results := [], args := [] }

/-- 'metronomelaw23.CliteLayouts': WHATEVER THE INPUT: true; the input reads as it did. -/
def cliteLayoutsSpec : ChangeSpec := { name := "cliteLayouts", fn := fun _ => fun
  | [d] => { results := [.lit (.bool true)], args := [d] }
  | _ => none }
def cliteLayoutsRow : OpenClaim := { program := "ytepjjgnkhcjpcaa", sum := "cbe6be2e737be0b9fbd09f75a3f7cf239314119524799fcd5dcdafc62193be27", func := "metronome/metronomelaw23.CliteLayouts", spec := "cliteLayouts", unfollowed := true, recurses := true, apart := false }
def CliteLayoutsSaid : Prop := cliteLayoutsRow.holds Try.pinned (OpenSpec.ofChange cliteLayoutsSpec)

/-- ITS FALSE NEIGHBOUR: 'it returns false'. Refute it at one input. -/
def cliteLayoutsWrong : ChangeSpec := { name := "cliteLayouts", fn := fun _ => fun
  | [d] => { results := [.lit (.bool false)], args := [d] }
  | _ => none }
def CliteLayoutsWrongFalsely : Prop := cliteLayoutsRow.holds Try.pinned (OpenSpec.ofChange cliteLayoutsWrong)

/-- 'metronomelaw23.CliteCalls': WHATEVER THE INPUT: true; the input reads as it did. -/
def cliteCallsSpec : ChangeSpec := { name := "cliteCalls", fn := fun _ => fun
  | [d1, d2, d3] => { results := [.lit (.bool true)], args := [d1, d2, d3] }
  | _ => none }
def cliteCallsRow : OpenClaim := { program := "ytepjjgnkhcjpcaa", sum := "cbe6be2e737be0b9fbd09f75a3f7cf239314119524799fcd5dcdafc62193be27", func := "metronome/metronomelaw23.CliteCalls", spec := "cliteCalls", unfollowed := true, recurses := true, apart := false }
def CliteCallsSaid : Prop := cliteCallsRow.holds Try.pinned (OpenSpec.ofChange cliteCallsSpec)

/-- ITS FALSE NEIGHBOUR: 'it returns false'. Refute it at one input. -/
def cliteCallsWrong : ChangeSpec := { name := "cliteCalls", fn := fun _ => fun
  | [d1, d2, d3] => { results := [.lit (.bool false)], args := [d1, d2, d3] }
  | _ => none }
def CliteCallsWrongFalsely : Prop := cliteCallsRow.holds Try.pinned (OpenSpec.ofChange cliteCallsWrong)

/-- 'metronomelaw23.CliteSame': WHATEVER THE INPUT: true; the input reads as it did. -/
def cliteSameSpec : ChangeSpec := { name := "cliteSame", fn := fun _ => fun
  | [d1, d2] => { results := [.lit (.bool true)], args := [d1, d2] }
  | _ => none }
def cliteSameRow : OpenClaim := { program := "ytepjjgnkhcjpcaa", sum := "cbe6be2e737be0b9fbd09f75a3f7cf239314119524799fcd5dcdafc62193be27", func := "metronome/metronomelaw23.CliteSame", spec := "cliteSame", unfollowed := true, recurses := true, apart := false }
def CliteSameSaid : Prop := cliteSameRow.holds Try.pinned (OpenSpec.ofChange cliteSameSpec)

/-- ITS FALSE NEIGHBOUR: 'it returns false'. Refute it at one input. -/
def cliteSameWrong : ChangeSpec := { name := "cliteSame", fn := fun _ => fun
  | [d1, d2] => { results := [.lit (.bool false)], args := [d1, d2] }
  | _ => none }
def CliteSameWrongFalsely : Prop := cliteSameRow.holds Try.pinned (OpenSpec.ofChange cliteSameWrong)

/-- 'metronomelaw23.CliteRuns': WHATEVER THE INPUT: true; the input reads as it did. -/
def cliteRunsSpec : ChangeSpec := { name := "cliteRuns", fn := fun _ => fun
  | [d1, d2, d3, d4] => { results := [.lit (.bool true)], args := [d1, d2, d3, d4] }
  | _ => none }
def cliteRunsRow : OpenClaim := { program := "ytepjjgnkhcjpcaa", sum := "cbe6be2e737be0b9fbd09f75a3f7cf239314119524799fcd5dcdafc62193be27", func := "metronome/metronomelaw23.CliteRuns", spec := "cliteRuns", unfollowed := true, recurses := true, apart := false }
def CliteRunsSaid : Prop := cliteRunsRow.holds Try.pinned (OpenSpec.ofChange cliteRunsSpec)

/-- ITS FALSE NEIGHBOUR: 'it returns false'. Refute it at one input. -/
def cliteRunsWrong : ChangeSpec := { name := "cliteRuns", fn := fun _ => fun
  | [d1, d2, d3, d4] => { results := [.lit (.bool false)], args := [d1, d2, d3, d4] }
  | _ => none }
def CliteRunsWrongFalsely : Prop := cliteRunsRow.holds Try.pinned (OpenSpec.ofChange cliteRunsWrong)

/-- 'metronomelaw23.CliteBases': WHATEVER THE INPUT: true; the input reads as it did. -/
def cliteBasesSpec : ChangeSpec := { name := "cliteBases", fn := fun _ => fun
  | [d1, d2, d3] => { results := [.lit (.bool true)], args := [d1, d2, d3] }
  | _ => none }
def cliteBasesRow : OpenClaim := { program := "ytepjjgnkhcjpcaa", sum := "cbe6be2e737be0b9fbd09f75a3f7cf239314119524799fcd5dcdafc62193be27", func := "metronome/metronomelaw23.CliteBases", spec := "cliteBases", unfollowed := true, recurses := true, apart := false }
def CliteBasesSaid : Prop := cliteBasesRow.holds Try.pinned (OpenSpec.ofChange cliteBasesSpec)

/-- ITS FALSE NEIGHBOUR: 'it returns false'. Refute it at one input. -/
def cliteBasesWrong : ChangeSpec := { name := "cliteBases", fn := fun _ => fun
  | [d1, d2, d3] => { results := [.lit (.bool false)], args := [d1, d2, d3] }
  | _ => none }
def CliteBasesWrongFalsely : Prop := cliteBasesRow.holds Try.pinned (OpenSpec.ofChange cliteBasesWrong)

/- THE SECOND FORM. 'bulk': how many values and letters a reading holds, each counted each time it is reached (what is shared counts as often as it is met; a slice's spare places count too). A statement '..UptoSaid' is the law's where the arguments, and the package variables that the reading takes, are together of bulk at most 1048576: NARROWER than '..Said'. Prove '..Said' where nothing that the law and all that it calls make is longer than what came in: it says more and counts as full. Else prove '..UptoSaid'. A law counts once. -/
mutual
def uptoBulk {H : Type} : DataW H → Nat
  | .lit (.string bytes) => bytes.length + 1
  | .lit _ => 1
  | .nil => 1
  | .ptr d => uptoBulk d + 1
  | .slice elems spare => uptoBulkAll elems + uptoBulkAll spare + 1
  | .agg parts => uptoBulkAll parts + 1
  | .iface _ d => uptoBulk d + 1
  | .map entries => uptoBulkEntries entries + 1
  | .held _ => 1
def uptoBulkAll {H : Type} : List (DataW H) → Nat
  | [] => 0
  | d :: r => uptoBulk d + uptoBulkAll r
def uptoBulkEntries {H : Type} : List (Lit × DataW H) → Nat
  | [] => 0
  | x :: r => uptoBulkEntry x + uptoBulkEntries r
def uptoBulkEntry {H : Type} : Lit × DataW H → Nat
  | (.string bytes, d) => bytes.length + uptoBulk d + 1
  | (_, d) => uptoBulk d + 1
 end
def uptoSmall : (H : Type) → List (DataW H) → Bool := fun _ ds => decide (uptoBulkAll ds ≤ 1048576)
def OpenSpec.upto (s : _root_.Go.ChangeSpec) : _root_.Go.OpenSpec := { _root_.Go.OpenSpec.ofChange s with cond := some uptoSmall }

/-- 'metronomelaw23.CliteLayouts', WHERE WHAT IT READS IS OF BULK AT MOST 1048576: true; the input reads as it did. -/
def cliteLayoutsUptoRow : OpenClaim := { program := "ytepjjgnkhcjpcaa", sum := "cbe6be2e737be0b9fbd09f75a3f7cf239314119524799fcd5dcdafc62193be27", func := "metronome/metronomelaw23.CliteLayouts", spec := "cliteLayouts", unfollowed := true, recurses := true, apart := false, narrowed := true }
def CliteLayoutsUptoSaid : Prop := cliteLayoutsUptoRow.holds Try.pinned (OpenSpec.upto cliteLayoutsSpec)

/-- 'metronomelaw23.CliteCalls', WHERE WHAT IT READS IS OF BULK AT MOST 1048576: true; the input reads as it did. -/
def cliteCallsUptoRow : OpenClaim := { program := "ytepjjgnkhcjpcaa", sum := "cbe6be2e737be0b9fbd09f75a3f7cf239314119524799fcd5dcdafc62193be27", func := "metronome/metronomelaw23.CliteCalls", spec := "cliteCalls", unfollowed := true, recurses := true, apart := false, narrowed := true }
def CliteCallsUptoSaid : Prop := cliteCallsUptoRow.holds Try.pinned (OpenSpec.upto cliteCallsSpec)

/-- 'metronomelaw23.CliteSame', WHERE WHAT IT READS IS OF BULK AT MOST 1048576: true; the input reads as it did. -/
def cliteSameUptoRow : OpenClaim := { program := "ytepjjgnkhcjpcaa", sum := "cbe6be2e737be0b9fbd09f75a3f7cf239314119524799fcd5dcdafc62193be27", func := "metronome/metronomelaw23.CliteSame", spec := "cliteSame", unfollowed := true, recurses := true, apart := false, narrowed := true }
def CliteSameUptoSaid : Prop := cliteSameUptoRow.holds Try.pinned (OpenSpec.upto cliteSameSpec)

/-- 'metronomelaw23.CliteRuns', WHERE WHAT IT READS IS OF BULK AT MOST 1048576: true; the input reads as it did. -/
def cliteRunsUptoRow : OpenClaim := { program := "ytepjjgnkhcjpcaa", sum := "cbe6be2e737be0b9fbd09f75a3f7cf239314119524799fcd5dcdafc62193be27", func := "metronome/metronomelaw23.CliteRuns", spec := "cliteRuns", unfollowed := true, recurses := true, apart := false, narrowed := true }
def CliteRunsUptoSaid : Prop := cliteRunsUptoRow.holds Try.pinned (OpenSpec.upto cliteRunsSpec)

/-- 'metronomelaw23.CliteBases', WHERE WHAT IT READS IS OF BULK AT MOST 1048576: true; the input reads as it did. -/
def cliteBasesUptoRow : OpenClaim := { program := "ytepjjgnkhcjpcaa", sum := "cbe6be2e737be0b9fbd09f75a3f7cf239314119524799fcd5dcdafc62193be27", func := "metronome/metronomelaw23.CliteBases", spec := "cliteBases", unfollowed := true, recurses := true, apart := false, narrowed := true }
def CliteBasesUptoSaid : Prop := cliteBasesUptoRow.holds Try.pinned (OpenSpec.upto cliteBasesSpec)

end Rows
end Go.Proofs.Ytepjjgnkhcjpcaa
