/-
  NARROWER THAN 'FOR EVERY INPUT', by the rows' own cells (each row's printed sentence says how): TreeVars: loops · TreeValues: loops.
  DERIVED. THE GIVEN ROWS OF THIS SEAT. 5 by the template 'for every input the law returns true; each argument reads behind the call as it read before'; 0 by the template 'total and deterministic' (their statements: YtibhhoknipdlpaaTotals.lean).
  GIVEN WITH THE SEED: the statements are not yours to turn. If you find one false, say at which input.
  Laid BY PROGRAM, IN A SANDBOX (cutbox-rows.mjs): the forced cells as the released guide's own fill.sh prints them over the translation e0feec6ae5a6509d… (all of the seat's roots in one cut). By AI agents, Wed Nov 11 2026. No macro, syntax, notation, axiom, sorry.
-/
import Derived.Test.YtibhhoknipdlpaaChecked
import GoSem.Claim
import GoSem.ClaimJoined
import GoSem.ClaimMapViews
import Derived.JoinedTies
import Derived.KernelRfl
namespace Go.Proofs.Ytibhhoknipdlpaa
/- THE CELL 'sum', in the pinned program and in every row, IS THE sha256 OF THE DUMP (.gsa) THAT YtibhhoknipdlpaaProg.lean LOADS. Nothing in Lean hashes anything: it is a label: what it is worth is what the hold of that sum in a sandbox is worth. -/
noncomputable def Try.pinned : Pinned := { name := "ytibhhoknipdlpaa", sum := "e0feec6ae5a6509dbcc9495ae029ae915f752aa566e9d45444eee1c7f0e22a0a", checked := Try.checked }
namespace Rows
def none {H : Type} : Left H := { results := [], args := [] }

/-- 'metronomelaw04.TreeReads': WHATEVER THE INPUT: true; the input reads as it did. -/
def treeReadsSpec : ChangeSpec := { name := "treeReads", fn := fun _ => fun
  | [d1, d2] => { results := [.lit (.bool true)], args := [d1, d2] }
  | _ => none }
def treeReadsRow : OpenClaim := { program := "ytibhhoknipdlpaa", sum := "e0feec6ae5a6509dbcc9495ae029ae915f752aa566e9d45444eee1c7f0e22a0a", func := "metronome/metronomelaw04.TreeReads", spec := "treeReads", recurses := true, apart := false }
def TreeReadsSaid : Prop := treeReadsRow.holds Try.pinned (OpenSpec.ofChange treeReadsSpec)

/-- ITS FALSE NEIGHBOUR: 'it returns false'. Refute it at one input. -/
def treeReadsWrong : ChangeSpec := { name := "treeReads", fn := fun _ => fun
  | [d1, d2] => { results := [.lit (.bool false)], args := [d1, d2] }
  | _ => none }
def TreeReadsWrongFalsely : Prop := treeReadsRow.holds Try.pinned (OpenSpec.ofChange treeReadsWrong)

/-- 'metronomelaw04.TreeVars': WHATEVER THE INPUT: true; the input reads as it did. -/
def treeVarsSpec : ChangeSpec := { name := "treeVars", fn := fun _ => fun
  | [d1, d2] => { results := [.lit (.bool true)], args := [d1, d2] }
  | _ => none }
def treeVarsRow : OpenClaim := { program := "ytibhhoknipdlpaa", sum := "e0feec6ae5a6509dbcc9495ae029ae915f752aa566e9d45444eee1c7f0e22a0a", func := "metronome/metronomelaw04.TreeVars", spec := "treeVars", unfollowed := true, recurses := true, loops := true, apart := false }
def TreeVarsSaid : Prop := treeVarsRow.holds Try.pinned (OpenSpec.ofChange treeVarsSpec)

/-- ITS FALSE NEIGHBOUR: 'it returns false'. Refute it at one input. -/
def treeVarsWrong : ChangeSpec := { name := "treeVars", fn := fun _ => fun
  | [d1, d2] => { results := [.lit (.bool false)], args := [d1, d2] }
  | _ => none }
def TreeVarsWrongFalsely : Prop := treeVarsRow.holds Try.pinned (OpenSpec.ofChange treeVarsWrong)

/-- 'metronomelaw04.TreeValues': WHATEVER THE INPUT: true; the input reads as it did. -/
def treeValuesSpec : ChangeSpec := { name := "treeValues", fn := fun _ => fun
  | [d1, d2, d3, d4] => { results := [.lit (.bool true)], args := [d1, d2, d3, d4] }
  | _ => none }
def treeValuesRow : OpenClaim := { program := "ytibhhoknipdlpaa", sum := "e0feec6ae5a6509dbcc9495ae029ae915f752aa566e9d45444eee1c7f0e22a0a", func := "metronome/metronomelaw04.TreeValues", spec := "treeValues", unfollowed := true, recurses := true, loops := true, apart := false }
def TreeValuesSaid : Prop := treeValuesRow.holds Try.pinned (OpenSpec.ofChange treeValuesSpec)

/-- ITS FALSE NEIGHBOUR: 'it returns false'. Refute it at one input. -/
def treeValuesWrong : ChangeSpec := { name := "treeValues", fn := fun _ => fun
  | [d1, d2, d3, d4] => { results := [.lit (.bool false)], args := [d1, d2, d3, d4] }
  | _ => none }
def TreeValuesWrongFalsely : Prop := treeValuesRow.holds Try.pinned (OpenSpec.ofChange treeValuesWrong)

/-- 'metronomelaw04.TreeFinds': WHATEVER THE INPUT: true; the input reads as it did. -/
def treeFindsSpec : ChangeSpec := { name := "treeFinds", fn := fun _ => fun
  | [d1, d2, d3, d4] => { results := [.lit (.bool true)], args := [d1, d2, d3, d4] }
  | _ => none }
def treeFindsRow : OpenClaim := { program := "ytibhhoknipdlpaa", sum := "e0feec6ae5a6509dbcc9495ae029ae915f752aa566e9d45444eee1c7f0e22a0a", func := "metronome/metronomelaw04.TreeFinds", spec := "treeFinds", unfollowed := true, recurses := true, apart := false }
def TreeFindsSaid : Prop := treeFindsRow.holds Try.pinned (OpenSpec.ofChange treeFindsSpec)

/-- ITS FALSE NEIGHBOUR: 'it returns false'. Refute it at one input. -/
def treeFindsWrong : ChangeSpec := { name := "treeFinds", fn := fun _ => fun
  | [d1, d2, d3, d4] => { results := [.lit (.bool false)], args := [d1, d2, d3, d4] }
  | _ => none }
def TreeFindsWrongFalsely : Prop := treeFindsRow.holds Try.pinned (OpenSpec.ofChange treeFindsWrong)

/-- 'metronomelaw04.TreePrograms': WHATEVER THE INPUT: true; the input reads as it did. -/
def treeProgramsSpec : ChangeSpec := { name := "treePrograms", fn := fun _ => fun
  | [d1, d2, d3, d4] => { results := [.lit (.bool true)], args := [d1, d2, d3, d4] }
  | _ => none }
def treeProgramsRow : OpenClaim := { program := "ytibhhoknipdlpaa", sum := "e0feec6ae5a6509dbcc9495ae029ae915f752aa566e9d45444eee1c7f0e22a0a", func := "metronome/metronomelaw04.TreePrograms", spec := "treePrograms", unfollowed := true, recurses := true, apart := false }
def TreeProgramsSaid : Prop := treeProgramsRow.holds Try.pinned (OpenSpec.ofChange treeProgramsSpec)

/-- ITS FALSE NEIGHBOUR: 'it returns false'. Refute it at one input. -/
def treeProgramsWrong : ChangeSpec := { name := "treePrograms", fn := fun _ => fun
  | [d1, d2, d3, d4] => { results := [.lit (.bool false)], args := [d1, d2, d3, d4] }
  | _ => none }
def TreeProgramsWrongFalsely : Prop := treeProgramsRow.holds Try.pinned (OpenSpec.ofChange treeProgramsWrong)

/- THE SECOND FORM. 'bulk': how many values and letters a reading holds, each counted each time it is reached (what is shared counts as often as it is met; a slice's spare places count too). A statement '..UptoSaid' is the law's where the arguments, and the package variables that the reading takes, are together of bulk at most 1048576: NARROWER than '..Said'. Prove '..Said' where nothing that the law and all that it calls make is longer than what came in: it says more and counts as full. Else prove '..UptoSaid'. A law counts once. -/
mutual
def uptoBulk {H : Type} : DataW H → Nat
  | .lit (.string bytes) => bytes.length + 1
  | .lit _ => 1
  | .nil => 1
  | .ptr d => uptoBulk d + 1
  | .slice elems spare => uptoBulkAll elems + uptoBulkAll spare + 1
  | .agg parts => uptoBulkAll parts + 1
  | .iface _ d => uptoBulk d + 1
  | .map entries => uptoBulkEntries entries + 1
  | .held _ => 1
def uptoBulkAll {H : Type} : List (DataW H) → Nat
  | [] => 0
  | d :: r => uptoBulk d + uptoBulkAll r
def uptoBulkEntries {H : Type} : List (Lit × DataW H) → Nat
  | [] => 0
  | x :: r => uptoBulkEntry x + uptoBulkEntries r
def uptoBulkEntry {H : Type} : Lit × DataW H → Nat
  | (.string bytes, d) => bytes.length + uptoBulk d + 1
  | (_, d) => uptoBulk d + 1
 end
def uptoSmall : (H : Type) → List (DataW H) → Bool := fun _ ds => decide (uptoBulkAll ds ≤ 1048576)
def OpenSpec.upto (s : _root_.Go.ChangeSpec) : _root_.Go.OpenSpec := { _root_.Go.OpenSpec.ofChange s with cond := some uptoSmall }

/-- 'metronomelaw04.TreeReads', WHERE WHAT IT READS IS OF BULK AT MOST 1048576: true; the input reads as it did. -/
def treeReadsUptoRow : OpenClaim := { program := "ytibhhoknipdlpaa", sum := "e0feec6ae5a6509dbcc9495ae029ae915f752aa566e9d45444eee1c7f0e22a0a", func := "metronome/metronomelaw04.TreeReads", spec := "treeReads", recurses := true, apart := false, narrowed := true }
def TreeReadsUptoSaid : Prop := treeReadsUptoRow.holds Try.pinned (OpenSpec.upto treeReadsSpec)

/-- 'metronomelaw04.TreeVars', WHERE WHAT IT READS IS OF BULK AT MOST 1048576: true; the input reads as it did. -/
def treeVarsUptoRow : OpenClaim := { program := "ytibhhoknipdlpaa", sum := "e0feec6ae5a6509dbcc9495ae029ae915f752aa566e9d45444eee1c7f0e22a0a", func := "metronome/metronomelaw04.TreeVars", spec := "treeVars", unfollowed := true, recurses := true, loops := true, apart := false, narrowed := true }
def TreeVarsUptoSaid : Prop := treeVarsUptoRow.holds Try.pinned (OpenSpec.upto treeVarsSpec)

/-- 'metronomelaw04.TreeValues', WHERE WHAT IT READS IS OF BULK AT MOST 1048576: true; the input reads as it did. -/
def treeValuesUptoRow : OpenClaim := { program := "ytibhhoknipdlpaa", sum := "e0feec6ae5a6509dbcc9495ae029ae915f752aa566e9d45444eee1c7f0e22a0a", func := "metronome/metronomelaw04.TreeValues", spec := "treeValues", unfollowed := true, recurses := true, loops := true, apart := false, narrowed := true }
def TreeValuesUptoSaid : Prop := treeValuesUptoRow.holds Try.pinned (OpenSpec.upto treeValuesSpec)

/-- 'metronomelaw04.TreeFinds', WHERE WHAT IT READS IS OF BULK AT MOST 1048576: true; the input reads as it did. -/
def treeFindsUptoRow : OpenClaim := { program := "ytibhhoknipdlpaa", sum := "e0feec6ae5a6509dbcc9495ae029ae915f752aa566e9d45444eee1c7f0e22a0a", func := "metronome/metronomelaw04.TreeFinds", spec := "treeFinds", unfollowed := true, recurses := true, apart := false, narrowed := true }
def TreeFindsUptoSaid : Prop := treeFindsUptoRow.holds Try.pinned (OpenSpec.upto treeFindsSpec)

/-- 'metronomelaw04.TreePrograms', WHERE WHAT IT READS IS OF BULK AT MOST 1048576: true; the input reads as it did. -/
def treeProgramsUptoRow : OpenClaim := { program := "ytibhhoknipdlpaa", sum := "e0feec6ae5a6509dbcc9495ae029ae915f752aa566e9d45444eee1c7f0e22a0a", func := "metronome/metronomelaw04.TreePrograms", spec := "treePrograms", unfollowed := true, recurses := true, apart := false, narrowed := true }
def TreeProgramsUptoSaid : Prop := treeProgramsUptoRow.holds Try.pinned (OpenSpec.upto treeProgramsSpec)

end Rows
end Go.Proofs.Ytibhhoknipdlpaa
