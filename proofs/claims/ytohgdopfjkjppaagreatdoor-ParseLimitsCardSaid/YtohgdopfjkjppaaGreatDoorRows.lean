/-
  NARROWER THAN 'FOR EVERY INPUT', by the rows' own cells (each row's printed sentence says how): ParseStrong: laid · ParseDeep: laid · ParseLimits: laid.
  DERIVED. THE GIVEN ROWS OF THIS SEAT. 3 by the template 'for every input the law returns true; each argument reads behind the call as it read before'; 0 by the template 'total and deterministic' (their statements: YtohgdopfjkjppaaGreatDoorTotals.lean).
  GIVEN WITH THE SEED: the statements are not yours to turn. If you find one false, say at which input.
  Laid BY PROGRAM, IN A SANDBOX (cutbox-rows.mjs): the forced cells as the released guide's own fill.sh prints them over the translation 4d36855e1e068dad… (all of the seat's roots in one cut). By AI agents, Wed Nov 11 2026. No macro, syntax, notation, axiom, sorry.
-/
import Derived.Test.YtohgdopfjkjppaaGreatDoorChecked
import GoSem.Claim
import GoSem.ClaimJoined
import GoSem.ClaimMapViews
import Derived.JoinedTies
import Derived.KernelRfl
namespace Go.Proofs.YtohgdopfjkjppaaGreatDoor
/- THE CELL 'sum', in the pinned program and in every row, IS THE sha256 OF THE DUMP (.gsa) THAT YtohgdopfjkjppaaGreatDoorProg.lean LOADS. Nothing in Lean hashes anything: it is a label: what it is worth is what the hold of that sum in a sandbox is worth. -/
noncomputable def Tryz.pinned : Pinned := { name := "ytohgdopfjkjppaagreatdoor", sum := "4d36855e1e068dad1943872183651fffdfb4dc6f510cb45ff3e5f87d49d78771", checked := Tryz.checked }
namespace Rows
def none {H : Type} : Left H := { results := [], args := [] }

/- WHAT THE LISTED PACKAGE-LEVEL VARIABLES READ AS WHEN THE CALL BEGINS. Each datum BY PROGRAM (the guide's laid-datum.mjs) off the statement by which the dump's own 'gosem.cut.vars' lays the variable. In a bare row this is a premise. The card (YtohgdopfjkjppaaGreatDoorCards.lean) ties it to the program's text. -/
def laid_errors_errorType {H : Type} : DataW H := .iface "internal/reflectlite.rtype" (.agg [.ptr (.lit (.string [101, 114, 114, 111, 114]))])

/-- 'metronomelaw06.ParseStrong': WHATEVER THE INPUT: true; the input reads as it did. -/
def parseStrongSpec : ChangeSpec := { name := "parseStrong", fn := fun _ => fun
  | [d1, d2] => { results := [.lit (.bool true)], args := [d1, d2] }
  | _ => none }
def parseStrongRow : OpenClaim := { program := "ytohgdopfjkjppaagreatdoor", sum := "4d36855e1e068dad1943872183651fffdfb4dc6f510cb45ff3e5f87d49d78771", func := "metronome/metronomelaw06.ParseStrong", spec := "parseStrong", inPlace := ["internal/bytealg.IndexByteString", "internal/bytealg.IndexString", "internal/reflectlite.TypeOf", "internal/reflectlite.ValueOf", "(internal/reflectlite.Value).Type", "(internal/reflectlite.Value).IsNil", "(internal/reflectlite.Value).Elem", "(internal/reflectlite.Value).Set"], unfollowed := true, recurses := true, named := ["internal/bytealg.MaxLen", "errors.errorType"], apart := false, laid := [("errors.errorType", laid_errors_errorType)] }
def ParseStrongSaid : Prop := parseStrongRow.holds Tryz.pinned (OpenSpec.ofChange parseStrongSpec)

/-- ITS FALSE NEIGHBOUR: 'it returns false'. Refute it at one input. -/
def parseStrongWrong : ChangeSpec := { name := "parseStrong", fn := fun _ => fun
  | [d1, d2] => { results := [.lit (.bool false)], args := [d1, d2] }
  | _ => none }
def ParseStrongWrongFalsely : Prop := parseStrongRow.holds Tryz.pinned (OpenSpec.ofChange parseStrongWrong)

/-- 'metronomelaw06.ParseDeep': WHATEVER THE INPUT: true; the input reads as it did. -/
def parseDeepSpec : ChangeSpec := { name := "parseDeep", fn := fun _ => fun
  | [d1, d2] => { results := [.lit (.bool true)], args := [d1, d2] }
  | _ => none }
def parseDeepRow : OpenClaim := { program := "ytohgdopfjkjppaagreatdoor", sum := "4d36855e1e068dad1943872183651fffdfb4dc6f510cb45ff3e5f87d49d78771", func := "metronome/metronomelaw06.ParseDeep", spec := "parseDeep", inPlace := ["internal/bytealg.IndexByteString", "internal/bytealg.IndexString", "internal/reflectlite.TypeOf", "internal/reflectlite.ValueOf", "(internal/reflectlite.Value).Type", "(internal/reflectlite.Value).IsNil", "(internal/reflectlite.Value).Elem", "(internal/reflectlite.Value).Set"], unfollowed := true, recurses := true, named := ["internal/bytealg.MaxLen", "errors.errorType"], apart := false, laid := [("errors.errorType", laid_errors_errorType)] }
def ParseDeepSaid : Prop := parseDeepRow.holds Tryz.pinned (OpenSpec.ofChange parseDeepSpec)

/-- ITS FALSE NEIGHBOUR: 'it returns false'. Refute it at one input. -/
def parseDeepWrong : ChangeSpec := { name := "parseDeep", fn := fun _ => fun
  | [d1, d2] => { results := [.lit (.bool false)], args := [d1, d2] }
  | _ => none }
def ParseDeepWrongFalsely : Prop := parseDeepRow.holds Tryz.pinned (OpenSpec.ofChange parseDeepWrong)

/-- 'metronomelaw06.ParseLimits': WHATEVER THE INPUT: true; the input reads as it did. -/
def parseLimitsSpec : ChangeSpec := { name := "parseLimits", fn := fun _ => fun
  | [d1, d2] => { results := [.lit (.bool true)], args := [d1, d2] }
  | _ => none }
def parseLimitsRow : OpenClaim := { program := "ytohgdopfjkjppaagreatdoor", sum := "4d36855e1e068dad1943872183651fffdfb4dc6f510cb45ff3e5f87d49d78771", func := "metronome/metronomelaw06.ParseLimits", spec := "parseLimits", inPlace := ["internal/bytealg.IndexByteString", "internal/bytealg.IndexString", "internal/reflectlite.TypeOf", "internal/reflectlite.ValueOf", "(internal/reflectlite.Value).Type", "(internal/reflectlite.Value).IsNil", "(internal/reflectlite.Value).Elem", "(internal/reflectlite.Value).Set"], unfollowed := true, recurses := true, named := ["internal/bytealg.MaxLen", "errors.errorType"], apart := false, laid := [("errors.errorType", laid_errors_errorType)] }
def ParseLimitsSaid : Prop := parseLimitsRow.holds Tryz.pinned (OpenSpec.ofChange parseLimitsSpec)

/-- ITS FALSE NEIGHBOUR: 'it returns false'. Refute it at one input. -/
def parseLimitsWrong : ChangeSpec := { name := "parseLimits", fn := fun _ => fun
  | [d1, d2] => { results := [.lit (.bool false)], args := [d1, d2] }
  | _ => none }
def ParseLimitsWrongFalsely : Prop := parseLimitsRow.holds Tryz.pinned (OpenSpec.ofChange parseLimitsWrong)

/- THE SECOND FORM. 'bulk': how many values and letters a reading holds, each counted each time it is reached (what is shared counts as often as it is met; a slice's spare places count too). A statement '..UptoSaid' is the law's where the arguments, and the package variables that the reading takes, are together of bulk at most 1048576: NARROWER than '..Said'. Prove '..Said' where nothing that the law and all that it calls make is longer than what came in: it says more and counts as full. Else prove '..UptoSaid'. A law counts once. -/
mutual
def uptoBulk {H : Type} : DataW H → Nat
  | .lit (.string bytes) => bytes.length + 1
  | .lit _ => 1
  | .nil => 1
  | .ptr d => uptoBulk d + 1
  | .slice elems spare => uptoBulkAll elems + uptoBulkAll spare + 1
  | .agg parts => uptoBulkAll parts + 1
  | .iface _ d => uptoBulk d + 1
  | .map entries => uptoBulkEntries entries + 1
  | .held _ => 1
def uptoBulkAll {H : Type} : List (DataW H) → Nat
  | [] => 0
  | d :: r => uptoBulk d + uptoBulkAll r
def uptoBulkEntries {H : Type} : List (Lit × DataW H) → Nat
  | [] => 0
  | x :: r => uptoBulkEntry x + uptoBulkEntries r
def uptoBulkEntry {H : Type} : Lit × DataW H → Nat
  | (.string bytes, d) => bytes.length + uptoBulk d + 1
  | (_, d) => uptoBulk d + 1
 end
def uptoSmall : (H : Type) → List (DataW H) → Bool := fun _ ds => decide (uptoBulkAll ds ≤ 1048576)
def OpenSpec.upto (s : _root_.Go.ChangeSpec) : _root_.Go.OpenSpec := { _root_.Go.OpenSpec.ofChange s with cond := some uptoSmall }

/-- 'metronomelaw06.ParseStrong', WHERE WHAT IT READS IS OF BULK AT MOST 1048576: true; the input reads as it did. -/
def parseStrongUptoRow : OpenClaim := { program := "ytohgdopfjkjppaagreatdoor", sum := "4d36855e1e068dad1943872183651fffdfb4dc6f510cb45ff3e5f87d49d78771", func := "metronome/metronomelaw06.ParseStrong", spec := "parseStrong", inPlace := ["internal/bytealg.IndexByteString", "internal/bytealg.IndexString", "internal/reflectlite.TypeOf", "internal/reflectlite.ValueOf", "(internal/reflectlite.Value).Type", "(internal/reflectlite.Value).IsNil", "(internal/reflectlite.Value).Elem", "(internal/reflectlite.Value).Set"], unfollowed := true, recurses := true, named := ["internal/bytealg.MaxLen", "errors.errorType"], apart := false, laid := [("errors.errorType", laid_errors_errorType)], narrowed := true }
def ParseStrongUptoSaid : Prop := parseStrongUptoRow.holds Tryz.pinned (OpenSpec.upto parseStrongSpec)

/-- 'metronomelaw06.ParseDeep', WHERE WHAT IT READS IS OF BULK AT MOST 1048576: true; the input reads as it did. -/
def parseDeepUptoRow : OpenClaim := { program := "ytohgdopfjkjppaagreatdoor", sum := "4d36855e1e068dad1943872183651fffdfb4dc6f510cb45ff3e5f87d49d78771", func := "metronome/metronomelaw06.ParseDeep", spec := "parseDeep", inPlace := ["internal/bytealg.IndexByteString", "internal/bytealg.IndexString", "internal/reflectlite.TypeOf", "internal/reflectlite.ValueOf", "(internal/reflectlite.Value).Type", "(internal/reflectlite.Value).IsNil", "(internal/reflectlite.Value).Elem", "(internal/reflectlite.Value).Set"], unfollowed := true, recurses := true, named := ["internal/bytealg.MaxLen", "errors.errorType"], apart := false, laid := [("errors.errorType", laid_errors_errorType)], narrowed := true }
def ParseDeepUptoSaid : Prop := parseDeepUptoRow.holds Tryz.pinned (OpenSpec.upto parseDeepSpec)

/-- 'metronomelaw06.ParseLimits', WHERE WHAT IT READS IS OF BULK AT MOST 1048576: true; the input reads as it did. -/
def parseLimitsUptoRow : OpenClaim := { program := "ytohgdopfjkjppaagreatdoor", sum := "4d36855e1e068dad1943872183651fffdfb4dc6f510cb45ff3e5f87d49d78771", func := "metronome/metronomelaw06.ParseLimits", spec := "parseLimits", inPlace := ["internal/bytealg.IndexByteString", "internal/bytealg.IndexString", "internal/reflectlite.TypeOf", "internal/reflectlite.ValueOf", "(internal/reflectlite.Value).Type", "(internal/reflectlite.Value).IsNil", "(internal/reflectlite.Value).Elem", "(internal/reflectlite.Value).Set"], unfollowed := true, recurses := true, named := ["internal/bytealg.MaxLen", "errors.errorType"], apart := false, laid := [("errors.errorType", laid_errors_errorType)], narrowed := true }
def ParseLimitsUptoSaid : Prop := parseLimitsUptoRow.holds Tryz.pinned (OpenSpec.upto parseLimitsSpec)

end Rows
end Go.Proofs.YtohgdopfjkjppaaGreatDoor
