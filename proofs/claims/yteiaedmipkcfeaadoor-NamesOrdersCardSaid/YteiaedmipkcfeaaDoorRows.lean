/-
  NARROWER THAN 'FOR EVERY INPUT', by the rows' own cells (each row's printed sentence says how): NamesMade: laid · NamesEnums: laid · NamesNeeds: laid · NamesOrders: laid.
  DERIVED. THE GIVEN ROWS OF THIS SEAT. 4 by the template 'for every input the law returns true; each argument reads behind the call as it read before'; 0 by the template 'total and deterministic' (their statements: YteiaedmipkcfeaaDoorTotals.lean).
  GIVEN WITH THE SEED: the statements are not yours to turn. If you find one false, say at which input.
  Laid BY PROGRAM, IN A SANDBOX (cutbox-rows.mjs): the forced cells as the released guide's own fill.sh prints them over the translation 5a3c24fc30009abe… (all of the seat's roots in one cut). By AI agents, Wed Nov 11 2026. No macro, syntax, notation, axiom, sorry.
-/
import Derived.Test.YteiaedmipkcfeaaDoorChecked
import GoSem.Claim
import GoSem.ClaimJoined
import GoSem.ClaimMapViews
import Derived.JoinedTies
import Derived.KernelRfl
namespace Go.Proofs.YteiaedmipkcfeaaDoor
/- THE CELL 'sum', in the pinned program and in every row, IS THE sha256 OF THE DUMP (.gsa) THAT YteiaedmipkcfeaaDoorProg.lean LOADS. Nothing in Lean hashes anything: it is a label: what it is worth is what the hold of that sum in a sandbox is worth. -/
noncomputable def Tryd.pinned : Pinned := { name := "yteiaedmipkcfeaadoor", sum := "5a3c24fc30009abe3118e5d2d3d3e06a4f8f2a0256db68900d8032c89015115c", checked := Tryd.checked }
namespace Rows
def none {H : Type} : Left H := { results := [], args := [] }

/- WHAT THE LISTED PACKAGE-LEVEL VARIABLES READ AS WHEN THE CALL BEGINS. Each datum BY PROGRAM (the guide's laid-datum.mjs) off the statement by which the dump's own 'gosem.cut.vars' lays the variable. In a bare row this is a premise. The card (YteiaedmipkcfeaaDoorCards.lean) ties it to the program's text. -/
def laid_errors_errorType {H : Type} : DataW H := .iface "internal/reflectlite.rtype" (.agg [.ptr (.lit (.string [101, 114, 114, 111, 114]))])

/-- 'metronomelaw07.NamesMade': WHATEVER THE INPUT: true; the input reads as it did. -/
def namesMadeSpec : ChangeSpec := { name := "namesMade", fn := fun _ => fun
  | [d] => { results := [.lit (.bool true)], args := [d] }
  | _ => none }
def namesMadeRow : OpenClaim := { program := "yteiaedmipkcfeaadoor", sum := "5a3c24fc30009abe3118e5d2d3d3e06a4f8f2a0256db68900d8032c89015115c", func := "metronome/metronomelaw07.NamesMade", spec := "namesMade", inPlace := ["internal/reflectlite.TypeOf", "internal/reflectlite.ValueOf", "(internal/reflectlite.Value).Type", "(internal/reflectlite.Value).IsNil", "(internal/reflectlite.Value).Elem", "(internal/reflectlite.Value).Set"], unfollowed := true, recurses := true, named := ["errors.errorType"], apart := false, laid := [("errors.errorType", laid_errors_errorType)] }
def NamesMadeSaid : Prop := namesMadeRow.holds Tryd.pinned (OpenSpec.ofChange namesMadeSpec)

/-- ITS FALSE NEIGHBOUR: 'it returns false'. Refute it at one input. -/
def namesMadeWrong : ChangeSpec := { name := "namesMade", fn := fun _ => fun
  | [d] => { results := [.lit (.bool false)], args := [d] }
  | _ => none }
def NamesMadeWrongFalsely : Prop := namesMadeRow.holds Tryd.pinned (OpenSpec.ofChange namesMadeWrong)

/-- 'metronomelaw07.NamesEnums': WHATEVER THE INPUT: true; the input reads as it did. -/
def namesEnumsSpec : ChangeSpec := { name := "namesEnums", fn := fun _ => fun
  | [d1, d2, d3] => { results := [.lit (.bool true)], args := [d1, d2, d3] }
  | _ => none }
def namesEnumsRow : OpenClaim := { program := "yteiaedmipkcfeaadoor", sum := "5a3c24fc30009abe3118e5d2d3d3e06a4f8f2a0256db68900d8032c89015115c", func := "metronome/metronomelaw07.NamesEnums", spec := "namesEnums", inPlace := ["internal/reflectlite.TypeOf", "internal/reflectlite.ValueOf", "(internal/reflectlite.Value).Type", "(internal/reflectlite.Value).IsNil", "(internal/reflectlite.Value).Elem", "(internal/reflectlite.Value).Set"], unfollowed := true, recurses := true, named := ["errors.errorType"], apart := false, laid := [("errors.errorType", laid_errors_errorType)] }
def NamesEnumsSaid : Prop := namesEnumsRow.holds Tryd.pinned (OpenSpec.ofChange namesEnumsSpec)

/-- ITS FALSE NEIGHBOUR: 'it returns false'. Refute it at one input. -/
def namesEnumsWrong : ChangeSpec := { name := "namesEnums", fn := fun _ => fun
  | [d1, d2, d3] => { results := [.lit (.bool false)], args := [d1, d2, d3] }
  | _ => none }
def NamesEnumsWrongFalsely : Prop := namesEnumsRow.holds Tryd.pinned (OpenSpec.ofChange namesEnumsWrong)

/-- 'metronomelaw07.NamesNeeds': WHATEVER THE INPUT: true; the input reads as it did. -/
def namesNeedsSpec : ChangeSpec := { name := "namesNeeds", fn := fun _ => fun
  | [d1, d2] => { results := [.lit (.bool true)], args := [d1, d2] }
  | _ => none }
def namesNeedsRow : OpenClaim := { program := "yteiaedmipkcfeaadoor", sum := "5a3c24fc30009abe3118e5d2d3d3e06a4f8f2a0256db68900d8032c89015115c", func := "metronome/metronomelaw07.NamesNeeds", spec := "namesNeeds", inPlace := ["internal/reflectlite.TypeOf", "internal/reflectlite.ValueOf", "(internal/reflectlite.Value).Type", "(internal/reflectlite.Value).IsNil", "(internal/reflectlite.Value).Elem", "(internal/reflectlite.Value).Set"], unfollowed := true, recurses := true, named := ["errors.errorType"], apart := false, laid := [("errors.errorType", laid_errors_errorType)] }
def NamesNeedsSaid : Prop := namesNeedsRow.holds Tryd.pinned (OpenSpec.ofChange namesNeedsSpec)

/-- ITS FALSE NEIGHBOUR: 'it returns false'. Refute it at one input. -/
def namesNeedsWrong : ChangeSpec := { name := "namesNeeds", fn := fun _ => fun
  | [d1, d2] => { results := [.lit (.bool false)], args := [d1, d2] }
  | _ => none }
def NamesNeedsWrongFalsely : Prop := namesNeedsRow.holds Tryd.pinned (OpenSpec.ofChange namesNeedsWrong)

/-- 'metronomelaw07.NamesOrders': WHATEVER THE INPUT: true; the input reads as it did. -/
def namesOrdersSpec : ChangeSpec := { name := "namesOrders", fn := fun _ => fun
  | [d1, d2] => { results := [.lit (.bool true)], args := [d1, d2] }
  | _ => none }
def namesOrdersRow : OpenClaim := { program := "yteiaedmipkcfeaadoor", sum := "5a3c24fc30009abe3118e5d2d3d3e06a4f8f2a0256db68900d8032c89015115c", func := "metronome/metronomelaw07.NamesOrders", spec := "namesOrders", inPlace := ["internal/reflectlite.TypeOf", "internal/reflectlite.ValueOf", "(internal/reflectlite.Value).Type", "(internal/reflectlite.Value).IsNil", "(internal/reflectlite.Value).Elem", "(internal/reflectlite.Value).Set"], unfollowed := true, recurses := true, named := ["errors.errorType"], apart := false, laid := [("errors.errorType", laid_errors_errorType)] }
def NamesOrdersSaid : Prop := namesOrdersRow.holds Tryd.pinned (OpenSpec.ofChange namesOrdersSpec)

/-- ITS FALSE NEIGHBOUR: 'it returns false'. Refute it at one input. -/
def namesOrdersWrong : ChangeSpec := { name := "namesOrders", fn := fun _ => fun
  | [d1, d2] => { results := [.lit (.bool false)], args := [d1, d2] }
  | _ => none }
def NamesOrdersWrongFalsely : Prop := namesOrdersRow.holds Tryd.pinned (OpenSpec.ofChange namesOrdersWrong)

/- THE SECOND FORM. 'bulk': how many values and letters a reading holds, each counted each time it is reached (what is shared counts as often as it is met; a slice's spare places count too). A statement '..UptoSaid' is the law's where the arguments, and the package variables that the reading takes, are together of bulk at most 1048576: NARROWER than '..Said'. Prove '..Said' where nothing that the law and all that it calls make is longer than what came in: it says more and counts as full. Else prove '..UptoSaid'. A law counts once. -/
mutual
def uptoBulk {H : Type} : DataW H → Nat
  | .lit (.string bytes) => bytes.length + 1
  | .lit _ => 1
  | .nil => 1
  | .ptr d => uptoBulk d + 1
  | .slice elems spare => uptoBulkAll elems + uptoBulkAll spare + 1
  | .agg parts => uptoBulkAll parts + 1
  | .iface _ d => uptoBulk d + 1
  | .map entries => uptoBulkEntries entries + 1
  | .held _ => 1
def uptoBulkAll {H : Type} : List (DataW H) → Nat
  | [] => 0
  | d :: r => uptoBulk d + uptoBulkAll r
def uptoBulkEntries {H : Type} : List (Lit × DataW H) → Nat
  | [] => 0
  | x :: r => uptoBulkEntry x + uptoBulkEntries r
def uptoBulkEntry {H : Type} : Lit × DataW H → Nat
  | (.string bytes, d) => bytes.length + uptoBulk d + 1
  | (_, d) => uptoBulk d + 1
 end
def uptoSmall : (H : Type) → List (DataW H) → Bool := fun _ ds => decide (uptoBulkAll ds ≤ 1048576)
def OpenSpec.upto (s : _root_.Go.ChangeSpec) : _root_.Go.OpenSpec := { _root_.Go.OpenSpec.ofChange s with cond := some uptoSmall }

/-- 'metronomelaw07.NamesMade', WHERE WHAT IT READS IS OF BULK AT MOST 1048576: true; the input reads as it did. -/
def namesMadeUptoRow : OpenClaim := { program := "yteiaedmipkcfeaadoor", sum := "5a3c24fc30009abe3118e5d2d3d3e06a4f8f2a0256db68900d8032c89015115c", func := "metronome/metronomelaw07.NamesMade", spec := "namesMade", inPlace := ["internal/reflectlite.TypeOf", "internal/reflectlite.ValueOf", "(internal/reflectlite.Value).Type", "(internal/reflectlite.Value).IsNil", "(internal/reflectlite.Value).Elem", "(internal/reflectlite.Value).Set"], unfollowed := true, recurses := true, named := ["errors.errorType"], apart := false, laid := [("errors.errorType", laid_errors_errorType)], narrowed := true }
def NamesMadeUptoSaid : Prop := namesMadeUptoRow.holds Tryd.pinned (OpenSpec.upto namesMadeSpec)

/-- 'metronomelaw07.NamesEnums', WHERE WHAT IT READS IS OF BULK AT MOST 1048576: true; the input reads as it did. -/
def namesEnumsUptoRow : OpenClaim := { program := "yteiaedmipkcfeaadoor", sum := "5a3c24fc30009abe3118e5d2d3d3e06a4f8f2a0256db68900d8032c89015115c", func := "metronome/metronomelaw07.NamesEnums", spec := "namesEnums", inPlace := ["internal/reflectlite.TypeOf", "internal/reflectlite.ValueOf", "(internal/reflectlite.Value).Type", "(internal/reflectlite.Value).IsNil", "(internal/reflectlite.Value).Elem", "(internal/reflectlite.Value).Set"], unfollowed := true, recurses := true, named := ["errors.errorType"], apart := false, laid := [("errors.errorType", laid_errors_errorType)], narrowed := true }
def NamesEnumsUptoSaid : Prop := namesEnumsUptoRow.holds Tryd.pinned (OpenSpec.upto namesEnumsSpec)

/-- 'metronomelaw07.NamesNeeds', WHERE WHAT IT READS IS OF BULK AT MOST 1048576: true; the input reads as it did. -/
def namesNeedsUptoRow : OpenClaim := { program := "yteiaedmipkcfeaadoor", sum := "5a3c24fc30009abe3118e5d2d3d3e06a4f8f2a0256db68900d8032c89015115c", func := "metronome/metronomelaw07.NamesNeeds", spec := "namesNeeds", inPlace := ["internal/reflectlite.TypeOf", "internal/reflectlite.ValueOf", "(internal/reflectlite.Value).Type", "(internal/reflectlite.Value).IsNil", "(internal/reflectlite.Value).Elem", "(internal/reflectlite.Value).Set"], unfollowed := true, recurses := true, named := ["errors.errorType"], apart := false, laid := [("errors.errorType", laid_errors_errorType)], narrowed := true }
def NamesNeedsUptoSaid : Prop := namesNeedsUptoRow.holds Tryd.pinned (OpenSpec.upto namesNeedsSpec)

/-- 'metronomelaw07.NamesOrders', WHERE WHAT IT READS IS OF BULK AT MOST 1048576: true; the input reads as it did. -/
def namesOrdersUptoRow : OpenClaim := { program := "yteiaedmipkcfeaadoor", sum := "5a3c24fc30009abe3118e5d2d3d3e06a4f8f2a0256db68900d8032c89015115c", func := "metronome/metronomelaw07.NamesOrders", spec := "namesOrders", inPlace := ["internal/reflectlite.TypeOf", "internal/reflectlite.ValueOf", "(internal/reflectlite.Value).Type", "(internal/reflectlite.Value).IsNil", "(internal/reflectlite.Value).Elem", "(internal/reflectlite.Value).Set"], unfollowed := true, recurses := true, named := ["errors.errorType"], apart := false, laid := [("errors.errorType", laid_errors_errorType)], narrowed := true }
def NamesOrdersUptoSaid : Prop := namesOrdersUptoRow.holds Tryd.pinned (OpenSpec.upto namesOrdersSpec)

end Rows
end Go.Proofs.YteiaedmipkcfeaaDoor
