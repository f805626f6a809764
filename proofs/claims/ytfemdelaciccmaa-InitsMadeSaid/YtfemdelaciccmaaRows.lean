/-
  No cell of these rows narrows 'for every input' (looked for: loops, veiled, ifaces, maps, wideKeys, modest, calm, conditions, laid).
  DERIVED. THE GIVEN ROWS OF THIS SEAT. 2 by the template 'for every input the law returns true; each argument reads behind the call as it read before'; 0 by the template 'total and deterministic' (their statements: YtfemdelaciccmaaTotals.lean).
  GIVEN WITH THE SEED: the statements are not yours to turn. If you find one false, say at which input.
  Laid BY PROGRAM, IN A SANDBOX (cutbox-rows.mjs): the forced cells as the released guide's own fill.sh prints them over the translation 8ce8822ec7097961… (all of the seat's roots in one cut). By AI agents, Wed Nov 11 2026. No macro, syntax, notation, axiom, sorry.
-/
import Derived.Test.YtfemdelaciccmaaChecked
import GoSem.Claim
import GoSem.ClaimJoined
import GoSem.ClaimMapViews
import Derived.JoinedTies
import Derived.KernelRfl
namespace Go.Proofs.Ytfemdelaciccmaa
/- THE CELL 'sum', in the pinned program and in every row, IS THE sha256 OF THE DUMP (.gsa) THAT YtfemdelaciccmaaProg.lean LOADS. Nothing in Lean hashes anything: it is a label: what it is worth is what the hold of that sum in a sandbox is worth. -/
noncomputable def Try.pinned : Pinned := { name := "ytfemdelaciccmaa", sum := "8ce8822ec70979613a9f32238b4d97436521c12ceba4c82a25e10108a7108a07", checked := Try.checked }
namespace Rows
def none {H : Type} : Left H := { results := [], args := [] }

/-- 'metronomelaw10.InitsMade': WHATEVER THE INPUT: true; the input reads as it did. -/
def initsMadeSpec : ChangeSpec := { name := "initsMade", fn := fun _ => fun
  | [d] => { results := [.lit (.bool true)], args := [d] }
  | _ => none }
def initsMadeRow : OpenClaim := { program := "ytfemdelaciccmaa", sum := "8ce8822ec70979613a9f32238b4d97436521c12ceba4c82a25e10108a7108a07", func := "metronome/metronomelaw10.InitsMade", spec := "initsMade", inPlace := ["maps.clone", "internal/reflectlite.TypeOf"], unfollowed := true, recurses := true, apart := false }
def InitsMadeSaid : Prop := initsMadeRow.holds Try.pinned (OpenSpec.ofChange initsMadeSpec)

/-- ITS FALSE NEIGHBOUR: 'it returns false'. Refute it at one input. -/
def initsMadeWrong : ChangeSpec := { name := "initsMade", fn := fun _ => fun
  | [d] => { results := [.lit (.bool false)], args := [d] }
  | _ => none }
def InitsMadeWrongFalsely : Prop := initsMadeRow.holds Try.pinned (OpenSpec.ofChange initsMadeWrong)

/-- 'metronomelaw10.InitsLate': WHATEVER THE INPUT: true; the input reads as it did. -/
def initsLateSpec : ChangeSpec := { name := "initsLate", fn := fun _ => fun
  | [d] => { results := [.lit (.bool true)], args := [d] }
  | _ => none }
def initsLateRow : OpenClaim := { program := "ytfemdelaciccmaa", sum := "8ce8822ec70979613a9f32238b4d97436521c12ceba4c82a25e10108a7108a07", func := "metronome/metronomelaw10.InitsLate", spec := "initsLate", inPlace := ["maps.clone", "internal/reflectlite.TypeOf"], unfollowed := true, recurses := true, apart := false }
def InitsLateSaid : Prop := initsLateRow.holds Try.pinned (OpenSpec.ofChange initsLateSpec)

/-- ITS FALSE NEIGHBOUR: 'it returns false'. Refute it at one input. -/
def initsLateWrong : ChangeSpec := { name := "initsLate", fn := fun _ => fun
  | [d] => { results := [.lit (.bool false)], args := [d] }
  | _ => none }
def InitsLateWrongFalsely : Prop := initsLateRow.holds Try.pinned (OpenSpec.ofChange initsLateWrong)

/- THE SECOND FORM. 'bulk': how many values and letters a reading holds, each counted each time it is reached (what is shared counts as often as it is met; a slice's spare places count too). A statement '..UptoSaid' is the law's where the arguments, and the package variables that the reading takes, are together of bulk at most 1048576: NARROWER than '..Said'. Prove '..Said' where nothing that the law and all that it calls make is longer than what came in: it says more and counts as full. Else prove '..UptoSaid'. A law counts once. -/
mutual
def uptoBulk {H : Type} : DataW H → Nat
  | .lit (.string bytes) => bytes.length + 1
  | .lit _ => 1
  | .nil => 1
  | .ptr d => uptoBulk d + 1
  | .slice elems spare => uptoBulkAll elems + uptoBulkAll spare + 1
  | .agg parts => uptoBulkAll parts + 1
  | .iface _ d => uptoBulk d + 1
  | .map entries => uptoBulkEntries entries + 1
  | .held _ => 1
def uptoBulkAll {H : Type} : List (DataW H) → Nat
  | [] => 0
  | d :: r => uptoBulk d + uptoBulkAll r
def uptoBulkEntries {H : Type} : List (Lit × DataW H) → Nat
  | [] => 0
  | x :: r => uptoBulkEntry x + uptoBulkEntries r
def uptoBulkEntry {H : Type} : Lit × DataW H → Nat
  | (.string bytes, d) => bytes.length + uptoBulk d + 1
  | (_, d) => uptoBulk d + 1
 end
def uptoSmall : (H : Type) → List (DataW H) → Bool := fun _ ds => decide (uptoBulkAll ds ≤ 1048576)
def OpenSpec.upto (s : _root_.Go.ChangeSpec) : _root_.Go.OpenSpec := { _root_.Go.OpenSpec.ofChange s with cond := some uptoSmall }

/-- 'metronomelaw10.InitsMade', WHERE WHAT IT READS IS OF BULK AT MOST 1048576: true; the input reads as it did. -/
def initsMadeUptoRow : OpenClaim := { program := "ytfemdelaciccmaa", sum := "8ce8822ec70979613a9f32238b4d97436521c12ceba4c82a25e10108a7108a07", func := "metronome/metronomelaw10.InitsMade", spec := "initsMade", inPlace := ["maps.clone", "internal/reflectlite.TypeOf"], unfollowed := true, recurses := true, apart := false, narrowed := true }
def InitsMadeUptoSaid : Prop := initsMadeUptoRow.holds Try.pinned (OpenSpec.upto initsMadeSpec)

/-- 'metronomelaw10.InitsLate', WHERE WHAT IT READS IS OF BULK AT MOST 1048576: true; the input reads as it did. -/
def initsLateUptoRow : OpenClaim := { program := "ytfemdelaciccmaa", sum := "8ce8822ec70979613a9f32238b4d97436521c12ceba4c82a25e10108a7108a07", func := "metronome/metronomelaw10.InitsLate", spec := "initsLate", inPlace := ["maps.clone", "internal/reflectlite.TypeOf"], unfollowed := true, recurses := true, apart := false, narrowed := true }
def InitsLateUptoSaid : Prop := initsLateUptoRow.holds Try.pinned (OpenSpec.upto initsLateSpec)

end Rows
end Go.Proofs.Ytfemdelaciccmaa
