/-
  No cell of these rows narrows 'for every input' (looked for: loops, veiled, ifaces, maps, wideKeys, modest, calm, conditions, laid).
  DERIVED. THE GIVEN ROWS OF THIS SEAT. 3 by the template 'for every input the law returns true; each argument reads behind the call as it read before'; 0 by the template 'total and deterministic' (their statements: YtmcajiccepgagaaTotals.lean).
  GIVEN WITH THE SEED: the statements are not yours to turn. If you find one false, say at which input.
  Laid BY PROGRAM, IN A SANDBOX (cutbox-rows.mjs): the forced cells as the released guide's own fill.sh prints them over the translation b4c80a18042dbb36… (all of the seat's roots in one cut). By AI agents, Wed Nov 11 2026. No macro, syntax, notation, axiom, sorry.
-/
import Derived.Test.YtmcajiccepgagaaChecked
import GoSem.Claim
import GoSem.ClaimJoined
import GoSem.ClaimMapViews
import Derived.JoinedTies
import Derived.KernelRfl
namespace Go.Proofs.Ytmcajiccepgagaa
/- THE CELL 'sum', in the pinned program and in every row, IS THE sha256 OF THE DUMP (.gsa) THAT YtmcajiccepgagaaProg.lean LOADS. Nothing in Lean hashes anything: it is a label: what it is worth is what the hold of that sum in a sandbox is worth. -/
noncomputable def Try.pinned : Pinned := { name := "ytmcajiccepgagaa", sum := "b4c80a18042dbb36bcc7fbea673309f6a47168728999c46310f27a66fb59f907", checked := Try.checked }
namespace Rows
def none {H : Type} : Left H := { results := [], args := [] }

/-- 'metronomelaw20.ObcParts': WHATEVER THE INPUT: true; the input reads as it did. -/
def obcPartsSpec : ChangeSpec := { name := "obcParts", fn := fun _ => fun
  | [d1, d2] => { results := [.lit (.bool true)], args := [d1, d2] }
  | _ => none }
def obcPartsRow : OpenClaim := { program := "ytmcajiccepgagaa", sum := "b4c80a18042dbb36bcc7fbea673309f6a47168728999c46310f27a66fb59f907", func := "metronome/metronomelaw20.ObcParts", spec := "obcParts", unfollowed := true, recurses := true, apart := false }
def ObcPartsSaid : Prop := obcPartsRow.holds Try.pinned (OpenSpec.ofChange obcPartsSpec)

/-- ITS FALSE NEIGHBOUR: 'it returns false'. Refute it at one input. -/
def obcPartsWrong : ChangeSpec := { name := "obcParts", fn := fun _ => fun
  | [d1, d2] => { results := [.lit (.bool false)], args := [d1, d2] }
  | _ => none }
def ObcPartsWrongFalsely : Prop := obcPartsRow.holds Try.pinned (OpenSpec.ofChange obcPartsWrong)

/-- 'metronomelaw20.ObcCounts': WHATEVER THE INPUT: true; the input reads as it did. -/
def obcCountsSpec : ChangeSpec := { name := "obcCounts", fn := fun _ => fun
  | [d1, d2, d3] => { results := [.lit (.bool true)], args := [d1, d2, d3] }
  | _ => none }
def obcCountsRow : OpenClaim := { program := "ytmcajiccepgagaa", sum := "b4c80a18042dbb36bcc7fbea673309f6a47168728999c46310f27a66fb59f907", func := "metronome/metronomelaw20.ObcCounts", spec := "obcCounts", unfollowed := true, recurses := true, apart := false }
def ObcCountsSaid : Prop := obcCountsRow.holds Try.pinned (OpenSpec.ofChange obcCountsSpec)

/-- ITS FALSE NEIGHBOUR: 'it returns false'. Refute it at one input. -/
def obcCountsWrong : ChangeSpec := { name := "obcCounts", fn := fun _ => fun
  | [d1, d2, d3] => { results := [.lit (.bool false)], args := [d1, d2, d3] }
  | _ => none }
def ObcCountsWrongFalsely : Prop := obcCountsRow.holds Try.pinned (OpenSpec.ofChange obcCountsWrong)

/-- 'metronomelaw20.ObcLists': WHATEVER THE INPUT: true; the input reads as it did. -/
def obcListsSpec : ChangeSpec := { name := "obcLists", fn := fun _ => fun
  | [d1, d2] => { results := [.lit (.bool true)], args := [d1, d2] }
  | _ => none }
def obcListsRow : OpenClaim := { program := "ytmcajiccepgagaa", sum := "b4c80a18042dbb36bcc7fbea673309f6a47168728999c46310f27a66fb59f907", func := "metronome/metronomelaw20.ObcLists", spec := "obcLists", unfollowed := true, recurses := true, apart := false }
def ObcListsSaid : Prop := obcListsRow.holds Try.pinned (OpenSpec.ofChange obcListsSpec)

/-- ITS FALSE NEIGHBOUR: 'it returns false'. Refute it at one input. -/
def obcListsWrong : ChangeSpec := { name := "obcLists", fn := fun _ => fun
  | [d1, d2] => { results := [.lit (.bool false)], args := [d1, d2] }
  | _ => none }
def ObcListsWrongFalsely : Prop := obcListsRow.holds Try.pinned (OpenSpec.ofChange obcListsWrong)

/- THE SECOND FORM. 'bulk': how many values and letters a reading holds, each counted each time it is reached (what is shared counts as often as it is met; a slice's spare places count too). A statement '..UptoSaid' is the law's where the arguments, and the package variables that the reading takes, are together of bulk at most 1048576: NARROWER than '..Said'. Prove '..Said' where nothing that the law and all that it calls make is longer than what came in: it says more and counts as full. Else prove '..UptoSaid'. A law counts once. -/
mutual
def uptoBulk {H : Type} : DataW H → Nat
  | .lit (.string bytes) => bytes.length + 1
  | .lit _ => 1
  | .nil => 1
  | .ptr d => uptoBulk d + 1
  | .slice elems spare => uptoBulkAll elems + uptoBulkAll spare + 1
  | .agg parts => uptoBulkAll parts + 1
  | .iface _ d => uptoBulk d + 1
  | .map entries => uptoBulkEntries entries + 1
  | .held _ => 1
def uptoBulkAll {H : Type} : List (DataW H) → Nat
  | [] => 0
  | d :: r => uptoBulk d + uptoBulkAll r
def uptoBulkEntries {H : Type} : List (Lit × DataW H) → Nat
  | [] => 0
  | x :: r => uptoBulkEntry x + uptoBulkEntries r
def uptoBulkEntry {H : Type} : Lit × DataW H → Nat
  | (.string bytes, d) => bytes.length + uptoBulk d + 1
  | (_, d) => uptoBulk d + 1
 end
def uptoSmall : (H : Type) → List (DataW H) → Bool := fun _ ds => decide (uptoBulkAll ds ≤ 1048576)
def OpenSpec.upto (s : _root_.Go.ChangeSpec) : _root_.Go.OpenSpec := { _root_.Go.OpenSpec.ofChange s with cond := some uptoSmall }

/-- 'metronomelaw20.ObcParts', WHERE WHAT IT READS IS OF BULK AT MOST 1048576: true; the input reads as it did. -/
def obcPartsUptoRow : OpenClaim := { program := "ytmcajiccepgagaa", sum := "b4c80a18042dbb36bcc7fbea673309f6a47168728999c46310f27a66fb59f907", func := "metronome/metronomelaw20.ObcParts", spec := "obcParts", unfollowed := true, recurses := true, apart := false, narrowed := true }
def ObcPartsUptoSaid : Prop := obcPartsUptoRow.holds Try.pinned (OpenSpec.upto obcPartsSpec)

/-- 'metronomelaw20.ObcCounts', WHERE WHAT IT READS IS OF BULK AT MOST 1048576: true; the input reads as it did. -/
def obcCountsUptoRow : OpenClaim := { program := "ytmcajiccepgagaa", sum := "b4c80a18042dbb36bcc7fbea673309f6a47168728999c46310f27a66fb59f907", func := "metronome/metronomelaw20.ObcCounts", spec := "obcCounts", unfollowed := true, recurses := true, apart := false, narrowed := true }
def ObcCountsUptoSaid : Prop := obcCountsUptoRow.holds Try.pinned (OpenSpec.upto obcCountsSpec)

/-- 'metronomelaw20.ObcLists', WHERE WHAT IT READS IS OF BULK AT MOST 1048576: true; the input reads as it did. -/
def obcListsUptoRow : OpenClaim := { program := "ytmcajiccepgagaa", sum := "b4c80a18042dbb36bcc7fbea673309f6a47168728999c46310f27a66fb59f907", func := "metronome/metronomelaw20.ObcLists", spec := "obcLists", unfollowed := true, recurses := true, apart := false, narrowed := true }
def ObcListsUptoSaid : Prop := obcListsUptoRow.holds Try.pinned (OpenSpec.upto obcListsSpec)

end Rows
end Go.Proofs.Ytmcajiccepgagaa
