/-
  The document's example of layer 9, run.
-/
import Derived.Test.YtamdnlnoioglnaaAbRun7
import Derived.Test.YtamdnlnoioglnaaAbIs
import Derived.Test.YtamdnlnoioglnaaSlcX
import Derived.Test.YtamdnlnoioglnaaAbT
set_option linter.unusedVariables false
namespace Go.Proofs.Ytamdnlnoioglnaa
open Go
/-- Slots that stay boxes. -/
def mus (g : Nat) : List Nat := match g with
  | 5 => [5]
  | 7 => [2, 5]
  | 8 => [2, 4, 10, 30]
  | 11 => [2, 5]
  | 12 => [3, 9, 11]
  | 17 => [3]
  | 19 => [4, 5]
  | 21 => [2, 4, 6, 8, 10]
  | 31 => [0]
  | 32 => [0]
  | 33 => [0]
  | 34 => [4]
  | 35 => [8, 9, 12, 14]
  | 36 => [2]
  | 37 => [7]
  | 38 => [4, 5, 7, 12]
  | 47 => [2]
  | 52 => [2]
  | 54 => [10]
  | 55 => [4]
  | 56 => [3, 4]
  | 57 => [7]
  | 62 => [8, 9]
  | 63 => [8, 9, 13]
  | 64 => [10]
  | 65 => [12]
  | 66 => [16]
  | 73 => [6]
  | 74 => [8]
  | 76 => [10, 15]
  | _ => []
theorem awake_run (m : M) : ACalls Try.prog 6 [] m (fun v m' => v = .v (.bool true) ∧ m' = m) := ACalls.ranD (mus := mus) (hook := slcHook Try.prog isHook) (k := 300) ok_mix (slcHook_ok isHook_ok) (by kernel_rfl) m ⟨rfl, rfl⟩
end Go.Proofs.Ytamdnlnoioglnaa
