/-
  The document's example of layer 10, run.
-/
import Derived.Test.YtfemdelaciccmaaInK
import Derived.Test.YtfemdelaciccmaaSlcI
import Derived.Test.YtfemdelaciccmaaAbIs
set_option linter.unusedVariables false
set_option linter.unusedSimpArgs false
namespace Go.Proofs.Ytfemdelaciccmaa
open Go
-- TYPES:
/-- Slots that stay boxes. -/
def mus (g : Nat) : List Nat := match g with
  | 4 => [3]
  | 5 => [1]
  | 6 => [1, 2, 4, 7]
  | 7 => [2, 4, 10, 30]
  | 8 => [2, 3, 7]
  | 9 => [1, 6]
  | 10 => [3, 10]
  | 12 => [1, 2, 3]
  | 14 => [2]
  | 16 => [4, 7, 9]
  | 18 => [4, 5, 6]
  | 19 => [3, 5, 8]
  | 21 => [3]
  | 22 => [1, 2, 4, 6, 8, 10]
  | 26 => [1]
  | 27 => [4, 5, 7, 9, 11]
  | 29 => [0]
  | 30 => [0]
  | 31 => [0]
  | 32 => [3, 4]
  | 33 => [5, 8, 9, 12, 14]
  | 34 => [3]
  | 35 => [3]
  | 36 => [2]
  | 37 => [7]
  | 38 => [3, 4, 5, 7, 12]
  | 43 => [3, 5]
  | 44 => [3]
  | 45 => [5]
  | 48 => [2]
  | 50 => [5, 10]
  | 51 => [2, 4]
  | 53 => [2]
  | 55 => [3, 4]
  | 56 => [7]
  | 57 => [5, 8, 9]
  | 58 => [5, 8, 9, 13]
  | 59 => [6, 7, 10, 11, 12, 13, 14, 15, 16, 17]
  | 60 => [5, 10, 11, 12]
  | 61 => [5, 10, 11, 12, 13, 14, 15, 16]
  | 64 => [4]
  | 65 => [5, 6]
  | 66 => [6, 7, 8]
  | 67 => [5, 10]
  | 68 => [6, 7, 10, 13, 15, 16]
  | _ => []
set_option maxRecDepth 100000 in
theorem awake_run (m : M) : ACalls Try.prog 5 [] m (fun v m' => v = .v (.bool true) ∧ m' = m) := ACalls.ranD (mus := mus) (hook := slcHook Try.prog (mcHook isHook)) (k := 300) ok_mix (slcHook_ok (mcHook_ok isHook_ok)) (by kernel_rfl) m ⟨rfl, rfl⟩
end Go.Proofs.Ytfemdelaciccmaa
