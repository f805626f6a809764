/-
  Layer 8: the document's example, run; which slots stay boxes.
-/
import Derived.Test.YticdboelpgalpaaDoorRnA
import Derived.Test.YticdboelpgalpaaDoorAbIs
import Derived.Test.YticdboelpgalpaaDoorAsA
import Derived.Test.YticdboelpgalpaaDoorSlcX
import Derived.Test.YticdboelpgalpaaDoorAbT
set_option linter.unusedVariables false
namespace Go.Proofs.YticdboelpgalpaaDoor
open Go
/-- Slots that stay boxes. -/
def mus (g : Nat) : List Nat := match g with
  | 3 => [7, 9, 10, 11, 13, 15, 17, 18, 20]
  | 5 => [3, 5, 6, 7, 11]
  | 6 => [3, 5, 6, 8, 10, 13]
  | 7 => [1, 2]
  | 8 => [1, 2, 5, 8, 11]
  | 9 => [2, 4, 10, 30]
  | 10 => [3]
  | 11 => [5, 6, 9]
  | 12 => [5, 6, 10]
  | 14 => [2, 3]
  | 16 => [5, 7]
  | 17 => [6, 9, 11]
  | 19 => [4, 5, 6]
  | 20 => [3]
  | 21 => [1]
  | 22 => [3]
  | 23 => [4]
  | 24 => [2, 4, 8]
  | 26 => [3]
  | 27 => [1]
  | 28 => [6]
  | 30 => [3]
  | 32 => [4]
  | 35 => [3]
  | 36 => [1]
  | 38 => [5]
  | 40 => [3, 5, 6, 7, 9, 13]
  | 42 => [0]
  | 43 => [0]
  | 44 => [0]
  | 45 => [3, 4]
  | 46 => [5, 8, 9, 12, 14]
  | 48 => [2]
  | 51 => [2]
  | 54 => [3]
  | 56 => [1]
  | 62 => [6]
  | 63 => [2, 3]
  | 64 => [6, 7]
  | 65 => [5, 6, 9]
  | 66 => [7]
  | 69 => [2]
  | 71 => [5, 10]
  | 72 => [2, 4]
  | 73 => [2]
  | 78 => [2]
  | 80 => [2]
  | 81 => [5, 8, 9]
  | 82 => [5, 8, 9, 13]
  | 83 => [6, 7, 10, 11, 12, 13, 14, 15, 16, 17]
  | 84 => [5, 10, 11, 12]
  | 85 => [5, 10, 11, 12, 13, 14, 15, 16]
  | 88 => [4]
  | 89 => [5, 6]
  | 90 => [6, 7, 8]
  | 91 => [5, 10]
  | 92 => [6, 7, 10, 13, 15, 16]
  | _ => []
def hook8 (P : Program) : CallR := slcHook P (asHook isHook)
theorem hook8_ok : CallOk Tryd.prog (hook8 Tryd.prog) := slcHook_ok (asHook_ok isHook_ok)
theorem awake_run (m : M) : ACalls Tryd.prog 7 [] m (fun v m' => v = .v (.bool true) ∧ m' = m) := ACalls.ranD (mus := mus) (hook := hook8 Tryd.prog) (k := 300) ok_mix hook8_ok (by kernel_rfl) m ⟨rfl, rfl⟩
end Go.Proofs.YticdboelpgalpaaDoor
