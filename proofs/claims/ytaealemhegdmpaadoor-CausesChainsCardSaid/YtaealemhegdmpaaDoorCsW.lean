/-
  faults.Where of a fault of causes.
-/
import Derived.Test.YtaealemhegdmpaaDoorCgE
import Derived.Test.YtaealemhegdmpaaDoorLvA
import Derived.Test.YtaealemhegdmpaaDoorCsIh
import Derived.Test.YtaealemhegdmpaaDoorAsA
import Derived.Test.YtaealemhegdmpaaDoorRnA
set_option linter.unusedVariables false
set_option linter.unusedSimpArgs false
namespace Go.Proofs.YtaealemhegdmpaaDoor
open Go
set_option maxRecDepth 20000

def musW (g : Nat) : List Nat := match g with
  | 8 => [2, 3]
  | _ => []
theorem hookW_ok : CallOk Tryd.prog (asHook isHook) := asHook_ok isHook_ok
theorem where_at10 (l c : Int) (m : M) : ACalls Tryd.prog 8 [pA l c 10] m (fun v m' => v = pP l c ∧ m' = m) :=
  ACalls.ranP (mus := musW) (hook := asHook isHook) (k := 60) ok_mix hookW_ok (by kernel_rfl) (fun x hx => by simp at hx; subst hx; rfl) rfl m ⟨rfl, rfl⟩
end Go.Proofs.YtaealemhegdmpaaDoor
