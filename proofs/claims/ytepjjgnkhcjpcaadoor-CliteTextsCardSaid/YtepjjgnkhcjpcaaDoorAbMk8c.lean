/-
  A call whose arguments forget tokens.
-/
import Derived.Test.YtepjjgnkhcjpcaaDoorAbKit
set_option linter.unusedVariables false
namespace Go.Proofs.YtepjjgnkhcjpcaaDoor
open Go
theorem callMS {P : Program} {g : FuncId} {args args' : List PV} {m : M} {R K Z : PV → M → Prop} (h : ACalls P g args' m R) (he : args.map PV.settle = args') (hk : ∀ v m', R v m' → K v m') : @ACallsI P g args m ⟨K, Z⟩ := by
  subst he
  refine ACallsZ.mono (Z := noZ) ⟨h.cc, fun G w vs hI hl hr => h.run G w vs hI (by simpa using hl) (fun j h1 h2 => ?_)⟩ hk (fun _ _ h => h.elim)
  simpa using (hr j (by simpa using h1) h2).settle
end Go.Proofs.YtepjjgnkhcjpcaaDoor
