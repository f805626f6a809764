/-
  errors.Is of an At about a kind, for a run.
-/
import Derived.Test.YtaealemhegdmpaaDoorCgE
import Derived.Test.YtaealemhegdmpaaDoorGD
set_option linter.unusedVariables false
set_option linter.unusedSimpArgs false
namespace Go.Proofs.YtaealemhegdmpaaDoor
open Go Go.RowKit Go.Extern.Stop Go.Stop Go.Extern

/-- errors.Is of an At about a kind, for the run. -/
def isHook : CallR := fun g args m => if g = 16 then (match args with
  | [PV.ifc t (PV.ep cells), PV.ifc t' (PV.v (Value.int IntKind.i64 k))] => if t = 77 ∧ t' = 39 then (match cells[4]? with
    | some (PV.ifc t2 (PV.v (Value.int IntKind.i64 k'))) => if t2 = 39 then some (.val (.v (.bool (k' == k))) m) else none
    | _ => none) else none
  | _ => none) else none
theorem isHook_ok : CallOk Tryd.prog isHook := by
  intro g args m r h
  unfold isHook at h
  split at h
  · rename_i hg
    subst hg
    split at h
    · split at h
      · rename_i hq
        obtain ⟨rfl, rfl⟩ := hq
        split at h
        · split at h
          · rename_i ht2
            subst ht2
            cases h
            exact is_any _ _ _ m (by assumption)
          · cases h
        · cases h
      · cases h
    · cases h
  · cases h
end Go.Proofs.YtaealemhegdmpaaDoor
