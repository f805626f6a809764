/-
  The law TypesOperators: what its cases share.
-/
import Derived.Test.YticdboelpgalpaaDoorAbKit
import Derived.Test.YticdboelpgalpaaDoorAbEx
import Derived.Test.YticdboelpgalpaaDoorAw8
import Derived.Test.YticdboelpgalpaaDoorAbTail
set_option linter.unusedVariables false
set_option linter.unusedSimpArgs false
namespace Go.Proofs.YticdboelpgalpaaDoor
open Go
theorem all14 (p : Int → Bool) (ha : ([0, 1, 2, 3, 4, 5, 6] : List Int).all p = true) (hb : ([7, 8, 9, 10, 11, 12, 13] : List Int).all p = true) : ∀ k : Int, (0 ≤ k ∧ k < 14) → p k = true := by
  rintro k ⟨h0, h1⟩
  have h : ([0, 1, 2, 3, 4, 5, 6, 7, 8, 9, 10, 11, 12, 13] : List Int).all p = true := by
    have := List.all_append (xs := ([0, 1, 2, 3, 4, 5, 6] : List Int)) (ys := [7, 8, 9, 10, 11, 12, 13]) (f := p)
    rw [ha, hb] at this
    exact this
  refine List.all_eq_true.1 h k ?_
  have : k = 0 ∨ k = 1 ∨ k = 2 ∨ k = 3 ∨ k = 4 ∨ k = 5 ∨ k = 6 ∨ k = 7 ∨ k = 8 ∨ k = 9 ∨ k = 10 ∨ k = 11 ∨ k = 12 ∨ k = 13 := by omega
  simpa using this
/-- The example, known to be true. -/
def awHook (next : CallR) : CallR := fun g args m => if g = 7 then (match args with
  | [] => some (.val (.v (.bool true)) m)
  | _ => none) else next g args m
theorem awHook_ok {next : CallR} (hn : CallOk Tryd.prog next) : CallOk Tryd.prog (awHook next) := by
  intro g args m r h
  unfold awHook at h
  split at h
  · rename_i hg
    subst hg
    split at h
    · cases h
      exact awake_run m
    · cases h
  · exact hn _ _ _ _ h
end Go.Proofs.YticdboelpgalpaaDoor
