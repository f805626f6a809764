/-
 What a value of a type looks like.
-/
-- halved
import Derived.Test.YtohgdopfjkjppaaGreatDoorExA
import Derived.Test.YtohgdopfjkjppaaGreatDoorRows
import Derived.Test.YtohgdopfjkjppaaGreatDoorLwA
set_option linter.unusedVariables false
set_option linter.unusedSimpArgs false
namespace Go.Proofs.YtohgdopfjkjppaaGreatDoor
open Go

section
variable {P : Program}
theorem u8_of {t : TypeId} (h : P.underlying t = some (.int .u8)) : ∀ {n : Nat} {p : List PV}, TyCs P n t p → ∃ i : Int, p = [.v (.int .u8 i)] ∧ 0 ≤ i ∧ i ≤ 255
 | 0, _, hh => hh.elim
 | n + 1, p, hh => by
  simp only [TyCs, h] at hh
  obtain ⟨i, h1, h2⟩ := hh
  simp only [Lit.wf, Bool.and_eq_true, decide_eq_true_eq] at h2
  have e1 : IntKind.u8.min = 0 := by decide
  have e2 : IntKind.u8.max = 255 := by decide
  rw [e1, e2] at h2
  exact ⟨i, h1, h2.1, h2.2⟩
end

end Go.Proofs.YtohgdopfjkjppaaGreatDoor
