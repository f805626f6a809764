/-
 What a value of a type looks like.
-/
-- halved
import Derived.Test.YtohgdopfjkjppaaGreatDoorExA
import Derived.Test.YtohgdopfjkjppaaGreatDoorRows
import Derived.Test.YtohgdopfjkjppaaGreatDoorLwA
set_option linter.unusedVariables false
set_option linter.unusedSimpArgs false
namespace Go.Proofs.YtohgdopfjkjppaaGreatDoor
open Go

section
variable {P : Program}
theorem list_of {α : Type} (g : α → PV) : ∀ {xs : List PV}, (∀ x ∈ xs, ∃ e, x = g e) → ∃ es : List α, xs = es.map g
 | [], _ => ⟨[], rfl⟩
 | x :: xs, h => by
  obtain ⟨e, he⟩ := h x (by simp)
  obtain ⟨es, hes⟩ := list_of g (xs := xs) (fun y hy => h y (by simp [hy]))
  exact ⟨e :: es, by rw [he, hes]; rfl⟩
theorem bytes_of {t e : TypeId} (h : P.underlying t = some (.slice e)) (he : P.underlying e = some (.int .u8)) {n : Nat} {p : List PV} (hh : TyCs P n t p) : ∃ l : List Int, (∀ x ∈ l, 0 ≤ x ∧ x ≤ 255) ∧ p = [.sl .no (l.map fun i => .v (.int .u8 i))] := by
 have ha : aggT P e = false := by simp [aggT, he]
 cases n with
 | zero => exact hh.elim
 | succ n =>
  simp only [TyCs, h] at hh
  obtain ⟨xs, rfl, _, h3⟩ := hh
  have key : ∀ x ∈ xs, ∃ i : { i : Int // 0 ≤ i ∧ i ≤ 255 }, x = .v (.int .u8 i.1) := fun x hx => by
   obtain ⟨h1, h2⟩ := h3 x hx
   rw [if_neg (by simp [ha])] at h2
   cases n with
   | zero => exact h1.elim
   | succ n =>
    simp only [TyCs, he] at h1
    obtain ⟨i, e1, e2⟩ := h1
    rw [h2] at e1
    simp [Lit.wf, IntKind.min, IntKind.max, IntKind.signed, IntKind.bits] at e2
    exact ⟨⟨i, by omega⟩, by simpa using e1⟩
  obtain ⟨l, rfl⟩ := list_of (fun i : { i : Int // 0 ≤ i ∧ i ≤ 255 } => PV.v (.int .u8 i.1)) key
  refine ⟨l.map (·.1), fun x hx => ?_, by simp [List.map_map, Function.comp_def]⟩
  obtain ⟨i, _, rfl⟩ := List.mem_map.1 hx
  exact i.2
end

end Go.Proofs.YtohgdopfjkjppaaGreatDoor
