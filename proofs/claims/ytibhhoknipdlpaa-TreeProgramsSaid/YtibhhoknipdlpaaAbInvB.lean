/-
 What a value of a type looks like.
-/
-- halved
import Derived.Test.YtibhhoknipdlpaaExA
import Derived.Test.YtibhhoknipdlpaaRows
import Derived.Test.YtibhhoknipdlpaaLwA
set_option linter.unusedVariables false
set_option linter.unusedSimpArgs false
namespace Go.Proofs.Ytibhhoknipdlpaa
open Go

section
variable {P : Program}
theorem int_of {t : TypeId} {k : IntKind} (h : P.underlying t = some (.int k)) : ∀ {n : Nat} {p : List PV}, TyCs P n t p → ∃ i, p = [.v (.int k i)]
 | 0, _, hh => hh.elim
 | n + 1, p, hh => by
  simp only [TyCs, h] at hh
  obtain ⟨i, h1, _⟩ := hh
  exact ⟨i, h1⟩
theorem intR_of {t : TypeId} {k : IntKind} (h : P.underlying t = some (.int k)) : ∀ {n : Nat} {p : List PV}, TyCs P n t p → ∃ i : Int, p = [.v (.int k i)] ∧ k.min ≤ i ∧ i ≤ k.max
 | 0, _, hh => hh.elim
 | n + 1, p, hh => by
  simp only [TyCs, h] at hh
  obtain ⟨i, h1, h2⟩ := hh
  simp only [Lit.wf, Bool.and_eq_true, decide_eq_true_eq] at h2
  exact ⟨i, h1, h2.1, h2.2⟩
theorem u8_of {t : TypeId} (h : P.underlying t = some (.int .u8)) : ∀ {n : Nat} {p : List PV}, TyCs P n t p → ∃ i : Int, p = [.v (.int .u8 i)] ∧ 0 ≤ i ∧ i ≤ 255
 | 0, _, hh => hh.elim
 | n + 1, p, hh => by
  simp only [TyCs, h] at hh
  obtain ⟨i, h1, h2⟩ := hh
  simp only [Lit.wf, Bool.and_eq_true, decide_eq_true_eq] at h2
  have e1 : IntKind.u8.min = 0 := by decide
  have e2 : IntKind.u8.max = 255 := by decide
  rw [e1, e2] at h2
  exact ⟨i, h1, h2.1, h2.2⟩
theorem list_of {α : Type} (g : α → PV) : ∀ {xs : List PV}, (∀ x ∈ xs, ∃ e, x = g e) → ∃ es : List α, xs = es.map g
 | [], _ => ⟨[], rfl⟩
 | x :: xs, h => by
  obtain ⟨e, he⟩ := h x (by simp)
  obtain ⟨es, hes⟩ := list_of g (xs := xs) (fun y hy => h y (by simp [hy]))
  exact ⟨e :: es, by rw [he, hes]; rfl⟩
theorem bytes_of {t e : TypeId} (h : P.underlying t = some (.slice e)) (he : P.underlying e = some (.int .u8)) {n : Nat} {p : List PV} (hh : TyCs P n t p) : ∃ l : List Int, (∀ x ∈ l, 0 ≤ x ∧ x ≤ 255) ∧ p = [.sl .no (l.map fun i => .v (.int .u8 i))] := by
 have ha : aggT P e = false := by simp [aggT, he]
 cases n with
 | zero => exact hh.elim
 | succ n =>
  simp only [TyCs, h] at hh
  obtain ⟨xs, rfl, _, h3⟩ := hh
  have key : ∀ x ∈ xs, ∃ i : { i : Int // 0 ≤ i ∧ i ≤ 255 }, x = .v (.int .u8 i.1) := fun x hx => by
   obtain ⟨h1, h2⟩ := h3 x hx
   rw [if_neg (by simp [ha])] at h2
   cases n with
   | zero => exact h1.elim
   | succ n =>
    simp only [TyCs, he] at h1
    obtain ⟨i, e1, e2⟩ := h1
    rw [h2] at e1
    simp [Lit.wf, IntKind.min, IntKind.max, IntKind.signed, IntKind.bits] at e2
    exact ⟨⟨i, by omega⟩, by simpa using e1⟩
  obtain ⟨l, rfl⟩ := list_of (fun i : { i : Int // 0 ≤ i ∧ i ≤ 255 } => PV.v (.int .u8 i.1)) key
  refine ⟨l.map (·.1), fun x hx => ?_, by simp [List.map_map, Function.comp_def]⟩
  obtain ⟨i, _, rfl⟩ := List.mem_map.1 hx
  exact i.2
end

end Go.Proofs.Ytibhhoknipdlpaa
