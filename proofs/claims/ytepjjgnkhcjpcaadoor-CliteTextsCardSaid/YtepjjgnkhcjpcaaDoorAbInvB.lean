/-
  What a value of a type looks like.
-/
import Derived.Test.YtepjjgnkhcjpcaaDoorAbEx
import Derived.Test.YtepjjgnkhcjpcaaDoorRows
import Derived.Test.YtepjjgnkhcjpcaaDoorAbLaw
set_option linter.unusedVariables false
set_option linter.unusedSimpArgs false
namespace Go.Proofs.YtepjjgnkhcjpcaaDoor
open Go

section
variable {P : Program}
theorem int_of {t : TypeId} {k : IntKind} (h : P.underlying t = some (.int k)) : ∀ {n : Nat} {p : List PV}, TyCs P n t p → ∃ i, p = [.v (.int k i)]
  | 0, _, hh => hh.elim
  | n + 1, p, hh => by
    simp only [TyCs, h] at hh
    obtain ⟨i, h1, _⟩ := hh
    exact ⟨i, h1⟩
theorem intR_of {t : TypeId} {k : IntKind} (h : P.underlying t = some (.int k)) : ∀ {n : Nat} {p : List PV}, TyCs P n t p → ∃ i : Int, p = [.v (.int k i)] ∧ k.min ≤ i ∧ i ≤ k.max
  | 0, _, hh => hh.elim
  | n + 1, p, hh => by
    simp only [TyCs, h] at hh
    obtain ⟨i, h1, h2⟩ := hh
    simp only [Lit.wf, Bool.and_eq_true, decide_eq_true_eq] at h2
    exact ⟨i, h1, h2.1, h2.2⟩
theorem u8_of {t : TypeId} (h : P.underlying t = some (.int .u8)) : ∀ {n : Nat} {p : List PV}, TyCs P n t p → ∃ i : Int, p = [.v (.int .u8 i)] ∧ 0 ≤ i ∧ i ≤ 255
  | 0, _, hh => hh.elim
  | n + 1, p, hh => by
    simp only [TyCs, h] at hh
    obtain ⟨i, h1, h2⟩ := hh
    simp only [Lit.wf, Bool.and_eq_true, decide_eq_true_eq] at h2
    have e1 : IntKind.u8.min = 0 := by decide
    have e2 : IntKind.u8.max = 255 := by decide
    rw [e1, e2] at h2
    exact ⟨i, h1, h2.1, h2.2⟩
theorem u32_of {t : TypeId} (h : P.underlying t = some (.int .u32)) : ∀ {n : Nat} {p : List PV}, TyCs P n t p → ∃ i : Int, p = [.v (.int .u32 i)] ∧ 0 ≤ i ∧ i ≤ 4294967295
  | 0, _, hh => hh.elim
  | n + 1, p, hh => by
    simp only [TyCs, h] at hh
    obtain ⟨i, h1, h2⟩ := hh
    simp only [Lit.wf, Bool.and_eq_true, decide_eq_true_eq] at h2
    have e1 : IntKind.u32.min = 0 := by decide
    have e2 : IntKind.u32.max = 4294967295 := by decide
    rw [e1, e2] at h2
    exact ⟨i, h1, h2.1, h2.2⟩
theorem bool_of {t : TypeId} (h : P.underlying t = some .bool) : ∀ {n : Nat} {p : List PV}, TyCs P n t p → ∃ i, p = [.v (.bool i)]
  | 0, _, hh => hh.elim
  | n + 1, p, hh => by simpa only [TyCs, h] using hh
theorem str_of {t : TypeId} (h : P.underlying t = some .string) : ∀ {n : Nat} {p : List PV}, TyCs P n t p → ∃ i, p = [.v (.string i)]
  | 0, _, hh => hh.elim
  | n + 1, p, hh => by
    simp only [TyCs, h] at hh
    obtain ⟨i, h1, _⟩ := hh
    exact ⟨i, h1⟩
theorem list_of {α : Type} (g : α → PV) : ∀ {xs : List PV}, (∀ x ∈ xs, ∃ e, x = g e) → ∃ es : List α, xs = es.map g
  | [], _ => ⟨[], rfl⟩
  | x :: xs, h => by
    obtain ⟨e, he⟩ := h x (by simp)
    obtain ⟨es, hes⟩ := list_of g (xs := xs) (fun y hy => h y (by simp [hy]))
    exact ⟨e :: es, by rw [he, hes]; rfl⟩
theorem slice_of {t e : TypeId} (h : P.underlying t = some (.slice e)) {α : Type} (g : α → PV) : ∀ {n : Nat} {p : List PV}, (∀ m, m < n → ∀ x : PV, TyCs P m e x.cells → (if aggT P e then x = .ag x.cells else x.cells = [x]) → ∃ a, x = g a) → TyCs P n t p → ∃ l : List α, p = [.sl .no (l.map g)]
  | 0, _, _, hh => hh.elim
  | n + 1, p, hg, hh => by
    simp only [TyCs, h] at hh
    obtain ⟨xs, h1, _, h3⟩ := hh
    obtain ⟨es, rfl⟩ := list_of g (fun x hx => hg n (by omega) x (h3 x hx).1 (h3 x hx).2)
    exact ⟨es, h1⟩
theorem strs_of {t e : TypeId} (h : P.underlying t = some (.slice e)) (he : P.underlying e = some .string) {n : Nat} {p : List PV} (hh : TyCs P n t p) : ∃ l : List Str, p = [.sl .no (l.map pS)] := by
  refine slice_of h pS (fun m _ x hx hi => ?_) hh
  have ha : aggT P e = false := by simp [aggT, he]
  rw [if_neg (by simp [ha])] at hi
  obtain ⟨s, hs⟩ := str_of he hx
  rw [hi] at hs
  exact ⟨s, by simpa using hs⟩
theorem bytes_of {t e : TypeId} (h : P.underlying t = some (.slice e)) (he : P.underlying e = some (.int .u8)) {n : Nat} {p : List PV} (hh : TyCs P n t p) : ∃ l : List Int, (∀ x ∈ l, 0 ≤ x ∧ x ≤ 255) ∧ p = [.sl .no (l.map fun i => .v (.int .u8 i))] := by
  have ha : aggT P e = false := by simp [aggT, he]
  cases n with
  | zero => exact hh.elim
  | succ n =>
    simp only [TyCs, h] at hh
    obtain ⟨xs, rfl, _, h3⟩ := hh
    have key : ∀ x ∈ xs, ∃ i : { i : Int // 0 ≤ i ∧ i ≤ 255 }, x = .v (.int .u8 i.1) := fun x hx => by
      obtain ⟨h1, h2⟩ := h3 x hx
      rw [if_neg (by simp [ha])] at h2
      cases n with
      | zero => exact h1.elim
      | succ n =>
        simp only [TyCs, he] at h1
        obtain ⟨i, e1, e2⟩ := h1
        rw [h2] at e1
        simp [Lit.wf, IntKind.min, IntKind.max, IntKind.signed, IntKind.bits] at e2
        exact ⟨⟨i, by omega⟩, by simpa using e1⟩
    obtain ⟨l, rfl⟩ := list_of (fun i : { i : Int // 0 ≤ i ∧ i ≤ 255 } => PV.v (.int .u8 i.1)) key
    refine ⟨l.map (·.1), fun x hx => ?_, by simp [List.map_map, Function.comp_def]⟩
    obtain ⟨i, _, rfl⟩ := List.mem_map.1 hx
    exact i.2
theorem struct_of {t : TypeId} {fs : Array Field} {ts : List TypeId} (hu : P.underlying t = some (.struct fs)) (hts : fs.toList.map (·.type) = ts) : ∀ {n : Nat} {p : List PV}, TyCs P n t p → ∃ m, m < n ∧ TyLs (TyCs P m) ts p
  | 0, _, h => h.elim
  | n + 1, p, h => by
    simp only [TyCs, hu] at h
    exact ⟨n, by omega, by rw [← hts]; exact h⟩
theorem agg_of {t : TypeId} {fs : Array Field} (hu : P.underlying t = some (.struct fs)) {x : PV} (h : if aggT P t then x = .ag x.cells else x.cells = [x]) : x = .ag x.cells := by
  have ha : aggT P t = true := by simp [aggT, hu]
  rwa [if_pos ha] at h
end

end Go.Proofs.YtepjjgnkhcjpcaaDoor
