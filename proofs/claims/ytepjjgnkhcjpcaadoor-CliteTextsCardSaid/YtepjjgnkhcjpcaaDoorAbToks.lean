/-
  Lists of a function's own that grow, side by side.
-/
import Derived.Test.YtepjjgnkhcjpcaaDoorAbKit
set_option linter.unusedVariables false
set_option linter.unusedSimpArgs false
namespace Go.Proofs.YtepjjgnkhcjpcaaDoor
open Go

theorem M.kill_len (m : M) (t : Nat) : (m.kill t).toks.length = m.toks.length := by simp [M.kill]
theorem use_len (o : Own) (m : M) : (o.use m).toks.length = m.nt := by cases o <;> simp [Own.use, M.kill, M.nt]
theorem use_boxes (o : Own) (m : M) : (o.use m).boxes = m.boxes := by cases o <;> rfl

/-- What came in stands, as far as tokens go. -/
structure Toks (m0 m : M) : Prop where
  nt : m0.nt ≤ m.nt
  toks : m.toks.take m0.nt = m0.toks
  boxes : m.boxes = m0.boxes
/-- A list of the function's own. -/
def Mine (m0 m : M) (o : Own) (s : Nat) : Prop := o = .full ∨ ∃ t, o = .tok t ∧ m0.nt ≤ t ∧ m.alive t s
theorem Toks.refl (m : M) : Toks m m := ⟨Nat.le_refl _, by simp [M.nt], rfl⟩
theorem Toks.nb {m0 m : M} (h : Toks m0 m) : m.nb = m0.nb := by unfold M.nb; rw [h.boxes]
theorem Mine.free {m0 m : M} {o : Own} {s : Nat} (h : Mine m0 m o s) : o.free m s := by
  rcases h with rfl | ⟨t, rfl, _, h⟩
  · trivial
  · exact h
theorem Mine.full {m0 m : M} {s : Nat} : Mine m0 m .full s := .inl rfl
theorem Toks.use {m0 m : M} {o : Own} {s s' : Nat} (h : Toks m0 m) (g : Mine m0 m o s') : Toks m0 ((o.use m).fresh s) := by
  have hl := use_len o m
  refine ⟨?_, ?_, ?_⟩
  · show m0.nt ≤ ((o.use m).toks ++ [some s]).length
    have := h.nt
    simp [hl]; omega
  · show ((o.use m).toks ++ [some s]).take m0.nt = m0.toks
    rw [List.take_append_of_le_length (by rw [hl]; exact h.nt)]
    rcases g with rfl | ⟨t, rfl, ht, _⟩
    · exact h.toks
    · show (m.toks.set t none).take m0.nt = _
      rw [List.take_set_of_le ht, h.toks]
  · show (o.use m).boxes = _
    rw [use_boxes]; exact h.boxes
theorem Mine.new {m0 m : M} (h : Toks m0 m) (o : Own) (s : Nat) : Mine m0 ((o.use m).fresh s) (.tok m.nt) s := by
  refine .inr ⟨_, rfl, h.nt, ?_⟩
  show ((o.use m).toks ++ [some s])[m.nt]? = some (some s)
  rw [← use_len o m]; simp
theorem Mine.other {m0 m : M} {o o2 : Own} {s s2 : Nat} (h : Mine m0 m o2 s2) (hne : ∀ t, o = .tok t → o2 ≠ .tok t) : Mine m0 ((o.use m).fresh s) o2 s2 := by
  rcases h with rfl | ⟨t, rfl, ht, ha⟩
  · exact .inl rfl
  · refine .inr ⟨t, rfl, ht, ?_⟩
    have hlt := M.alive_lt ha
    show ((o.use m).toks ++ [some s])[t]? = some (some s2)
    rw [List.getElem?_append_left (by rw [use_len]; exact hlt)]
    cases o with
    | tok t' =>
      have : t' ≠ t := fun e => hne t' rfl (by rw [e])
      show (m.toks.set t' none)[t]? = _
      rw [List.getElem?_set_ne this]; exact ha
    | no => exact ha
    | full => exact ha
theorem Mine.ne_new {m0 m : M} {o2 : Own} {s2 : Nat} (h : Mine m0 m o2 s2) : ∀ t, Own.tok m.nt = .tok t → o2 ≠ .tok t := by
  intro t ht he
  cases ht
  rcases h with rfl | ⟨t, rfl, _, ha⟩
  · cases he
  · cases he
    exact absurd (M.alive_lt ha) (Nat.lt_irrefl _)
theorem Mine.new_ne {m0 m : M} {o2 : Own} {s2 : Nat} (h : Mine m0 m o2 s2) : ∀ t, o2 = .tok t → Own.tok m.nt ≠ .tok t := by
  intro t ht he
  cases he
  exact h.ne_new _ rfl ht
theorem leave_toks {m0 m : M} {bs : List (Option (List PV))} {v : PV} {R : PV → M → Prop} (h : Toks m0 m) (hv : v.settle.pure = true) (hR : R v.settle m0) : ∃ v' m', Leave m0 (m.ext bs) v v' m' ∧ R v' m' :=
  leave_plain (by simp [M.nb, M.ext, h.boxes]) (by simpa [M.ext] using h.toks) hv hR
theorem leave_toks0 {m0 m : M} {v : PV} {R : PV → M → Prop} (h : Toks m0 m) (hv : v.settle.pure = true) (hR : R v.settle m0) : ∃ v' m', Leave m0 m v v' m' ∧ R v' m' :=
  leave_plain (by simp [M.nb, h.boxes]) h.toks hv hR
end Go.Proofs.YtepjjgnkhcjpcaaDoor
