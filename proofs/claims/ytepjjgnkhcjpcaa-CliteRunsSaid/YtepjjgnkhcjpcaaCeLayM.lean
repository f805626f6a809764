/-
  States of a function's own: a box beside those of the maker's state is read, written, settled; lists of its own.
-/
import Derived.Test.YtepjjgnkhcjpcaaCeGen
import Derived.Test.YtepjjgnkhcjpcaaAbFrz
import Derived.Test.YtepjjgnkhcjpcaaAbOpen
set_option linter.unusedVariables false
set_option linter.unusedSimpArgs false
namespace Go.Proofs.Ytepjjgnkhcjpcaa
open Go

theorem leave_M0 {m : M} {v : PV} {R : PV → M → Prop} (hv : v.settle.pure = true) (hR : R v.settle M0) : ∃ v' m', Leave M0 m v v' m' ∧ R v' m' :=
  ⟨_, _, .plain v (by show m.boxes.take 0 = []; simp) (by show m.toks.take 0 = []; simp) hv, hR⟩
/-- A box is given up. -/
def M.drop1 (m : M) (id : Nat) : M := { m with boxes := m.boxes.set id none }
theorem drop1_nb (m : M) (id : Nat) : (m.drop1 id).nb = m.nb := by simp [M.drop1, M.nb]
theorem drop1_get (m : M) (id k : Nat) : (m.drop1 id).get k = if k = id then none else m.get k := by
  unfold M.get M.drop1
  simp only [List.getElem?_set]
  by_cases h : id = k
  · subst h
    by_cases h2 : id < m.boxes.length <;> simp [h2]
  · simp [h, Ne.symm h]
theorem gstep_drop {f : F} {m : M} {id : Nat} {c1 : List PV} (x : PV) (hid : m.get id = some c1) (hc1 : c1.map PV.settle = x.cells) (hx : x.ok = true) (hfr : ∀ k c, k ≠ id → m.get k = some c → c.map (PV.frz id [x]) = c ∨ True) :
    GStep f m (fun t => (f t).frz id [x]) (m.drop1 id) := by
  refine .inr ⟨id, [x], x.cells.length, c1, hid, .inr (by simpa using hc1), fun y hy => ?_, fun t => .inr (.inl rfl), rfl, by simp [M.drop1], fun k c hc => ?_⟩
  · obtain rfl : y = x := by simpa using hy
    exact ⟨rfl, hx⟩
  · rw [drop1_get] at hc
    split at hc
    · cases hc
    · rename_i hne
      exact ⟨hne, .inl hc⟩
theorem aRegS {P : Program} {mu : List Nat} {Z : PV → M → Prop} {K : Exit → F → M → Prop} {f : F} {m : M} {id rid : Nat} {c1 : List PV} {l : List Oper} (x : PV) (hid : m.get id = some c1) (hc1 : c1.map PV.settle = x.cells) (hx : x.ok = true)
    (h : ∀ f', (∀ t, f' t = (f t).frz id [x]) → aOps P mu Z l.toArray l (K .normal) f' (m.drop1 id)) : aCode P mu Z (.region rid l.toArray false) K f m :=
  aRegG (gstep_drop x hid hc1 hx (fun _ _ _ _ => .inr trivial)) (h _ (fun t => rfl))

section
variable {p : CP} {m : M} {i : Nat}
theorem cst_drop {id : Nat} (h : id ≠ p.a) : (cst p m i).drop1 id = cst p (m.drop1 id) i := by
  unfold cst M.upd M.drop1
  simp only []
  rw [List.set_comm _ _ (Ne.symm h)]
theorem cst_old {id : Nat} (h : id ≠ p.a) : (cst p m i).get id = m.get id := by
  rw [cst_get, if_neg (fun h' => h h'.1)]
theorem ext_old' {bs : List (Option (List PV))} {id : Nat} (h : id < m.nb) : (m.ext bs).get id = m.get id := by
  unfold M.get M.ext
  simp only []
  rw [List.getElem?_append_left h]
theorem cst_oldE {bs : List (Option (List PV))} {id : Nat} (h : id ≠ p.a) (h' : id < m.nb) : (cst p (m.ext bs) i).get id = m.get id := by
  rw [cst_old h, ext_old' h']
theorem cst_updO {id : Nat} {c : List PV} (h : id ≠ p.a) : (cst p m i).upd id c = cst p (m.upd id c) i := by
  unfold cst M.upd
  simp only []
  rw [List.set_comm _ _ (Ne.symm h)]
theorem ext_updO {bs : List (Option (List PV))} {id : Nat} {c : List PV} (h : id < m.nb) : (m.ext bs).upd id c = (m.upd id c).ext bs := by
  unfold M.ext M.upd
  simp only []
  rw [List.set_append_left _ _ h]
theorem cst_updE {bs : List (Option (List PV))} {id : Nat} {c : List PV} (h : id ≠ p.a) (h' : id < m.nb) : (cst p (m.ext bs) i).upd id c = cst p ((m.upd id c).ext bs) i := by
  rw [cst_updO h, ext_updO h']
end
theorem free_new (m : M) (o : Own) (s : Nat) : (Own.tok m.nt).free ((o.use m).fresh s) s := by
  show ((o.use m).toks ++ [some s])[m.nt]? = some (some s)
  rw [← use_len o m]; simp
theorem free_other {m : M} {o o2 : Own} {s s2 : Nat} (h : o2.free m s2) (hne : ∀ t, o = .tok t → o2 ≠ .tok t) : o2.free ((o.use m).fresh s) s2 := by
  cases o2 with
  | no => exact h.elim
  | full => trivial
  | tok t =>
    have hlt := M.alive_lt h
    show ((o.use m).toks ++ [some s])[t]? = some (some s2)
    rw [List.getElem?_append_left (by rw [use_len]; exact hlt)]
    cases o with
    | tok t' =>
      have : t' ≠ t := fun e => hne t' rfl (by rw [e])
      show (m.toks.set t' none)[t]? = _
      rw [List.getElem?_set_ne this]; exact h
    | no => exact h
    | full => exact h
theorem free_ne {m : M} {o : Own} {s : Nat} (h : o.free m s) : o ≠ .tok m.nt := by
  intro e
  subst e
  exact absurd (M.alive_lt h) (Nat.lt_irrefl _)
theorem free_ext {m : M} {o : Own} {s : Nat} (bs : List (Option (List PV))) : o.free (m.ext bs) s = o.free m s := by cases o <;> rfl
theorem free_upd {m : M} {o : Own} {s : Nat} (id : Nat) (c : List PV) : o.free (m.upd id c) s = o.free m s := by cases o <;> rfl
theorem free_drop {m : M} {o : Own} {s : Nat} (id : Nat) : o.free (m.drop1 id) s = o.free m s := by cases o <;> rfl
theorem use_get {m : M} {o : Own} (id : Nat) : (o.use m).get id = m.get id := by cases o <;> rfl
theorem fresh_get {m : M} (s id : Nat) : (m.fresh s).get id = m.get id := rfl
end Go.Proofs.Ytepjjgnkhcjpcaa
