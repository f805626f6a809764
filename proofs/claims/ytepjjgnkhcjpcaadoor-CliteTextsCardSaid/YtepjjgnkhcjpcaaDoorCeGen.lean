/-
  The maker of clite's expressions: what it keeps: how far it has read.
-/
import Derived.Test.YtepjjgnkhcjpcaaDoorCeEx
import Derived.Test.YtepjjgnkhcjpcaaDoorAbToks
set_option linter.unusedVariables false
set_option linter.unusedSimpArgs false
namespace Go.Proofs.YtepjjgnkhcjpcaaDoor
open Go

abbrev pU (n : Int) : PV := .v (.int .u8 n)
/-- A list of numbers, and the box that says how far it is read. -/
structure CP where
  l : List Int
  a : Nat
def CP.at (p : CP) (i : Nat) : List PV := [.v (.int .i64 (i : Int))]
def cst (p : CP) (m : M) (i : Nat) : M := m.upd p.a (p.at i)
structure CP.ok (p : CP) (m : M) : Prop where
  a : p.a < m.nb
  len : p.l.length ≤ 300
  el : ∀ x ∈ p.l, 0 ≤ x ∧ x ≤ 255

section
variable {p : CP} {m : M} {i : Nat}
theorem cst_nb : (cst p m i).nb = m.nb := by simp [cst, upd_nb]
theorem cst_nt : (cst p m i).nt = m.nt := rfl
theorem cst_fresh (s : Nat) : (cst p m i).fresh s = cst p (m.fresh s) i := rfl
theorem cst_use (o : Own) : o.use (cst p m i) = cst p (o.use m) i := by cases o <;> rfl
theorem cst_free (o : Own) (s : Nat) : o.free (cst p m i) s = o.free m s := by cases o <;> rfl
theorem cst_alive (t s : Nat) : (cst p m i).alive t s = m.alive t s := rfl
theorem cst_get {k : Nat} : (cst p m i).get k = if k = p.a ∧ p.a < m.nb then some (p.at i) else m.get k := by
  unfold cst
  rw [M.get_upd]
theorem cst_a (hA : p.a < m.nb) : (cst p m i).get p.a = some (p.at i) := by
  unfold cst
  rw [M.get_upd, if_pos ⟨rfl, hA⟩]
theorem cst_upda (j : Nat) : (cst p m i).upd p.a [PV.v (Value.int IntKind.i64 (j : Int))] = cst p m j := by
  unfold cst M.upd
  congr 1
  simp only []
  rw [List.set_set]
  rfl
theorem cst_ext (bs : List (Option (List PV))) (hA : p.a < m.nb) : (cst p m i).ext bs = cst p (m.ext bs) i := by
  unfold cst
  rw [ext_updOld hA]
theorem cst_ext2 (bs cs : List (Option (List PV))) (hA : p.a < m.nb) : (cst p (m.ext bs) i).ext cs = cst p (m.ext (bs ++ cs)) i := by
  rw [cst_ext cs (by rw [ext_nb]; omega), ext_ext]
theorem cst_ea (bs : List (Option (List PV))) (hA : p.a < m.nb) : (cst p (m.ext bs) i).get p.a = some (p.at i) := cst_a (by rw [ext_nb]; omega)
theorem cst_own {bs : List (Option (List PV))} {k j : Nat} (h : m.nb = k) (hA : p.a < m.nb) : (cst p (m.ext bs) i).get (k + j) = (bs[j]?).join := by
  rw [← ext_get (bs := bs) (i := j) h]
  unfold cst
  rw [M.get_upd, if_neg (fun h' => by have := h'.1; omega)]
theorem cst_own0 {bs : List (Option (List PV))} {k : Nat} (h : m.nb = k) (hA : p.a < m.nb) : (cst p (m.ext bs) i).get k = (bs[0]?).join := cst_own (j := 0) h hA
theorem cst_ou {bs : List (Option (List PV))} {k j : Nat} {c : List PV} (h : m.nb = k) (hA : p.a < m.nb) : (cst p (m.ext bs) i).upd (k + j) c = cst p (m.ext (bs.set j (some c))) i := by
  rw [← ext_upd (i := j) h]
  unfold cst M.upd
  congr 1
  simp only []
  rw [List.set_comm _ _ (show p.a ≠ k + j by omega)]
theorem cst_ou0 {bs : List (Option (List PV))} {k : Nat} {c : List PV} (h : m.nb = k) (hA : p.a < m.nb) : (cst p (m.ext bs) i).upd k c = cst p (m.ext (bs.set 0 (some c))) i := cst_ou (j := 0) h hA
theorem CP.ok.ext (h : p.ok m) (bs : List (Option (List PV))) : p.ok (m.ext bs) := ⟨by rw [ext_nb]; have := h.a; omega, h.len, h.el⟩
theorem CP.ok.toks {mm : M} (h : p.ok m) (ht : Toks m mm) : p.ok mm := ⟨by rw [ht.nb]; exact h.a, h.len, h.el⟩
end
theorem pure_withinC (n k : Nat) : ∀ x : PV, x.pure = true → x.within n k = true := by
  intro x
  induction x using PV.rec (motive_2 := fun l => PV.pures l = true → PV.withins n k l = true) with
  | v | junk | ep => intro _; rfl
  | sl o xs _ =>
    intro h
    simp only [PV.pure, beq_iff_eq] at h
    subst h
    rfl
  | ag xs ih => intro h; exact ih h
  | tp xs ih => intro h; exact ih h
  | bp | bs | gs => intro h; simp [PV.pure] at h
  | mp | it => intro h; simp [PV.pure] at h
  | fn f a b iha ihb =>
    intro h
    simp only [PV.pure, Bool.and_eq_true] at h
    simp only [PV.within, iha h.1, ihb h.2, Bool.and_self]
  | ifc t y ih => intro h; exact ih h
  | nil => rfl
  | cons y l h1 h2 =>
    rename_i h
    simp only [PV.pures, Bool.and_eq_true] at h
    simp only [PV.withins, h1 h.1, h2 h.2, Bool.and_self]
theorem cst_boxes {p : CP} {m mm : M} (h : mm.boxes = m.boxes) (i : Nat) : (cst p mm i).boxes = (cst p m i).boxes := by
  unfold cst M.upd
  simp only [h]
theorem leave_cst {p : CP} {m mm : M} {bs : List (Option (List PV))} {i i' : Nat} {v : PV} {R : PV → M → Prop} (hok : p.ok m) (ht : Toks m mm) (hv : v.settle.pure = true) (hR : R v.settle (cst p m i')) :
    ∃ v' m', Leave (cst p m i) (cst p (mm.ext bs) i') v v' m' ∧ R v' m' := by
  rw [← cst_ext bs (by rw [ht.nb]; exact hok.a)]
  refine ⟨_, _, .gen v v.settle (cst p m i') (.inr rfl) (by rw [cst_nb, cst_nb]; exact Nat.le_refl _) (by rw [cst_nt, cst_nt]; exact Nat.le_refl _) ?_ ?_ (fun id c hc => ?_) (pure_withinC _ _ _ hv), hR⟩
  · show ((cst p mm i').boxes ++ bs).take (cst p m i').boxes.length = _
    rw [cst_boxes ht.boxes]
    simp
  · exact ht.toks
  · unfold cst at hc
    rw [M.get_upd] at hc
    split at hc
    · rename_i h
      cases hc
      exact .inr (by simp [CP.at, PV.withins, PV.within])
    · rename_i h1
      refine .inl ?_
      unfold cst
      rw [M.get_upd, if_neg h1]
      exact hc
theorem leave_cst0 {p : CP} {m mm : M} {i i' : Nat} {v : PV} {R : PV → M → Prop} (hok : p.ok m) (ht : Toks m mm) (hv : v.settle.pure = true) (hR : R v.settle (cst p m i')) :
    ∃ v' m', Leave (cst p m i) (cst p mm i') v v' m' ∧ R v' m' := by
  have := leave_cst (bs := []) (i := i) (R := R) hok ht hv hR
  rwa [show mm.ext [] = mm by simp [M.ext]] at this
/-- The states that differ in how far is read alone. -/
def isC (p : CP) (m m2 : M) : Prop := ∃ i, m2 = cst p m i
theorem isC_all {p : CP} {m : M} {Q : M → Prop} : (∀ m2, isC p m m2 → Q m2) = ∀ i, Q (cst p m i) := by
  refine propext ⟨fun h i => h _ ⟨i, rfl⟩, fun h m2 ⟨i, e⟩ => e ▸ h i⟩
end Go.Proofs.YtepjjgnkhcjpcaaDoor
