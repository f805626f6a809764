/-
 Texts that belong together: AbToks, AbCnt, PsQ.
-/
-- halved
import Derived.Test.YtohgdopfjkjppaaGreatDoorAbKit
import Derived.Test.YtohgdopfjkjppaaGreatDoorExA
import Derived.Test.YtohgdopfjkjppaaGreatDoorPdA
set_option linter.unusedVariables false
set_option linter.unusedSimpArgs false
namespace Go.Proofs.YtohgdopfjkjppaaGreatDoor
open Go

theorem use_len (o : Own) (m : M) : (o.use m).toks.length = m.nt := by cases o <;> simp [Own.use, M.kill, M.nt]
theorem use_boxes (o : Own) (m : M) : (o.use m).boxes = m.boxes := by cases o <;> rfl

structure Toks (m0 m : M) : Prop where
 nt : m0.nt ≤ m.nt
 toks : m.toks.take m0.nt = m0.toks
 boxes : m.boxes = m0.boxes
def Mine (m0 m : M) (o : Own) (s : Nat) : Prop := o = .full ∨ ∃ t, o = .tok t ∧ m0.nt ≤ t ∧ m.alive t s
theorem Toks.refl (m : M) : Toks m m := ⟨Nat.le_refl _, by simp [M.nt], rfl⟩
theorem Toks.nb {m0 m : M} (h : Toks m0 m) : m.nb = m0.nb := by unfold M.nb; rw [h.boxes]
theorem Mine.free {m0 m : M} {o : Own} {s : Nat} (h : Mine m0 m o s) : o.free m s := by
 rcases h with rfl | ⟨t, rfl, _, h⟩
 ·trivial
 ·exact h
theorem Mine.full {m0 m : M} {s : Nat} : Mine m0 m .full s := .inl rfl
theorem Toks.use {m0 m : M} {o : Own} {s s' : Nat} (h : Toks m0 m) (g : Mine m0 m o s') : Toks m0 ((o.use m).fresh s) := by
 have hl := use_len o m
 refine ⟨?_, ?_, ?_⟩
 ·show m0.nt ≤ ((o.use m).toks ++ [some s]).length
  have := h.nt
  simp [hl]; omega
 ·show ((o.use m).toks ++ [some s]).take m0.nt = m0.toks
  rw [List.take_append_of_le_length (by rw [hl]; exact h.nt)]
  rcases g with rfl | ⟨t, rfl, ht, _⟩
  ·exact h.toks
  ·show (m.toks.set t none).take m0.nt = _
   rw [List.take_set_of_le ht, h.toks]
 ·show (o.use m).boxes = _
  rw [use_boxes]; exact h.boxes
theorem Mine.new {m0 m : M} (h : Toks m0 m) (o : Own) (s : Nat) : Mine m0 ((o.use m).fresh s) (.tok m.nt) s := by
 refine .inr ⟨_, rfl, h.nt, ?_⟩
 show ((o.use m).toks ++ [some s])[m.nt]? = some (some s)
 rw [← use_len o m]; simp
theorem Mine.other {m0 m : M} {o o2 : Own} {s s2 : Nat} (h : Mine m0 m o2 s2) (hne : ∀ t, o = .tok t → o2 ≠ .tok t) : Mine m0 ((o.use m).fresh s) o2 s2 := by
 rcases h with rfl | ⟨t, rfl, ht, ha⟩
 ·exact .inl rfl
 ·refine .inr ⟨t, rfl, ht, ?_⟩
  have hlt := M.alive_lt ha
  show ((o.use m).toks ++ [some s])[t]? = some (some s2)
  rw [List.getElem?_append_left (by rw [use_len]; exact hlt)]
  cases o with
  | tok t' =>
   have : t' ≠ t := fun e => hne t' rfl (by rw [e])
   show (m.toks.set t' none)[t]? = _
   rw [List.getElem?_set_ne this]; exact ha
  | no => exact ha
  | full => exact ha
theorem Mine.ne_new {m0 m : M} {o2 : Own} {s2 : Nat} (h : Mine m0 m o2 s2) : ∀ t, Own.tok m.nt = .tok t → o2 ≠ .tok t := by
 intro t ht he
 cases ht
 rcases h with rfl | ⟨t, rfl, _, ha⟩
 ·cases he
 ·cases he
  exact absurd (M.alive_lt ha) (Nat.lt_irrefl _)
theorem Mine.new_ne {m0 m : M} {o2 : Own} {s2 : Nat} (h : Mine m0 m o2 s2) : ∀ t, o2 = .tok t → Own.tok m.nt ≠ .tok t := by
 intro t ht he
 cases he
 exact h.ne_new _ rfl ht
theorem leave_toks {m0 m : M} {bs : List (Option (List PV))} {v : PV} {R : PV → M → Prop} (h : Toks m0 m) (hv : v.settle.pure = true) (hR : R v.settle m0) : ∃ v' m', Leave m0 (m.ext bs) v v' m' ∧ R v' m' :=
 leave_plain (by simp [M.nb, M.ext, h.boxes]) (by simpa [M.ext] using h.toks) hv hR

section
variable {a : Nat} {m : M} {n : Int}
end
theorem pure_withinC (n k : Nat) : ∀ x : PV, x.pure = true → x.within n k = true := by
 intro x
 induction x using PV.rec (motive_2 := fun l => PV.pures l = true → PV.withins n k l = true) with
 | v | junk | ep => intro _; rfl
 | sl o xs _ =>
  intro h
  simp only [PV.pure, beq_iff_eq] at h
  subst h
  rfl
 | ag xs ih => intro h; exact ih h
 | tp xs ih => intro h; exact ih h
 | bp | bs | gs => intro h; simp [PV.pure] at h
 | mp | it => intro h; simp [PV.pure] at h
 | fn f a b iha ihb =>
  intro h
  simp only [PV.pure, Bool.and_eq_true] at h
  simp only [PV.within, iha h.1, ihb h.2, Bool.and_self]
 | ifc t y ih => intro h; exact ih h
 | nil => rfl
 | cons y l h1 h2 =>
  rename_i h
  simp only [PV.pures, Bool.and_eq_true] at h
  simp only [PV.withins, h1 h.1, h2 h.2, Bool.and_self]
structure BaseR (m mb : M) : Prop where
 nb : m.nb ≤ mb.nb
 nt : m.nt ≤ mb.nt
 boxes : mb.boxes.take m.nb = m.boxes
 toks : mb.toks.take m.nt = m.toks
theorem BaseR.refl (m : M) : BaseR m m := ⟨Nat.le_refl _, Nat.le_refl _, List.take_length, List.take_length⟩
theorem BaseR.ext {m mb : M} (h : BaseR m mb) (bs : List (Option (List PV))) : BaseR m (mb.ext bs) :=
 ⟨by rw [ext_nb]; exact Nat.le_trans h.nb (Nat.le_add_right _ _), h.nt, by show (mb.boxes ++ bs).take m.nb = _; rw [List.take_append_of_le_length (by exact h.nb)]; exact h.boxes, h.toks⟩
theorem BaseR.fresh {m mb : M} {o : Own} {s s' : Nat} (h : BaseR m mb) (g : Mine m mb o s') : BaseR m ((o.use mb).fresh s) := by
 have hl := use_len o mb
 refine ⟨?_, ?_, ?_, ?_⟩
 ·show m.nb ≤ (o.use mb).boxes.length
  rw [use_boxes]; exact h.nb
 ·show m.nt ≤ ((o.use mb).toks ++ [some s]).length
  have := h.nt
  simp [hl]; omega
 ·show (o.use mb).boxes.take m.nb = _
  rw [use_boxes]; exact h.boxes
 ·show ((o.use mb).toks ++ [some s]).take m.nt = m.toks
  rw [List.take_append_of_le_length (by rw [hl]; exact h.nt)]
  rcases g with rfl | ⟨t, rfl, ht, _⟩
  ·exact h.toks
  ·show (mb.toks.set t none).take m.nt = _
   rw [List.take_set_of_le ht, h.toks]
theorem Mine.ext {m mb : M} {o : Own} {s : Nat} (g : Mine m mb o s) (bs : List (Option (List PV))) : Mine m (mb.ext bs) o s := by
 rcases g with rfl | ⟨t, rfl, ht, ha⟩
 ·exact .inl rfl
 ·exact .inr ⟨t, rfl, ht, ha⟩
theorem Mine.newB {m mb : M} (h : BaseR m mb) (o : Own) (s : Nat) : Mine m ((o.use mb).fresh s) (.tok mb.nt) s := by
 refine .inr ⟨_, rfl, h.nt, ?_⟩
 show ((o.use mb).toks ++ [some s])[mb.nt]? = some (some s)
 rw [← use_len o mb]; simp

def qst (L : List Tk) (a : Nat) (m : M) (s : PS) (d : Int) : M := m.upd a [.sl .no (L.map Tk.pv), .v (.int .i64 (s.i : Int)), .v (.int .i64 d), .v (.int .i64 s.k), .v (.int .i64 s.l), .v (.int .i64 s.c)]
section
variable {L : List Tk} {a : Nat} {m : M} {s : PS} {d : Int}
theorem qst_nb : (qst L a m s d).nb = m.nb := by simp [qst, upd_nb]
theorem qst_nt : (qst L a m s d).nt = m.nt := rfl
theorem qst_fresh (t : Nat) : (qst L a m s d).fresh t = qst L a (m.fresh t) s d := rfl
theorem qst_use (o : Own) : o.use (qst L a m s d) = qst L a (o.use m) s d := by cases o <;> rfl
theorem qst_free (o : Own) (t : Nat) : o.free (qst L a m s d) t = o.free m t := by cases o <;> rfl
theorem qst_alive (t r : Nat) : (qst L a m s d).alive t r = m.alive t r := rfl
theorem qst_a (hA : a < m.nb) : (qst L a m s d).get a = some [.sl .no (L.map Tk.pv), .v (.int .i64 (s.i : Int)), .v (.int .i64 d), .v (.int .i64 s.k), .v (.int .i64 s.l), .v (.int .i64 s.c)] := by
 unfold qst
 rw [M.get_upd, if_pos ⟨rfl, hA⟩]
theorem qst_upda (i : Nat) (d2 k l c : Int) : (qst L a m s d).upd a [PV.sl Own.no (L.map Tk.pv), PV.v (Value.int IntKind.i64 (i : Int)), PV.v (Value.int IntKind.i64 d2), PV.v (Value.int IntKind.i64 k), PV.v (Value.int IntKind.i64 l), PV.v (Value.int IntKind.i64 c)] = qst L a m ⟨i, k, l, c⟩ d2 := by
 unfold qst M.upd
 congr 1
 simp only []
 rw [List.set_set]
theorem qst_ext (bs : List (Option (List PV))) (hA : a < m.nb) : (qst L a m s d).ext bs = qst L a (m.ext bs) s d := by
 unfold qst
 rw [ext_updOld hA]
theorem qst_ext2 (bs cs : List (Option (List PV))) (hA : a < m.nb) : (qst L a (m.ext bs) s d).ext cs = qst L a (m.ext (bs ++ cs)) s d := by
 rw [qst_ext cs (by rw [ext_nb]; omega), ext_ext]
theorem qst_ea (bs : List (Option (List PV))) (hA : a < m.nb) : (qst L a (m.ext bs) s d).get a = some [.sl .no (L.map Tk.pv), .v (.int .i64 (s.i : Int)), .v (.int .i64 d), .v (.int .i64 s.k), .v (.int .i64 s.l), .v (.int .i64 s.c)] := qst_a (by rw [ext_nb]; omega)
theorem qst_own {bs : List (Option (List PV))} {k j : Nat} (h : m.nb = k) (hA : a < m.nb) : (qst L a (m.ext bs) s d).get (k + j) = (bs[j]?).join := by
 rw [← ext_get (bs := bs) (i := j) h]
 unfold qst
 rw [M.get_upd, if_neg (fun h' => by have := h'.1; omega)]
theorem qst_own0 {bs : List (Option (List PV))} {k : Nat} (h : m.nb = k) (hA : a < m.nb) : (qst L a (m.ext bs) s d).get k = (bs[0]?).join := qst_own (j := 0) h hA
theorem qst_ou {bs : List (Option (List PV))} {k j : Nat} {c : List PV} (h : m.nb = k) (hA : a < m.nb) : (qst L a (m.ext bs) s d).upd (k + j) c = qst L a (m.ext (bs.set j (some c))) s d := by
 rw [← ext_upd (i := j) h]
 unfold qst M.upd
 congr 1
 simp only []
 rw [List.set_comm _ _ (show a ≠ k + j by omega)]
theorem qst_ou0 {bs : List (Option (List PV))} {k : Nat} {c : List PV} (h : m.nb = k) (hA : a < m.nb) : (qst L a (m.ext bs) s d).upd k c = qst L a (m.ext (bs.set 0 (some c))) s d := qst_ou (j := 0) h hA
end
theorem qst_boxes {L : List Tk} {a : Nat} {m mm : M} (h : mm.boxes = m.boxes) (s : PS) (d : Int) : (qst L a mm s d).boxes = (qst L a m s d).boxes := by
 unfold qst M.upd
 simp only [h]
theorem leave_qst {L : List Tk} {a : Nat} {m mm : M} {bs : List (Option (List PV))} {s : PS} {d : Int} {s' : PS} {d' : Int} {v : PV} {R : PV → M → Prop} (hA : a < m.nb) (ht : Toks m mm) (hv : v.settle.pure = true) (hR : R v.settle (qst L a m s' d')) :
    ∃ v' m', Leave (qst L a m s d) (qst L a (mm.ext bs) s' d') v v' m' ∧ R v' m' := by
 rw [← qst_ext bs (by rw [ht.nb]; exact hA)]
 refine ⟨_, _, .gen v v.settle (qst L a m s' d') (.inr rfl) (by rw [qst_nb, qst_nb]; exact Nat.le_refl _) (by rw [qst_nt, qst_nt]; exact Nat.le_refl _) ?_ ?_ (fun id c hc => ?_) (pure_withinC _ _ _ hv), hR⟩
 ·show ((qst L a mm s' d').boxes ++ bs).take (qst L a m s' d').boxes.length = _
  rw [qst_boxes ht.boxes]
  simp
 ·exact ht.toks
 ·unfold qst at hc
  rw [M.get_upd] at hc
  split at hc
  ·cases hc
   exact .inr (by simp [PV.withins, PV.within])
  ·rename_i h1
   refine .inl ?_
   unfold qst
   rw [M.get_upd, if_neg h1]
   exact hc
theorem leave_qst0 {L : List Tk} {a : Nat} {m mm : M} {s : PS} {d : Int} {s' : PS} {d' : Int} {v : PV} {R : PV → M → Prop} (hA : a < m.nb) (ht : Toks m mm) (hv : v.settle.pure = true) (hR : R v.settle (qst L a m s' d')) :
    ∃ v' m', Leave (qst L a m s d) (qst L a mm s' d') v v' m' ∧ R v' m' := by
 have := leave_qst (bs := []) (s := s) (d := d) (R := R) hA ht hv hR
 rwa [show mm.ext [] = mm by simp [M.ext]] at this
theorem leave_qstB {L : List Tk} {a : Nat} {m mb : M} {s : PS} {d : Int} {s' : PS} {d' : Int} {v : PV} {R : PV → M → Prop} (hA : a < m.nb) (hb : BaseR m mb) (hv : v.settle.pure = true) (hR : R v.settle (qst L a m s' d')) : ∃ v' m', Leave (qst L a m s d) (qst L a mb s' d') v v' m' ∧ R v' m' := by
 have e : mb = (⟨m.boxes, mb.toks⟩ : M).ext (mb.boxes.drop m.nb) := by
  have : m.boxes ++ mb.boxes.drop m.nb = mb.boxes := by rw [← hb.boxes]; simp
  cases mb
  simp only [M.ext] at this ⊢
  rw [this]
 rw [e]
 exact leave_qst hA ⟨hb.nt, hb.toks, rfl⟩ hv hR
def pst (L : List Tk) (a : Nat) (m : M) (i : Nat) (d : Int) : M := m.upd a [.sl .no (L.map Tk.pv), .v (.int .i64 (i : Int)), .v (.int .i64 d)]
section
variable {L : List Tk} {a : Nat} {m : M} {i : Nat} {d : Int}
theorem pst_nb : (pst L a m i d).nb = m.nb := by simp [pst, upd_nb]
theorem pst_nt : (pst L a m i d).nt = m.nt := rfl
theorem pst_fresh (t : Nat) : (pst L a m i d).fresh t = pst L a (m.fresh t) i d := rfl
theorem pst_use (o : Own) : o.use (pst L a m i d) = pst L a (o.use m) i d := by cases o <;> rfl
theorem pst_free (o : Own) (t : Nat) : o.free (pst L a m i d) t = o.free m t := by cases o <;> rfl
theorem pst_alive (t r : Nat) : (pst L a m i d).alive t r = m.alive t r := rfl
theorem pst_a (hA : a < m.nb) : (pst L a m i d).get a = some [.sl .no (L.map Tk.pv), .v (.int .i64 (i : Int)), .v (.int .i64 d)] := by
 unfold pst
 rw [M.get_upd, if_pos ⟨rfl, hA⟩]
theorem pst_upda (j : Nat) (d2 : Int) : (pst L a m i d).upd a [PV.sl Own.no (L.map Tk.pv), PV.v (Value.int IntKind.i64 (j : Int)), PV.v (Value.int IntKind.i64 d2)] = pst L a m j d2 := by
 unfold pst M.upd
 congr 1
 simp only []
 rw [List.set_set]
theorem pst_ext (bs : List (Option (List PV))) (hA : a < m.nb) : (pst L a m i d).ext bs = pst L a (m.ext bs) i d := by
 unfold pst
 rw [ext_updOld hA]
theorem pst_ext2 (bs cs : List (Option (List PV))) (hA : a < m.nb) : (pst L a (m.ext bs) i d).ext cs = pst L a (m.ext (bs ++ cs)) i d := by
 rw [pst_ext cs (by rw [ext_nb]; omega), ext_ext]
theorem pst_ea (bs : List (Option (List PV))) (hA : a < m.nb) : (pst L a (m.ext bs) i d).get a = some [.sl .no (L.map Tk.pv), .v (.int .i64 (i : Int)), .v (.int .i64 d)] := pst_a (by rw [ext_nb]; omega)
theorem pst_own {bs : List (Option (List PV))} {k j : Nat} (h : m.nb = k) (hA : a < m.nb) : (pst L a (m.ext bs) i d).get (k + j) = (bs[j]?).join := by
 rw [← ext_get (bs := bs) (i := j) h]
 unfold pst
 rw [M.get_upd, if_neg (fun h' => by have := h'.1; omega)]
theorem pst_own0 {bs : List (Option (List PV))} {k : Nat} (h : m.nb = k) (hA : a < m.nb) : (pst L a (m.ext bs) i d).get k = (bs[0]?).join := pst_own (j := 0) h hA
theorem pst_ou {bs : List (Option (List PV))} {k j : Nat} {c : List PV} (h : m.nb = k) (hA : a < m.nb) : (pst L a (m.ext bs) i d).upd (k + j) c = pst L a (m.ext (bs.set j (some c))) i d := by
 rw [← ext_upd (i := j) h]
 unfold pst M.upd
 congr 1
 simp only []
 rw [List.set_comm _ _ (show a ≠ k + j by omega)]
theorem pst_ou0 {bs : List (Option (List PV))} {k : Nat} {c : List PV} (h : m.nb = k) (hA : a < m.nb) : (pst L a (m.ext bs) i d).upd k c = pst L a (m.ext (bs.set 0 (some c))) i d := pst_ou (j := 0) h hA
end
theorem pst_boxes {L : List Tk} {a : Nat} {m mm : M} (h : mm.boxes = m.boxes) (i : Nat) (d : Int) : (pst L a mm i d).boxes = (pst L a m i d).boxes := by
 unfold pst M.upd
 simp only [h]
theorem leave_pst {L : List Tk} {a : Nat} {m mm : M} {bs : List (Option (List PV))} {i : Nat} {d : Int} {i' : Nat} {d' : Int} {v : PV} {R : PV → M → Prop} (hA : a < m.nb) (ht : Toks m mm) (hv : v.settle.pure = true) (hR : R v.settle (pst L a m i' d')) :
    ∃ v' m', Leave (pst L a m i d) (pst L a (mm.ext bs) i' d') v v' m' ∧ R v' m' := by
 rw [← pst_ext bs (by rw [ht.nb]; exact hA)]
 refine ⟨_, _, .gen v v.settle (pst L a m i' d') (.inr rfl) (by rw [pst_nb, pst_nb]; exact Nat.le_refl _) (by rw [pst_nt, pst_nt]; exact Nat.le_refl _) ?_ ?_ (fun id c hc => ?_) (pure_withinC _ _ _ hv), hR⟩
 ·show ((pst L a mm i' d').boxes ++ bs).take (pst L a m i' d').boxes.length = _
  rw [pst_boxes ht.boxes]
  simp
 ·exact ht.toks
 ·unfold pst at hc
  rw [M.get_upd] at hc
  split at hc
  ·cases hc
   exact .inr (by simp [PV.withins, PV.within])
  ·rename_i h1
   refine .inl ?_
   unfold pst
   rw [M.get_upd, if_neg h1]
   exact hc
theorem leave_pst0 {L : List Tk} {a : Nat} {m mm : M} {i : Nat} {d : Int} {i' : Nat} {d' : Int} {v : PV} {R : PV → M → Prop} (hA : a < m.nb) (ht : Toks m mm) (hv : v.settle.pure = true) (hR : R v.settle (pst L a m i' d')) :
    ∃ v' m', Leave (pst L a m i d) (pst L a mm i' d') v v' m' ∧ R v' m' := by
 have := leave_pst (bs := []) (i := i) (d := d) (R := R) hA ht hv hR
 rwa [show mm.ext [] = mm by simp [M.ext]] at this
theorem leave_pstB {L : List Tk} {a : Nat} {m mb : M} {i : Nat} {d : Int} {i' : Nat} {d' : Int} {v : PV} {R : PV → M → Prop} (hA : a < m.nb) (hb : BaseR m mb) (hv : v.settle.pure = true) (hR : R v.settle (pst L a m i' d')) : ∃ v' m', Leave (pst L a m i d) (pst L a mb i' d') v v' m' ∧ R v' m' := by
 have e : mb = (⟨m.boxes, mb.toks⟩ : M).ext (mb.boxes.drop m.nb) := by
  have : m.boxes ++ mb.boxes.drop m.nb = mb.boxes := by rw [← hb.boxes]; simp
  cases mb
  simp only [M.ext] at this ⊢
  rw [this]
 rw [e]
 exact leave_pst hA ⟨hb.nt, hb.toks, rfl⟩ hv hR
end Go.Proofs.YtohgdopfjkjppaaGreatDoor
