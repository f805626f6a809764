/-
 Texts that belong together: AbToks, AbCnt, TpQ.
-/
-- halved
import Derived.Test.YthhhnfjcaicjnaaGreatDoorAbKit
import Derived.Test.YthhhnfjcaicjnaaGreatDoorExA
set_option linter.unusedVariables false
set_option linter.unusedSimpArgs false
namespace Go.Proofs.YthhhnfjcaicjnaaGreatDoor
open Go

theorem use_len (o : Own) (m : M) : (o.use m).toks.length = m.nt := by cases o <;> simp [Own.use, M.kill, M.nt]
theorem use_boxes (o : Own) (m : M) : (o.use m).boxes = m.boxes := by cases o <;> rfl

structure Toks (m0 m : M) : Prop where
 nt : m0.nt ≤ m.nt
 toks : m.toks.take m0.nt = m0.toks
 boxes : m.boxes = m0.boxes
def Mine (m0 m : M) (o : Own) (s : Nat) : Prop := o = .full ∨ ∃ t, o = .tok t ∧ m0.nt ≤ t ∧ m.alive t s
theorem Toks.refl (m : M) : Toks m m := ⟨Nat.le_refl _, by simp [M.nt], rfl⟩
theorem Toks.nb {m0 m : M} (h : Toks m0 m) : m.nb = m0.nb := by unfold M.nb; rw [h.boxes]
theorem Mine.free {m0 m : M} {o : Own} {s : Nat} (h : Mine m0 m o s) : o.free m s := by
 rcases h with rfl | ⟨t, rfl, _, h⟩
 ·trivial
 ·exact h
theorem Mine.full {m0 m : M} {s : Nat} : Mine m0 m .full s := .inl rfl
theorem Toks.use {m0 m : M} {o : Own} {s s' : Nat} (h : Toks m0 m) (g : Mine m0 m o s') : Toks m0 ((o.use m).fresh s) := by
 have hl := use_len o m
 refine ⟨?_, ?_, ?_⟩
 ·show m0.nt ≤ ((o.use m).toks ++ [some s]).length
  have := h.nt
  simp [hl]; omega
 ·show ((o.use m).toks ++ [some s]).take m0.nt = m0.toks
  rw [List.take_append_of_le_length (by rw [hl]; exact h.nt)]
  rcases g with rfl | ⟨t, rfl, ht, _⟩
  ·exact h.toks
  ·show (m.toks.set t none).take m0.nt = _
   rw [List.take_set_of_le ht, h.toks]
 ·show (o.use m).boxes = _
  rw [use_boxes]; exact h.boxes
theorem Mine.new {m0 m : M} (h : Toks m0 m) (o : Own) (s : Nat) : Mine m0 ((o.use m).fresh s) (.tok m.nt) s := by
 refine .inr ⟨_, rfl, h.nt, ?_⟩
 show ((o.use m).toks ++ [some s])[m.nt]? = some (some s)
 rw [← use_len o m]; simp
theorem Mine.other {m0 m : M} {o o2 : Own} {s s2 : Nat} (h : Mine m0 m o2 s2) (hne : ∀ t, o = .tok t → o2 ≠ .tok t) : Mine m0 ((o.use m).fresh s) o2 s2 := by
 rcases h with rfl | ⟨t, rfl, ht, ha⟩
 ·exact .inl rfl
 ·refine .inr ⟨t, rfl, ht, ?_⟩
  have hlt := M.alive_lt ha
  show ((o.use m).toks ++ [some s])[t]? = some (some s2)
  rw [List.getElem?_append_left (by rw [use_len]; exact hlt)]
  cases o with
  | tok t' =>
   have : t' ≠ t := fun e => hne t' rfl (by rw [e])
   show (m.toks.set t' none)[t]? = _
   rw [List.getElem?_set_ne this]; exact ha
  | no => exact ha
  | full => exact ha
theorem Mine.ne_new {m0 m : M} {o2 : Own} {s2 : Nat} (h : Mine m0 m o2 s2) : ∀ t, Own.tok m.nt = .tok t → o2 ≠ .tok t := by
 intro t ht he
 cases ht
 rcases h with rfl | ⟨t, rfl, _, ha⟩
 ·cases he
 ·cases he
  exact absurd (M.alive_lt ha) (Nat.lt_irrefl _)
theorem Mine.new_ne {m0 m : M} {o2 : Own} {s2 : Nat} (h : Mine m0 m o2 s2) : ∀ t, o2 = .tok t → Own.tok m.nt ≠ .tok t := by
 intro t ht he
 cases he
 exact h.ne_new _ rfl ht
theorem leave_toks {m0 m : M} {bs : List (Option (List PV))} {v : PV} {R : PV → M → Prop} (h : Toks m0 m) (hv : v.settle.pure = true) (hR : R v.settle m0) : ∃ v' m', Leave m0 (m.ext bs) v v' m' ∧ R v' m' :=
 leave_plain (by simp [M.nb, M.ext, h.boxes]) (by simpa [M.ext] using h.toks) hv hR
theorem leave_toks0 {m0 m : M} {v : PV} {R : PV → M → Prop} (h : Toks m0 m) (hv : v.settle.pure = true) (hR : R v.settle m0) : ∃ v' m', Leave m0 m v v' m' ∧ R v' m' :=
 leave_plain (by simp [M.nb, h.boxes]) h.toks hv hR

abbrev cN (n : Int) : List PV := [.v (.int .i64 n)]
def cnt (a : Nat) (m : M) (n : Int) : M := m.upd a (cN n)
section
variable {a : Nat} {m : M} {n : Int}
theorem cnt_nb : (cnt a m n).nb = m.nb := by simp [cnt, upd_nb]
theorem cnt_nt : (cnt a m n).nt = m.nt := rfl
theorem cnt_fresh (s : Nat) : (cnt a m n).fresh s = cnt a (m.fresh s) n := rfl
theorem cnt_use (o : Own) : o.use (cnt a m n) = cnt a (o.use m) n := by cases o <;> rfl
theorem cnt_free (o : Own) (s : Nat) : o.free (cnt a m n) s = o.free m s := by cases o <;> rfl
theorem cnt_alive (t s : Nat) : (cnt a m n).alive t s = m.alive t s := rfl
theorem cnt_a (hA : a < m.nb) : (cnt a m n).get a = some [.v (.int .i64 n)] := by
 unfold cnt
 rw [M.get_upd, if_pos ⟨rfl, hA⟩]
theorem cnt_upda (j : Int) : (cnt a m n).upd a [PV.v (Value.int IntKind.i64 j)] = cnt a m j := by
 unfold cnt M.upd
 congr 1
 simp only []
 rw [List.set_set]
theorem cnt_ext (bs : List (Option (List PV))) (hA : a < m.nb) : (cnt a m n).ext bs = cnt a (m.ext bs) n := by
 unfold cnt
 rw [ext_updOld hA]
theorem cnt_ext2 (bs cs : List (Option (List PV))) (hA : a < m.nb) : (cnt a (m.ext bs) n).ext cs = cnt a (m.ext (bs ++ cs)) n := by
 rw [cnt_ext cs (by rw [ext_nb]; omega), ext_ext]
theorem cnt_ea (bs : List (Option (List PV))) (hA : a < m.nb) : (cnt a (m.ext bs) n).get a = some [.v (.int .i64 n)] := cnt_a (by rw [ext_nb]; omega)
theorem cnt_own {bs : List (Option (List PV))} {k j : Nat} (h : m.nb = k) (hA : a < m.nb) : (cnt a (m.ext bs) n).get (k + j) = (bs[j]?).join := by
 rw [← ext_get (bs := bs) (i := j) h]
 unfold cnt
 rw [M.get_upd, if_neg (fun h' => by have := h'.1; omega)]
theorem cnt_own0 {bs : List (Option (List PV))} {k : Nat} (h : m.nb = k) (hA : a < m.nb) : (cnt a (m.ext bs) n).get k = (bs[0]?).join := cnt_own (j := 0) h hA
theorem cnt_ou {bs : List (Option (List PV))} {k j : Nat} {c : List PV} (h : m.nb = k) (hA : a < m.nb) : (cnt a (m.ext bs) n).upd (k + j) c = cnt a (m.ext (bs.set j (some c))) n := by
 rw [← ext_upd (i := j) h]
 unfold cnt M.upd
 congr 1
 simp only []
 rw [List.set_comm _ _ (show a ≠ k + j by omega)]
theorem cnt_ou0 {bs : List (Option (List PV))} {k : Nat} {c : List PV} (h : m.nb = k) (hA : a < m.nb) : (cnt a (m.ext bs) n).upd k c = cnt a (m.ext (bs.set 0 (some c))) n := cnt_ou (j := 0) h hA
end
theorem pure_withinC (n k : Nat) : ∀ x : PV, x.pure = true → x.within n k = true := by
 intro x
 induction x using PV.rec (motive_2 := fun l => PV.pures l = true → PV.withins n k l = true) with
 | v | junk | ep => intro _; rfl
 | sl o xs _ =>
  intro h
  simp only [PV.pure, beq_iff_eq] at h
  subst h
  rfl
 | ag xs ih => intro h; exact ih h
 | tp xs ih => intro h; exact ih h
 | bp | bs | gs => intro h; simp [PV.pure] at h
 | mp | it => intro h; simp [PV.pure] at h
 | fn f a b iha ihb =>
  intro h
  simp only [PV.pure, Bool.and_eq_true] at h
  simp only [PV.within, iha h.1, ihb h.2, Bool.and_self]
 | ifc t y ih => intro h; exact ih h
 | nil => rfl
 | cons y l h1 h2 =>
  rename_i h
  simp only [PV.pures, Bool.and_eq_true] at h
  simp only [PV.withins, h1 h.1, h2 h.2, Bool.and_self]
theorem cnt_boxes {a : Nat} {m mm : M} (h : mm.boxes = m.boxes) (n : Int) : (cnt a mm n).boxes = (cnt a m n).boxes := by
 unfold cnt M.upd
 simp only [h]
theorem leave_cnt {a : Nat} {m mm : M} {bs : List (Option (List PV))} {n n' : Int} {v : PV} {R : PV → M → Prop} (hA : a < m.nb) (ht : Toks m mm) (hv : v.settle.pure = true) (hR : R v.settle (cnt a m n')) :
    ∃ v' m', Leave (cnt a m n) (cnt a (mm.ext bs) n') v v' m' ∧ R v' m' := by
 rw [← cnt_ext bs (by rw [ht.nb]; exact hA)]
 refine ⟨_, _, .gen v v.settle (cnt a m n') (.inr rfl) (by rw [cnt_nb, cnt_nb]; exact Nat.le_refl _) (by rw [cnt_nt, cnt_nt]; exact Nat.le_refl _) ?_ ?_ (fun id c hc => ?_) (pure_withinC _ _ _ hv), hR⟩
 ·show ((cnt a mm n').boxes ++ bs).take (cnt a m n').boxes.length = _
  rw [cnt_boxes ht.boxes]
  simp
 ·exact ht.toks
 ·unfold cnt at hc
  rw [M.get_upd] at hc
  split at hc
  ·cases hc
   exact .inr (by simp [PV.withins, PV.within])
  ·rename_i h1
   refine .inl ?_
   unfold cnt
   rw [M.get_upd, if_neg h1]
   exact hc
structure BaseR (m mb : M) : Prop where
 nb : m.nb ≤ mb.nb
 nt : m.nt ≤ mb.nt
 boxes : mb.boxes.take m.nb = m.boxes
 toks : mb.toks.take m.nt = m.toks
theorem BaseR.refl (m : M) : BaseR m m := ⟨Nat.le_refl _, Nat.le_refl _, List.take_length, List.take_length⟩
theorem BaseR.ext {m mb : M} (h : BaseR m mb) (bs : List (Option (List PV))) : BaseR m (mb.ext bs) :=
 ⟨by rw [ext_nb]; exact Nat.le_trans h.nb (Nat.le_add_right _ _), h.nt, by show (mb.boxes ++ bs).take m.nb = _; rw [List.take_append_of_le_length (by exact h.nb)]; exact h.boxes, h.toks⟩
theorem BaseR.fresh {m mb : M} {o : Own} {s s' : Nat} (h : BaseR m mb) (g : Mine m mb o s') : BaseR m ((o.use mb).fresh s) := by
 have hl := use_len o mb
 refine ⟨?_, ?_, ?_, ?_⟩
 ·show m.nb ≤ (o.use mb).boxes.length
  rw [use_boxes]; exact h.nb
 ·show m.nt ≤ ((o.use mb).toks ++ [some s]).length
  have := h.nt
  simp [hl]; omega
 ·show (o.use mb).boxes.take m.nb = _
  rw [use_boxes]; exact h.boxes
 ·show ((o.use mb).toks ++ [some s]).take m.nt = m.toks
  rw [List.take_append_of_le_length (by rw [hl]; exact h.nt)]
  rcases g with rfl | ⟨t, rfl, ht, _⟩
  ·exact h.toks
  ·show (mb.toks.set t none).take m.nt = _
   rw [List.take_set_of_le ht, h.toks]
theorem Mine.ext {m mb : M} {o : Own} {s : Nat} (g : Mine m mb o s) (bs : List (Option (List PV))) : Mine m (mb.ext bs) o s := by
 rcases g with rfl | ⟨t, rfl, ht, ha⟩
 ·exact .inl rfl
 ·exact .inr ⟨t, rfl, ht, ha⟩
theorem Mine.newB {m mb : M} (h : BaseR m mb) (o : Own) (s : Nat) : Mine m ((o.use mb).fresh s) (.tok mb.nt) s := by
 refine .inr ⟨_, rfl, h.nt, ?_⟩
 show ((o.use mb).toks ++ [some s])[mb.nt]? = some (some s)
 rw [← use_len o mb]; simp
theorem leave_cntB {a : Nat} {m mb : M} {n n' : Int} {v : PV} {R : PV → M → Prop} (hA : a < m.nb) (hb : BaseR m mb) (hv : v.settle.pure = true) (hR : R v.settle (cnt a m n')) : ∃ v' m', Leave (cnt a m n) (cnt a mb n') v v' m' ∧ R v' m' := by
 have e : mb = (⟨m.boxes, mb.toks⟩ : M).ext (mb.boxes.drop m.nb) := by
  have : m.boxes ++ mb.boxes.drop m.nb = mb.boxes := by rw [← hb.boxes]; simp
  cases mb
  simp only [M.ext] at this ⊢
  rw [this]
 rw [e]
 exact leave_cnt hA ⟨hb.nt, hb.toks, rfl⟩ hv hR

abbrev sN (p : Int × Int) (n : Int) : List PV := [.v (.int .i64 n), .v (.int .i64 p.1), .v (.int .i64 p.2)]
def spt (p : Int × Int) (a : Nat) (m : M) (n : Int) : M := m.upd a (sN p n)
section
variable {p : Int × Int} {a : Nat} {m : M} {n : Int}
theorem spt_nb : (spt p a m n).nb = m.nb := by simp [spt, upd_nb]
theorem spt_nt : (spt p a m n).nt = m.nt := rfl
theorem spt_fresh (s : Nat) : (spt p a m n).fresh s = spt p a (m.fresh s) n := rfl
theorem spt_use (o : Own) : o.use (spt p a m n) = spt p a (o.use m) n := by cases o <;> rfl
theorem spt_free (o : Own) (s : Nat) : o.free (spt p a m n) s = o.free m s := by cases o <;> rfl
theorem spt_alive (t s : Nat) : (spt p a m n).alive t s = m.alive t s := rfl
theorem spt_a (hA : a < m.nb) : (spt p a m n).get a = some [.v (.int .i64 n), .v (.int .i64 p.1), .v (.int .i64 p.2)] := by
 unfold spt
 rw [M.get_upd, if_pos ⟨rfl, hA⟩]
theorem spt_upda (j : Int) : (spt p a m n).upd a [PV.v (Value.int IntKind.i64 j), PV.v (Value.int IntKind.i64 p.1), PV.v (Value.int IntKind.i64 p.2)] = spt p a m j := by
 unfold spt M.upd
 congr 1
 simp only []
 rw [List.set_set]
theorem spt_ext (bs : List (Option (List PV))) (hA : a < m.nb) : (spt p a m n).ext bs = spt p a (m.ext bs) n := by
 unfold spt
 rw [ext_updOld hA]
theorem spt_ext2 (bs cs : List (Option (List PV))) (hA : a < m.nb) : (spt p a (m.ext bs) n).ext cs = spt p a (m.ext (bs ++ cs)) n := by
 rw [spt_ext cs (by rw [ext_nb]; omega), ext_ext]
theorem spt_ea (bs : List (Option (List PV))) (hA : a < m.nb) : (spt p a (m.ext bs) n).get a = some [.v (.int .i64 n), .v (.int .i64 p.1), .v (.int .i64 p.2)] := spt_a (by rw [ext_nb]; omega)
theorem spt_own {bs : List (Option (List PV))} {k j : Nat} (h : m.nb = k) (hA : a < m.nb) : (spt p a (m.ext bs) n).get (k + j) = (bs[j]?).join := by
 rw [← ext_get (bs := bs) (i := j) h]
 unfold spt
 rw [M.get_upd, if_neg (fun h' => by have := h'.1; omega)]
theorem spt_own0 {bs : List (Option (List PV))} {k : Nat} (h : m.nb = k) (hA : a < m.nb) : (spt p a (m.ext bs) n).get k = (bs[0]?).join := spt_own (j := 0) h hA
theorem spt_ou {bs : List (Option (List PV))} {k j : Nat} {c : List PV} (h : m.nb = k) (hA : a < m.nb) : (spt p a (m.ext bs) n).upd (k + j) c = spt p a (m.ext (bs.set j (some c))) n := by
 rw [← ext_upd (i := j) h]
 unfold spt M.upd
 congr 1
 simp only []
 rw [List.set_comm _ _ (show a ≠ k + j by omega)]
theorem spt_ou0 {bs : List (Option (List PV))} {k : Nat} {c : List PV} (h : m.nb = k) (hA : a < m.nb) : (spt p a (m.ext bs) n).upd k c = spt p a (m.ext (bs.set 0 (some c))) n := spt_ou (j := 0) h hA
end
theorem spt_boxes {p : Int × Int} {a : Nat} {m mm : M} (h : mm.boxes = m.boxes) (n : Int) : (spt p a mm n).boxes = (spt p a m n).boxes := by
 unfold spt M.upd
 simp only [h]
theorem leave_spt {p : Int × Int} {a : Nat} {m mm : M} {bs : List (Option (List PV))} {n n' : Int} {v : PV} {R : PV → M → Prop} (hA : a < m.nb) (ht : Toks m mm) (hv : v.settle.pure = true) (hR : R v.settle (spt p a m n')) :
    ∃ v' m', Leave (spt p a m n) (spt p a (mm.ext bs) n') v v' m' ∧ R v' m' := by
 rw [← spt_ext bs (by rw [ht.nb]; exact hA)]
 refine ⟨_, _, .gen v v.settle (spt p a m n') (.inr rfl) (by rw [spt_nb, spt_nb]; exact Nat.le_refl _) (by rw [spt_nt, spt_nt]; exact Nat.le_refl _) ?_ ?_ (fun id c hc => ?_) (pure_withinC _ _ _ hv), hR⟩
 ·show ((spt p a mm n').boxes ++ bs).take (spt p a m n').boxes.length = _
  rw [spt_boxes ht.boxes]
  simp
 ·exact ht.toks
 ·unfold spt at hc
  rw [M.get_upd] at hc
  split at hc
  ·cases hc
   exact .inr (by simp [PV.withins, PV.within])
  ·rename_i h1
   refine .inl ?_
   unfold spt
   rw [M.get_upd, if_neg h1]
   exact hc
theorem leave_spt0 {p : Int × Int} {a : Nat} {m mm : M} {n n' : Int} {v : PV} {R : PV → M → Prop} (hA : a < m.nb) (ht : Toks m mm) (hv : v.settle.pure = true) (hR : R v.settle (spt p a m n')) :
    ∃ v' m', Leave (spt p a m n) (spt p a mm n') v v' m' ∧ R v' m' := by
 have := leave_spt (bs := []) (n := n) (R := R) hA ht hv hR
 rwa [show mm.ext [] = mm by simp [M.ext]] at this
theorem leave_sptB {p : Int × Int} {a : Nat} {m mb : M} {n n' : Int} {v : PV} {R : PV → M → Prop} (hA : a < m.nb) (hb : BaseR m mb) (hv : v.settle.pure = true) (hR : R v.settle (spt p a m n')) : ∃ v' m', Leave (spt p a m n) (spt p a mb n') v v' m' ∧ R v' m' := by
 have e : mb = (⟨m.boxes, mb.toks⟩ : M).ext (mb.boxes.drop m.nb) := by
  have : m.boxes ++ mb.boxes.drop m.nb = mb.boxes := by rw [← hb.boxes]; simp
  cases mb
  simp only [M.ext] at this ⊢
  rw [this]
 rw [e]
 exact leave_spt hA ⟨hb.nt, hb.toks, rfl⟩ hv hR
end Go.Proofs.YthhhnfjcaicjnaaGreatDoor
