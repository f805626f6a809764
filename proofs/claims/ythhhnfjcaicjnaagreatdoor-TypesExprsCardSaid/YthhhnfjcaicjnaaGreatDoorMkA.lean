/-
 Texts that belong together: AbGen, AbMk1, AbMk2, AbMk3.
-/
-- halved
import Derived.Test.YthhhnfjcaicjnaaGreatDoorExA
import Derived.Test.YthhhnfjcaicjnaaGreatDoorQA
import Derived.Test.YthhhnfjcaicjnaaGreatDoorAbMac
set_option linter.unusedVariables false
set_option linter.unusedSimpArgs false
namespace Go.Proofs.YthhhnfjcaicjnaaGreatDoor
open Go

abbrev pU (n : Int) : PV := .v (.int .u8 n)
structure GP where
 l : List Int
 gp : Nat
 tp : Nat
 subs : Int
 main : Bool
def GP.tape (p : GP) (i : Nat) : List PV := [.sl .no (p.l.map pU), .v (.int .i64 (i : Int))]
def GP.gen (p : GP) (n q : Int) : List PV := [.bp p.tp 0, .v (.int .i64 n), .v (.int .i64 q), .v (.int .i64 p.subs), .v (.bool p.main)]
def gst (p : GP) (m : M) (i : Nat) (n q : Int) : M := (m.upd p.tp (p.tape i)).upd p.gp (p.gen n q)
structure GP.ok (p : GP) (m : M) : Prop where
 tp : p.tp < m.nb
 gp : p.gp < m.nb
 ne : p.tp ≠ p.gp
 len : p.l.length ≤ 1000
 el : ∀ x ∈ p.l, 0 ≤ x ∧ x ≤ 255
 sub : p.subs < 100

section
variable {p : GP} {m : M} {i : Nat} {n q : Int}
theorem gst_nb : (gst p m i n q).nb = m.nb := by simp [gst, upd_nb]
theorem gst_nt : (gst p m i n q).nt = m.nt := rfl
theorem gst_fresh (s : Nat) : (gst p m i n q).fresh s = gst p (m.fresh s) i n q := rfl
theorem gst_use (o : Own) : o.use (gst p m i n q) = gst p (o.use m) i n q := by cases o <;> rfl
theorem gst_free (o : Own) (s : Nat) : o.free (gst p m i n q) s = o.free m s := by cases o <;> rfl
theorem gst_alive (t s : Nat) : (gst p m i n q).alive t s = m.alive t s := rfl
theorem gst_get {k : Nat} : (gst p m i n q).get k = if k = p.gp ∧ p.gp < m.nb then some (p.gen n q) else if k = p.tp ∧ p.tp < m.nb then some (p.tape i) else m.get k := by
 unfold gst
 rw [M.get_upd, upd_nb, M.get_upd]
theorem gst_t (hT : p.tp < m.nb) (hN : p.tp ≠ p.gp) : (gst p m i n q).get p.tp = some (p.tape i) := by
 unfold gst
 rw [M.get_upd, if_neg (fun h => hN h.1), M.get_upd, if_pos ⟨rfl, hT⟩]
theorem gst_g (hG : p.gp < m.nb) : (gst p m i n q).get p.gp = some (p.gen n q) := by
 unfold gst
 rw [M.get_upd, if_pos ⟨rfl, by rw [upd_nb]; exact hG⟩]
theorem set_comm {α : Type} (l : List α) {a b : Nat} (h : a ≠ b) (x y : α) : (l.set a x).set b y = (l.set b y).set a x := by
 apply List.ext_getElem?
 intro k
 simp only [List.getElem?_set, List.length_set]
 by_cases h1 : b = k <;> by_cases h2 : a = k <;> simp_all
theorem gst_updt (hN : p.tp ≠ p.gp) (j : Nat) : (gst p m i n q).upd p.tp [PV.sl Own.no (List.map pU p.l), PV.v (Value.int IntKind.i64 (j : Int))] = gst p m j n q := by
 unfold gst M.upd
 congr 1
 simp only []
 rw [set_comm _ hN, List.set_set, set_comm _ hN]
 rfl
theorem gst_updg (n' q' : Int) : (gst p m i n q).upd p.gp [PV.bp p.tp 0, PV.v (Value.int IntKind.i64 n'), PV.v (Value.int IntKind.i64 q'), PV.v (Value.int IntKind.i64 p.subs), PV.v (Value.bool p.main)] = gst p m i n' q' := by
 unfold gst M.upd
 congr 1
 simp only []
 rw [List.set_set]
 rfl
theorem gst_ext (bs : List (Option (List PV))) (hT : p.tp < m.nb) (hG : p.gp < m.nb) : (gst p m i n q).ext bs = gst p (m.ext bs) i n q := by
 unfold gst
 rw [ext_updOld hT, ext_updOld (by rw [upd_nb]; exact hG)]
theorem gst_ext2 (bs cs : List (Option (List PV))) (hT : p.tp < m.nb) (hG : p.gp < m.nb) : (gst p (m.ext bs) i n q).ext cs = gst p (m.ext (bs ++ cs)) i n q := by
 rw [gst_ext cs (by rw [ext_nb]; omega) (by rw [ext_nb]; omega), ext_ext]
theorem gst_et (bs : List (Option (List PV))) (hT : p.tp < m.nb) (hN : p.tp ≠ p.gp) : (gst p (m.ext bs) i n q).get p.tp = some (p.tape i) := gst_t (by rw [ext_nb]; omega) hN
theorem gst_eg (bs : List (Option (List PV))) (hG : p.gp < m.nb) : (gst p (m.ext bs) i n q).get p.gp = some (p.gen n q) := gst_g (by rw [ext_nb]; omega)
theorem gst_own {bs : List (Option (List PV))} {k j : Nat} (h : m.nb = k) (hT : p.tp < m.nb) (hG : p.gp < m.nb) : (gst p (m.ext bs) i n q).get (k + j) = (bs[j]?).join := by
 rw [← ext_get (bs := bs) (i := j) h]
 unfold gst
 rw [M.get_upd, if_neg (fun h' => by have := h'.1; omega), M.get_upd, if_neg (fun h' => by have := h'.1; omega)]
theorem gst_own0 {bs : List (Option (List PV))} {k : Nat} (h : m.nb = k) (hT : p.tp < m.nb) (hG : p.gp < m.nb) : (gst p (m.ext bs) i n q).get k = (bs[0]?).join := gst_own (j := 0) h hT hG
theorem gst_ou {bs : List (Option (List PV))} {k j : Nat} {c : List PV} (h : m.nb = k) (hT : p.tp < m.nb) (hG : p.gp < m.nb) : (gst p (m.ext bs) i n q).upd (k + j) c = gst p (m.ext (bs.set j (some c))) i n q := by
 rw [← ext_upd (i := j) h]
 unfold gst M.upd
 congr 1
 simp only []
 rw [set_comm _ (show p.gp ≠ k + j by omega), set_comm _ (show p.tp ≠ k + j by omega)]
theorem gst_ou0 {bs : List (Option (List PV))} {k : Nat} {c : List PV} (h : m.nb = k) (hT : p.tp < m.nb) (hG : p.gp < m.nb) : (gst p (m.ext bs) i n q).upd k c = gst p (m.ext (bs.set 0 (some c))) i n q := gst_ou (j := 0) h hT hG
theorem GP.ok.ext (h : p.ok m) (bs : List (Option (List PV))) : p.ok (m.ext bs) := ⟨by rw [ext_nb]; have := h.tp; omega, by rw [ext_nb]; have := h.gp; omega, h.ne, h.len, h.el, h.sub⟩
theorem GP.ok.toks {mm : M} (h : p.ok m) (ht : Toks m mm) : p.ok mm := ⟨by rw [ht.nb]; exact h.tp, by rw [ht.nb]; exact h.gp, h.ne, h.len, h.el, h.sub⟩
end
theorem pure_within (n k : Nat) : ∀ x : PV, x.pure = true → x.within n k = true := by
 intro x
 induction x using PV.rec (motive_2 := fun l => PV.pures l = true → PV.withins n k l = true) with
 | v | junk | ep => intro _; rfl
 | sl o xs _ =>
  intro h
  simp only [PV.pure, beq_iff_eq] at h
  subst h
  rfl
 | ag xs ih => intro h; exact ih h
 | tp xs ih => intro h; exact ih h
 | bp | bs | gs => intro h; simp [PV.pure] at h
 | mp | it => intro h; simp [PV.pure] at h
 | fn f a b iha ihb =>
  intro h
  simp only [PV.pure, Bool.and_eq_true] at h
  simp only [PV.within, iha h.1, ihb h.2, Bool.and_self]
 | ifc t y ih => intro h; exact ih h
 | nil => rfl
 | cons y l h1 h2 =>
  rename_i h
  simp only [PV.pures, Bool.and_eq_true] at h
  simp only [PV.withins, h1 h.1, h2 h.2, Bool.and_self]
theorem gst_boxes {p : GP} {m mm : M} (h : mm.boxes = m.boxes) (i : Nat) (n q : Int) : (gst p mm i n q).boxes = (gst p m i n q).boxes := by
 unfold gst M.upd
 simp only [h]
theorem leave_gst {p : GP} {m mm : M} {bs : List (Option (List PV))} {i i' : Nat} {n q n' q' : Int} {v : PV} {R : PV → M → Prop} (hok : p.ok m) (ht : Toks m mm) (hv : v.settle.pure = true) (hR : R v.settle (gst p m i' n' q')) :
    ∃ v' m', Leave (gst p m i n q) (gst p (mm.ext bs) i' n' q') v v' m' ∧ R v' m' := by
 rw [← gst_ext bs (by rw [ht.nb]; exact hok.tp) (by rw [ht.nb]; exact hok.gp)]
 refine ⟨_, _, .gen v v.settle (gst p m i' n' q') (.inr rfl) (by rw [gst_nb, gst_nb]; exact Nat.le_refl _) (by rw [gst_nt, gst_nt]; exact Nat.le_refl _) ?_ ?_ (fun id c hc => ?_) (pure_within _ _ _ hv), hR⟩
 ·show ((gst p mm i' n' q').boxes ++ bs).take (gst p m i' n' q').boxes.length = _
  rw [gst_boxes ht.boxes]
  simp
 ·exact ht.toks
 ·unfold gst at hc
  rw [M.get_upd] at hc
  split at hc
  ·rename_i h
   cases hc
   refine .inr ?_
   have := hok.tp
   simp [GP.gen, PV.withins, PV.within, gst_nb, this]
  ·rename_i h1
   rw [M.get_upd] at hc
   split at hc
   ·cases hc
    exact .inr (by simp [GP.tape, PV.withins, PV.within])
   ·rename_i h2
    refine .inl ?_
    unfold gst
    rw [upd_nb] at h1
    rw [M.get_upd, if_neg (by rw [upd_nb]; exact h1), M.get_upd, if_neg h2]
    exact hc
theorem leave_gst0 {p : GP} {m mm : M} {i i' : Nat} {n q n' q' : Int} {v : PV} {R : PV → M → Prop} (hok : p.ok m) (ht : Toks m mm) (hv : v.settle.pure = true) (hR : R v.settle (gst p m i' n' q')) :
    ∃ v' m', Leave (gst p m i n q) (gst p mm i' n' q') v v' m' ∧ R v' m' := by
 have := leave_gst (bs := []) (i := i) (n := n) (q := q) (R := R) hok ht hv hR
 rwa [show mm.ext [] = mm by simp [M.ext]] at this
def isG (p : GP) (m m2 : M) : Prop := ∃ i n q, m2 = gst p m i n q
theorem isG_all {p : GP} {m : M} {Q : M → Prop} : (∀ m2, isG p m m2 → Q m2) = ∀ i n q, Q (gst p m i n q) := by
 refine propext ⟨fun h i n q => h _ ⟨i, n, q, rfl⟩, fun h m2 ⟨i, n, q, e⟩ => e ▸ h i n q⟩
def isG1 (p : GP) (m : M) (c : List PV) (m2 : M) : Prop := ∃ x r i n q, m2 = gst p (m.ext (x :: some c :: r)) i n q
theorem isG1_all {p : GP} {m : M} {c : List PV} {Q : M → Prop} : (∀ m2, isG1 p m c m2 → Q m2) = ∀ x r i n q, Q (gst p (m.ext (x :: some c :: r)) i n q) := by
 refine propext ⟨fun h x r i n q => h _ ⟨x, r, i, n, q, rfl⟩, fun h m2 ⟨x, r, i, n, q, e⟩ => e ▸ h x r i n q⟩
theorem gstep_gst {p : GP} {m : M} {bs : List (Option (List PV))} {i : Nat} {n q : Int} {f f' : F} (j : Nat) (x : PV) (hok : p.ok m) (hj : bs[j]? = some (some x.cells)) (hx : x.ok = true) (hf : ∀ t, f' t = f t ∨ f' t = (f t).frz (m.nb + j) [x] ∨ f' t = .junk) :
    GStep f (gst p (m.ext bs) i n q) f' (gst p (m.ext (bs.set j none)) i n q) := by
 have hT := hok.tp
 have hG := hok.gp
 refine .inr ⟨m.nb + j, [x], x.cells.length, _, ?_, .inl rfl, fun y hy => ?_, hf, rfl, ?_, fun k c hc => ?_⟩
 ·rw [gst_own rfl hT hG, hj]; simp
 ·obtain rfl : y = x := by simpa using hy
  exact ⟨rfl, hx⟩
 ·unfold gst M.upd M.ext; simp
 ·have hjl : j < bs.length := (List.getElem?_eq_some_iff.1 hj).1
  have key : ∀ bs' : List (Option (List PV)), bs'.length = bs.length → ∀ k, m.nb ≤ k → (gst p (m.ext bs') i n q).get k = (bs'[k - m.nb]?).join := fun bs' _ k hk => by
   have := gst_own (p := p) (m := m) (i := i) (n := n) (q := q) (bs := bs') (k := m.nb) (j := k - m.nb) rfl hT hG
   rwa [show m.nb + (k - m.nb) = k by omega] at this
  by_cases hk : m.nb ≤ k
  ·rw [key _ (by simp) k hk, List.getElem?_set] at hc
   by_cases hkj : j = k - m.nb
   ·rw [if_pos hkj, if_pos (by omega)] at hc; simp at hc
   ·rw [if_neg hkj] at hc
    exact ⟨by omega, .inl (by rw [key _ rfl k hk]; exact hc)⟩
  ·refine ⟨by omega, .inl ?_⟩
   rw [← hc]
   have old : ∀ bs' : List (Option (List PV)), (gst p (m.ext bs') i n q).get k = (gst p m i n q).get k := fun bs' => by
    have hm : (m.ext bs').get k = m.get k := by
     unfold M.get M.ext
     simp only []
     rw [List.getElem?_append_left (by unfold M.nb at hk; omega)]
    have hT' : p.tp < m.nb + bs'.length := by omega
    have hG' : p.gp < m.nb + bs'.length := by omega
    rw [gst_get, gst_get, hm, ext_nb]
    simp only [hT', hG', hT, hG, and_true]
   rw [old, old]
theorem frz_ne {i o id : Nat} {xs : List PV} (h : i ≠ id) : (PV.bp i o).frz id xs = .bp i o := by simp [PV.frz, h]
theorem frz_eq {id : Nat} {x : PV} : (PV.bp id 0).frz id [x] = .ep x.cells := by simp [PV.frz]
theorem aRegF {P : Program} {mu : List Nat} {Z : PV → M → Prop} {K : Exit → F → M → Prop} {f : F} {p : GP} {m : M} {bs : List (Option (List PV))} {i : Nat} {n q : Int} {id : Nat} {l : List Oper} (j : Nat) (x : PV) (hok : p.ok m) (hj : bs[j]? = some (some x.cells)) (hx : x.ok = true)
    (h : ∀ f', (∀ t, f' t = (f t).frz (m.nb + j) [x]) → aOps P mu Z l.toArray l (K .normal) f' (gst p (m.ext (bs.set j none)) i n q)) : aCode P mu Z (.region id l.toArray false) K f (gst p (m.ext bs) i n q) :=
 aRegG (gstep_gst j x hok hj hx (fun t => .inr (.inl rfl))) (h _ (fun t => rfl))

open Nat renaming reduceEqDiff → jA, reduceAdd → jB, reduceMul → jC, reduceLT → jD, reduceLeDiff → jE, reduceBEq → jF, reduceBNe → jG
open Int renaming reduceLE → jH, reduceLT → jI, reduceToNat → jJ, reduceEq → jK
set_option linter.defProp false
def tfAbMk1 := And.intro @td_3 (And.intro @zv_3 (And.intro @Tryz.underlying3 (And.intro @td_4 (And.intro @zv_4 (And.intro @Tryz.underlying4 (And.intro @td_5 (And.intro @zv_5 (And.intro @Tryz.underlying5 (And.intro @td_9 (And.intro @zv_9 (And.intro @Tryz.underlying9 (And.intro @td_21 (And.intro @zv_21 (And.intro @Tryz.underlying21 (And.intro @td_22 (And.intro @zv_22 (And.intro @tel_22 (And.intro @Tryz.underlying22 (And.intro @td_43 (And.intro @zv_43 (And.intro @tel_43 (And.intro @Tryz.underlying43 (And.intro @td_46 (And.intro @zv_46 (And.intro @tf_46 (And.intro @td_51 (And.intro @zv_51 (And.intro @tf_51 (And.intro @fl_51 (And.intro @td_106 (And.intro @zv_106 (And.intro @tf_106 (And.intro @nk_71 (And.intro @td_71 (And.intro @zv_71 (And.intro @Tryz.underlying71 (And.intro @td_73 (And.intro @zv_73 (And.intro @tf_73 (And.intro @nk_75 (And.intro @td_75 (And.intro @zv_75 (And.intro @Tryz.underlying75 (And.intro @td_77 (And.intro @zv_77 (And.intro @tf_77 (And.intro @Ex.settle_pv (And.intro @Ex.pure_pv (And.intro @Ex.cells_pv (And.intro @Ex.cs.eq_1 (And.intro @On.pv.eq_1 (And.intro @Ty.pv.eq_1 (And.intro @Va.settle_pv (And.intro @Va.pure_pv (And.intro @Va.cells_pv (And.intro @Va.cs.eq_1 (And.intro @gst_nb (And.intro @gst_nt (And.intro @gst_fresh (And.intro @gst_use (And.intro @gst_free (And.intro @gst_alive (And.intro @gst_t (And.intro @gst_g (And.intro @gst_updt (And.intro @gst_updg (And.intro @gst_ext (And.intro @gst_ext2 (And.intro @gst_et (And.intro @gst_eg (And.intro @gst_own (And.intro @gst_own0 (And.intro @gst_ou (And.intro @gst_ou0 (And.intro @GP.tape.eq_1 @GP.gen.eq_1)))))))))))))))))))))))))))))))))))))))))))))))))))))))))))))))))))))))))))

set_option maxRecDepth 20000 in
set_option maxHeartbeats 1000000 in
theorem next_any (p : GP) (m : M) (hok : p.ok m) (k : Int) (hk : 0 < k) (i : Nat) (n q : Int) : ACalls Tryz.prog 18 [.bp p.tp 0, pI k] (gst p m i n q) (fun v m' => ∃ (r : Int) (i' : Nat), v = pI r ∧ (0 ≤ r ∧ r < k) ∧ m' = gst p m i' n q) := by
 have hT := hok.tp
 have hN := hok.ne
 refine eN [] Tryz.func18 ?_
 cases c1 : decide ((i : Int) ≥ (p.l.length : Int)) with
 | true =>
  (repeat revert X); refine wD (And.intro tfAbMk1 (And.intro hT (And.intro hN c1))) ?_; repeat intro X hX
  refine wR Tryz.results18 ?_
  exact leave_gst0 hok (.refl m) rfl ⟨0, i, rfl, ⟨Int.le_refl _, hk⟩, rfl⟩
 | false =>
  have hlt : i < p.l.length := by simp at c1; omega
  have hl := hok.len
  have hi : IntKind.i64.wrap ((i : Int) + 1) = ((i + 1 : Nat) : Int) := by rw [wrap64 (by omega)]; omega
  have hj : IntKind.i64.wrap (((i + 1 : Nat) : Int) - 1) = (i : Int) := by rw [wrap64 (by omega)]; omega
  have g0 := getD_map pU p.l i hlt
  have he := hok.el _ (List.getElem_mem hlt)
  have hw : IntKind.i64.wrap p.l[i] = p.l[i] := wrap64 (by omega)
  have hk0 : ¬ k = 0 := by omega
  (repeat (first | refine aSeq fun X hX => ?_ | refine aSkip ?_ | refine aRet ?_ | (first | apply aReg | refine aDrE ?_ | apply aIf); simp -implicitDefEqProofs only [↓slp, slb, ↓reduceIte, reduceCtorEq, jA, jB, jE, tfAbMk1, hT, hN, c1, hi, hj, g0, hw, hk0] | apply hX; clear hX X | apply And.intro; focus omega))
  simp only [aPost, Tryz.results18, aRes_n, aRes_t, aRes_c, pack_one, pack_two]
  exact leave_gst0 hok (.refl m) rfl ⟨_, i + 1, rfl, ⟨Int.tmod_nonneg _ he.1, Int.tmod_lt_of_pos _ hk⟩, rfl⟩

def digS (n : Nat) : Str := if h : n < 10 then strOf [((48 + n : Nat) : Int)] else digS (n / 10) ++ strOf [((48 + n % 10 : Nat) : Int)]
termination_by n
decreasing_by omega
theorem digS_size (n : Nat) : (digS n).size ≤ n + 1 := by
 induction n using Nat.strongRecOn with
 | ind n ih =>
  unfold digS
  split
  ·exact Nat.le_trans (Nat.le_of_eq rfl) (Nat.le_add_left 1 n)
  ·have := ih (n / 10) (by omega)
   rw [ByteArray.size_append]
   have h1 : (strOf [((48 + n % 10 : Nat) : Int)]).size = 1 := rfl
   omega
set_option maxRecDepth 20000 in
set_option maxHeartbeats 1000000 in
theorem digits_any (n : Nat) : ∀ (m : M), n < 2 ^ 60 → ACalls Tryz.prog 37 [pI n] m (fun v m' => v = pS (digS n) ∧ m' = m) := by
 induction n using Nat.strongRecOn with
 | ind n ih =>
 intro m hn
 refine eN [] Tryz.func37 ?_
 cases c1 : decide ((n : Int) < 10) with
 | true =>
  have hlt : n < 10 := by simp at c1; omega
  have h1 : IntKind.i64.wrap (48 + (n : Int)) = ((48 + n : Nat) : Int) := by rw [wrap64 (by omega)]; omega
  have h2 : IntKind.u8.wrap ((48 + n : Nat) : Int) = ((48 + n : Nat) : Int) := IntWalk.u8_in _ (by omega)
  have hd : digS n = strOf [((48 + n : Nat) : Int)] := by unfold digS; rw [dif_pos hlt]
  (repeat revert X); refine wD (And.intro tfAbMk1 (And.intro c1 (And.intro h1 h2))) ?_; repeat intro X hX
  refine wR Tryz.results37 ?_
  exact leave_same rfl ⟨by rw [hd]; rfl, rfl⟩
 | false =>
  have hge : ¬ n < 10 := by simp at c1; omega
  have h0 : IntKind.i64.wrap ((n : Int).tdiv 10) = ((n / 10 : Nat) : Int) := by
   rw [Int.tdiv_eq_ediv_of_nonneg (by omega), wrap64 (by omega)]; omega
  have hr : ((n : Int).tmod 10) = ((n % 10 : Nat) : Int) := by
   rw [Int.tmod_eq_emod_of_nonneg (by omega)]; omega
  have h1 : IntKind.i64.wrap (48 + ((n % 10 : Nat) : Int)) = ((48 + n % 10 : Nat) : Int) := by rw [wrap64 (by omega)]; omega
  have h2 : IntKind.u8.wrap ((48 + n % 10 : Nat) : Int) = ((48 + n % 10 : Nat) : Int) := IntWalk.u8_in _ (by omega)
  have hd : digS n = digS (n / 10) ++ strOf [((48 + n % 10 : Nat) : Int)] := by rw [digS, dif_neg hge]
  have hs := digS_size (n / 10)
  have hs1 : (strOf [((48 + n % 10 : Nat) : Int)]).size = 1 := rfl
  (repeat revert X); refine wD (And.intro c1 h0) ?_; repeat intro X hX
  refine callE (ih (n / 10) (by omega) _ (by omega)) ?_
  refine ⟨rfl, ?_⟩
  refine wS (And.intro tfAbMk1 (And.intro hr (And.intro h1 h2))) ?_
  (repeat ((apply And.intro; (focus omega))))
  (repeat revert X); refine wD aEQ_t ?_; repeat intro X hX
  refine wR Tryz.results37 ?_
  exact leave_same rfl ⟨by rw [hd]; rfl, rfl⟩

def nameS (c : Str) (k : Nat) : Str := c ++ digS k
set_option maxRecDepth 20000 in
set_option maxHeartbeats 1000000 in
theorem name_any (p : GP) (m : M) (hok : p.ok m) (c : Str) (hc : c.size ≤ 100) (i : Nat) (n : Nat) (q : Int) (hn : n + 1 < 2 ^ 60) : ACalls Tryz.prog 74 [.bp p.gp 0, pS c] (gst p m i n q) (fun v m' => v = pS (nameS c (n + 1)) ∧ m' = gst p m i ((n + 1 : Nat) : Int) q) := by
 have hG := hok.gp
 have hi : IntKind.i64.wrap ((n : Int) + 1) = ((n + 1 : Nat) : Int) := by rw [wrap64 (by omega)]; omega
 have hs := digS_size (n + 1)
 refine eN [] Tryz.func74 ?_
 (repeat revert X); refine wD (And.intro tfAbMk1 (And.intro hG (And.intro hi @pS.eq_1))) ?_; repeat intro X hX
 refine callE (digits_any (n + 1) _ hn) ?_
 refine wS @pS.eq_1 ?_
 (repeat ((apply And.intro; (focus omega))))
 (repeat revert X); refine wD aEQ_t ?_; repeat intro X hX
 refine wR Tryz.results74 ?_
 exact leave_gst0 hok (.refl m) rfl ⟨rfl, rfl⟩

def tyI : Ty := ⟨2, ⟨#[]⟩⟩
def tyB : Ty := ⟨1, ⟨#[]⟩⟩
def tyC : Ty := ⟨3, ⟨#[99, 111, 108]⟩⟩
set_option maxRecDepth 20000 in
set_option maxHeartbeats 400000 in
theorem tyI_any (m : M) : ACalls Tryz.prog 38 [] m (fun v m' => v = tyI.pv ∧ m' = m) := by
 refine eN [0] Tryz.func38 ?_
 (repeat revert X); refine wD tfAbMk1 ?_; repeat intro X hX
 refine wQ Tryz.results38 tfAbMk1 ?_
 exact leave_ext rfl ⟨rfl, rfl⟩
set_option maxRecDepth 20000 in
set_option maxHeartbeats 400000 in
theorem tyB_any (m : M) : ACalls Tryz.prog 39 [] m (fun v m' => v = tyB.pv ∧ m' = m) := by
 refine eN [0] Tryz.func39 ?_
 (repeat revert X); refine wD tfAbMk1 ?_; repeat intro X hX
 refine wQ Tryz.results39 tfAbMk1 ?_
 exact leave_ext rfl ⟨rfl, rfl⟩
set_option maxRecDepth 20000 in
set_option maxHeartbeats 400000 in
theorem tyC_any (m : M) : ACalls Tryz.prog 40 [] m (fun v m' => v = tyC.pv ∧ m' = m) := by
 refine eN [0] Tryz.func40 ?_
 (repeat revert X); refine wD tfAbMk1 ?_; repeat intro X hX
 refine wQ Tryz.results40 tfAbMk1 ?_
 exact leave_ext rfl ⟨rfl, rfl⟩
def isTy (t : Ty) : Prop := t = tyI ∨ t = tyB ∨ t = tyC
set_option maxRecDepth 20000 in
set_option maxHeartbeats 1000000 in
theorem typ_any (p : GP) (m : M) (hok : p.ok m) (i : Nat) (n q : Int) : ACalls Tryz.prog 75 [.bp p.gp 0] (gst p m i n q) (fun v m' => ∃ t i', v = Ty.pv t ∧ isTy t ∧ m' = gst p m i' n q) := by
 have hG := hok.gp
 refine eN [2] Tryz.func75 ?_
 have hT := hok.tp
 (repeat revert X); refine wD (And.intro tfAbMk1 (And.intro hT hG)) ?_; repeat intro X hX
 refine callM (next_any p _ (hok.ext _) 4 (by omega) i n q) ?_
 rintro v m' ⟨r, i', rfl, ⟨hr0, hr1⟩, rfl⟩
 refine wS tfAbMk1 ?_
 have cas : r = 0 ∨ r = 1 ∨ r = 2 ∨ r = 3 := by omega
 have e1 : ((1 : Int) == 0) = false := rfl
 have e2 : ((2 : Int) == 0) = false := rfl
 have e3 : ((2 : Int) == 1) = false := rfl
 have e4 : ((3 : Int) == 0) = false := rfl
 have e5 : ((3 : Int) == 1) = false := rfl
 have e6 : ((3 : Int) == 2) = false := rfl
 rcases cas with rfl | rfl | rfl | rfl
 ·((repeat revert X); refine wD tfAbMk1 ?_; repeat intro X hX)
  refine callE (tyI_any _) ?_
  refine wS (And.intro tfAbMk1 (And.intro hT hG)) ?_
  (repeat revert X); refine wD aEQ_t ?_; repeat intro X hX
  refine wQ Tryz.results75 (And.intro tfAbMk1 (And.intro hT hG)) ?_
  exact leave_gst hok (.refl m) rfl ⟨tyI, i', rfl, .inl rfl, rfl⟩
 ·((repeat revert X); refine wD (And.intro tfAbMk1 e1) ?_; repeat intro X hX)
  refine callE (tyI_any _) ?_
  refine wS (And.intro tfAbMk1 (And.intro hT hG)) ?_
  (repeat revert X); refine wD aEQ_t ?_; repeat intro X hX
  refine wQ Tryz.results75 (And.intro tfAbMk1 (And.intro hT hG)) ?_
  exact leave_gst hok (.refl m) rfl ⟨tyI, i', rfl, .inl rfl, rfl⟩
 ·((repeat revert X); refine wD (And.intro tfAbMk1 (And.intro e2 e3)) ?_; repeat intro X hX)
  refine callE (tyB_any _) ?_
  refine wS (And.intro tfAbMk1 (And.intro hT hG)) ?_
  (repeat revert X); refine wD aEQ_t ?_; repeat intro X hX
  refine wQ Tryz.results75 (And.intro tfAbMk1 (And.intro hT hG)) ?_
  exact leave_gst hok (.refl m) rfl ⟨tyB, i', rfl, .inr (.inl rfl), rfl⟩
 ·((repeat revert X); refine wD (And.intro tfAbMk1 (And.intro e4 (And.intro e5 e6))) ?_; repeat intro X hX)
  refine callE (tyC_any _) ?_
  refine wS (And.intro tfAbMk1 (And.intro hT hG)) ?_
  (repeat revert X); refine wD aEQ_t ?_; repeat intro X hX
  refine wQ Tryz.results75 (And.intro tfAbMk1 (And.intro hT hG)) ?_
  exact leave_gst hok (.refl m) rfl ⟨tyC, i', rfl, .inr (.inr rfl), rfl⟩

def tfAbMk2 := And.intro @td_3 (And.intro @zv_3 (And.intro @Tryz.underlying3 (And.intro @td_4 (And.intro @zv_4 (And.intro @Tryz.underlying4 (And.intro @td_5 (And.intro @zv_5 (And.intro @Tryz.underlying5 (And.intro @td_9 (And.intro @zv_9 (And.intro @Tryz.underlying9 (And.intro @td_21 (And.intro @zv_21 (And.intro @Tryz.underlying21 (And.intro @td_22 (And.intro @zv_22 (And.intro @tel_22 (And.intro @Tryz.underlying22 (And.intro @td_44 (And.intro @zv_44 (And.intro @tel_44 (And.intro @Tryz.underlying44 (And.intro @td_35 (And.intro @zv_35 (And.intro @tel_35 (And.intro @Tryz.underlying35 (And.intro @td_43 (And.intro @zv_43 (And.intro @tel_43 (And.intro @Tryz.underlying43 (And.intro @td_46 (And.intro @zv_46 (And.intro @tf_46 (And.intro @td_51 (And.intro @zv_51 (And.intro @tf_51 (And.intro @fl_51 (And.intro @td_104 (And.intro @zv_104 (And.intro @tel_104 (And.intro @Tryz.underlying104 (And.intro @td_106 (And.intro @zv_106 (And.intro @tf_106 (And.intro @nk_71 (And.intro @td_71 (And.intro @zv_71 (And.intro @Tryz.underlying71 (And.intro @td_73 (And.intro @zv_73 (And.intro @tf_73 (And.intro @nk_75 (And.intro @td_75 (And.intro @zv_75 (And.intro @Tryz.underlying75 (And.intro @td_77 (And.intro @zv_77 (And.intro @tf_77 (And.intro @td_161 (And.intro @zv_161 (And.intro @tel_161 (And.intro @Tryz.underlying161 (And.intro @Ex.settle_pv (And.intro @Ex.pure_pv (And.intro @Ex.cells_pv (And.intro @Ex.cs.eq_1 (And.intro @On.pv.eq_1 (And.intro @Ty.pv.eq_1 (And.intro @Va.settle_pv (And.intro @Va.pure_pv (And.intro @Va.cells_pv (And.intro @Va.cs.eq_1 (And.intro @gst_nb (And.intro @gst_nt (And.intro @gst_fresh (And.intro @gst_use (And.intro @gst_free (And.intro @gst_alive (And.intro @gst_t (And.intro @gst_g (And.intro @gst_updt (And.intro @gst_updg (And.intro @gst_ext (And.intro @gst_ext2 (And.intro @gst_et (And.intro @gst_eg (And.intro @gst_own (And.intro @gst_own0 (And.intro @gst_ou (And.intro @gst_ou0 (And.intro @GP.tape.eq_1 @GP.gen.eq_1)))))))))))))))))))))))))))))))))))))))))))))))))))))))))))))))))))))))))))))))))))))))))))

abbrev sE : Str := ⟨#[]⟩
abbrev sRed : Str := ⟨#[82, 101, 100]⟩
abbrev sGreen : Str := ⟨#[71, 114, 101, 101, 110]⟩
abbrev sBlue : Str := ⟨#[66, 108, 117, 101]⟩
def Ex.sc (k o n : Int) (s : Str) : Ex := .mk k o n s [] [] 0 0
theorem Ex.sc_lit (k o n : Int) (s : Str) : PV.ag [PV.v (Value.int IntKind.u8 k), PV.v (Value.int IntKind.u8 o), PV.v (Value.int IntKind.i32 n), PV.v (Value.string s), PV.sl Own.no [], PV.sl Own.no [], PV.v (Value.int IntKind.i64 0), PV.v (Value.int IntKind.i64 0)] = (Ex.sc k o n s).pv := by
 rw [Ex.pv_eq]; rfl
def isConst (t : Ty) (e : Ex) : Prop :=
 (t = tyB ∧ ∃ k, (0 ≤ k ∧ k < 2) ∧ e = Ex.sc 2 0 k sE) ∨ (t = tyI ∧ ∃ k ∈ ([0, 1, 2, -1, 7, -2147483648] : List Int), e = Ex.sc 1 0 k sE) ∨ (t = tyC ∧ ∃ c ∈ [sRed, sGreen, sBlue], e = Ex.sc 3 0 0 c)
theorem pick6 (r : Int) (h0 : 0 ≤ r) (h1 : r < 6) : ∃ x, x ∈ ([0, 1, 2, -1, 7, -2147483648] : List Int) ∧ [PV.v (Value.int IntKind.i32 0), PV.v (Value.int IntKind.i32 1), PV.v (Value.int IntKind.i32 2), PV.v (Value.int IntKind.i32 (-1)), PV.v (Value.int IntKind.i32 7), PV.v (Value.int IntKind.i32 (-2147483648))].getD r.toNat PV.junk = .v (.int .i32 x) := by
 have cas : r = 0 ∨ r = 1 ∨ r = 2 ∨ r = 3 ∨ r = 4 ∨ r = 5 := by omega
 rcases cas with rfl | rfl | rfl | rfl | rfl | rfl
 ·exact ⟨0, by simp, rfl⟩
 ·exact ⟨1, by simp, rfl⟩
 ·exact ⟨2, by simp, rfl⟩
 ·exact ⟨-1, by simp, rfl⟩
 ·exact ⟨7, by simp, rfl⟩
 ·exact ⟨-2147483648, by simp, rfl⟩
theorem pick3 (r : Int) (h0 : 0 ≤ r) (h1 : r < 3) : ∃ x, x ∈ [sRed, sGreen, sBlue] ∧ [PV.v (Value.string sRed), PV.v (Value.string sGreen), PV.v (Value.string sBlue)].getD r.toNat PV.junk = .v (.string x) := by
 have cas : r = 0 ∨ r = 1 ∨ r = 2 := by omega
 rcases cas with rfl | rfl | rfl
 ·exact ⟨sRed, by simp, rfl⟩
 ·exact ⟨sGreen, by simp, rfl⟩
 ·exact ⟨sBlue, by simp, rfl⟩

set_option maxRecDepth 20000 in
set_option maxHeartbeats 1000000 in
theorem constant_any (p : GP) (m : M) (hok : p.ok m) (t : Ty) (ht : isTy t) (i : Nat) (n q : Int) : ACalls Tryz.prog 41 [.bp p.gp 0, t.pv] (gst p m i n q) (fun v m' => ∃ e i', v = Ex.pv e ∧ isConst t e ∧ m' = gst p m i' n q) := by
 have hG := hok.gp
 have hT := hok.tp
 refine eN [4] Tryz.func41 ?_
 (repeat revert X); refine wD (And.intro tfAbMk2 (And.intro hT hG)) ?_; repeat intro X hX
 refine callM (next_any p _ (hok.ext _) 6 (by omega) i n q) ?_
 rintro v m' ⟨r, i', rfl, ⟨hr0, hr1⟩, rfl⟩
 refine wS aEQ_t ?_
 rcases ht with rfl | rfl | rfl
 ·obtain ⟨x, hx, hg⟩ := pick6 r hr0 hr1
  have e1 : (tyI.kind == 1) = false := rfl
  have e2 : (tyI.kind == 2) = true := rfl
  have hr2 : r.toNat < 6 := by omega
  (repeat (first | refine aSeq fun X hX => ?_ | refine aRet ?_; try simp only [slx, ↓reduceIte, jA, reduceCtorEq] | (first | apply aReg | apply aIf); simp -implicitDefEqProofs only [↓slp, slb, ↓reduceIte, reduceCtorEq, jA, jE, jF, tfAbMk2, hT, hG, e1, e2, hg] | apply hX; clear hX X | apply And.intro; focus omega))
  simp only [aPost, Tryz.results41, aRes_n, aRes_t, aRes_c, pack_one, pack_two]
  simp -implicitDefEqProofs only [slb, ↓reduceIte, jA, jE, tfAbMk2, hT, hG]
  refine leave_gst hok (.refl m) rfl ⟨Ex.sc 1 0 x sE, i', ?_, .inr (.inl ⟨rfl, x, hx, rfl⟩), rfl⟩
  rw [← Ex.sc_lit]; rfl
 ·have e1 : (tyB.kind == 1) = true := rfl
  have hm0 := Int.tmod_nonneg 2 hr0
  have hm1 := Int.tmod_lt_of_pos r (show (0 : Int) < 2 by omega)
  have hw : IntKind.i32.wrap (r.tmod 2) = r.tmod 2 := IntWalk.i32_in _ (by omega)
  (repeat revert X); refine wD (And.intro tfAbMk2 (And.intro hT (And.intro hG (And.intro e1 hw)))) ?_; repeat intro X hX
  refine wQ Tryz.results41 (And.intro tfAbMk2 (And.intro hT hG)) ?_
  refine leave_gst hok (.refl m) rfl ⟨Ex.sc 2 0 (r.tmod 2) sE, i', ?_, .inl ⟨rfl, _, ⟨hm0, hm1⟩, rfl⟩, rfl⟩
  rw [← Ex.sc_lit]; rfl
 ·have e1 : (tyC.kind == 1) = false := rfl
  have e2 : (tyC.kind == 2) = false := rfl
  have hm0 := Int.tmod_nonneg 3 hr0
  have hm1 := Int.tmod_lt_of_pos r (show (0 : Int) < 3 by omega)
  obtain ⟨x, hx, hg⟩ := pick3 (r.tmod 3) hm0 hm1
  have hr2 : (r.tmod 3).toNat < 3 := by omega
  (repeat (first | refine aSeq fun X hX => ?_ | refine aSkip ?_ | refine aRet ?_ | (first | apply aReg | apply aIf); simp -implicitDefEqProofs only [↓slp, slb, ↓reduceIte, reduceCtorEq, jA, jE, jF, tfAbMk2, hT, hG, e1, e2, hg] | apply hX; clear hX X | apply And.intro; focus omega))
  simp only [aPost, Tryz.results41, aRes_n, aRes_t, aRes_c, pack_one, pack_two]
  simp -implicitDefEqProofs only [slb, ↓reduceIte, jA, jE, tfAbMk2, hT, hG]
  refine leave_gst hok (.refl m) rfl ⟨Ex.sc 3 0 0 x, i', ?_, .inr (.inr ⟨rfl, x, hx, rfl⟩), rfl⟩
  rw [← Ex.sc_lit]; rfl

def Ex.two (k o : Int) (a b : Ex) : Ex := .mk k o 0 sE [] [a, b] 0 0
set_option maxRecDepth 20000 in
set_option maxHeartbeats 400000 in
theorem two_any (k o : Int) (a b : Ex) (m : M) : ACalls Tryz.prog 106 [.v (.int .u8 k), .v (.int .u8 o), a.pv, b.pv] m (fun v m' => v = (Ex.two k o a b).pv ∧ m' = m) := by
 refine eN [8] Tryz.func106 ?_
 (repeat revert X); refine wD tfAbMk2 ?_; repeat intro X hX
 refine wQ Tryz.results106 tfAbMk2 ?_
 refine leave_ext (by simp [PV.settle, PV.settles, PV.pure, PV.pures, Ex.settle_pv, Ex.pure_pv]) ⟨?_, rfl⟩
 rw [Ex.pv_eq (Ex.two k o a b)]
 simp only [PV.settle, PV.settles, Ex.settle_pv, Ex.two, Ex.cs, Ex.kind, Ex.op, Ex.n, Ex.name, Ex.names, Ex.kids, Ex.line, Ex.col, List.map_cons, List.map_nil]

def tfAbMk3 := tfAbMk2

def isVar (l : List Va) (t : Ty) (s : Str) : Prop := ∃ v ∈ l, v.t = t ∧ v.clock = [] ∧ v.name = s
set_option maxRecDepth 20000 in
set_option maxHeartbeats 1000000 in
theorem pick_any (p : GP) (m : M) (hok : p.ok m) (o : Own) (l : List Va) (hl : l.length < 2 ^ 40) (t : Ty) (i : Nat) (n q : Int) : ACalls Tryz.prog 107 [.bp p.gp 0, .sl o (l.map Va.pv), t.pv] (gst p m i n q) (fun v m' => ∃ s b i', v = .tp [pS s, pB b] ∧ (b = true → isVar l t s) ∧ m' = gst p m i' n q) := by
 have hG := hok.gp
 have hT := hok.tp
 refine eN [] Tryz.func107 ?_
 (repeat revert X); refine wD (And.intro tfAbMk3 hG) ?_; repeat intro X hX
 refine callM (next_any p _ hok 7 (by omega) i n q) ?_
 rintro v m' ⟨r, i', rfl, ⟨hr0, hr1⟩, rfl⟩
 refine wS aEQ_t ?_
 (repeat revert X); refine wD aEQ_t ?_; repeat intro X hX
 obtain ⟨I, hI⟩ : ∃ I : F → M → Prop, ∀ f m', I f m' = (∃ k : Nat, k ≤ l.length ∧ f 1 = .sl o (l.map Va.pv) ∧ f 5 = .ep [.v (.int .u8 t.kind), .v (.string t.name)] ∧ f 8 = pI r ∧ f 9 = pI k ∧ m' = gst p m i' n q) := ⟨_, fun _ _ => rfl⟩
 refine aLoop I (fun f m => l.length - numOf (f 9)) ?_ ?_
 ·rw [hI]; exact ⟨0, by omega, rfl, rfl, rfl, rfl, rfl⟩
 intro f m' hrel
 rw [hI] at hrel
 obtain ⟨k, hk, h1, h5, h8, h9, rfl⟩ := hrel
 (repeat revert X); refine wW (And.intro tfAbMk3 (And.intro h1 (And.intro h9 @pI.eq_1))) ?_; repeat intro X hX
 refine aIf ?_; simp -implicitDefEqProofs only [slb, ↓reduceIte]; refine ⟨fun hb => ?_, fun hb => ?_⟩
 ·have hlt : k < l.length := by simpa using hb
  have hi : IntKind.i64.wrap ((k : Int) + 1) = ((k + 1 : Nat) : Int) := by rw [wrap64 (by omega)]; omega
  have hw : IntKind.i64.wrap ((k : Int) + r) = (k : Int) + r := wrap64 (by omega)
  have hz : ¬ (l.length : Int) = 0 := by omega
  obtain ⟨j, hj⟩ : ∃ j : Nat, ((k : Int) + r).tmod (l.length : Int) = (j : Int) := ⟨(((k : Int) + r).tmod (l.length : Int)).toNat, (Int.toNat_of_nonneg (Int.tmod_nonneg _ (by omega))).symm⟩
  have hjl : j < l.length := by
   have := Int.tmod_lt_of_pos ((k : Int) + r) (show (0 : Int) < (l.length : Int) by omega)
   omega
  have g0 := getD_map Va.pv l j hjl
  cases c1 : (l[j].t.kind == t.kind && l[j].t.name.toList == t.name.toList) with
  | false =>
   (repeat (first | refine aSeq fun X hX => ?_ | refine aSkip ?_ | (first | apply aReg | apply aIf); simp -implicitDefEqProofs only [↓slp, slb, ↓reduceIte, reduceCtorEq, jA, jE, jF, tfAbMk3, h1, h5, h8, h9, pI, hw, hz, hj, g0, hi, c1] | apply hX; clear hX X | intro hlen; unfold maxLen at hlen | apply And.intro; focus omega))
   rw [hI]
   exact ⟨⟨k + 1, hlt, h1, h5, h8, rfl, rfl⟩, by omega⟩
  | true =>
  have hty : l[j].t = t := Ty.ext' c1
  cases c2 : ((l[j].clock.length : Int) == 0) with
  | false =>
   (repeat (first | refine aSeq fun X hX => ?_ | refine aSkip ?_ | (first | apply aReg | apply aIf); simp -implicitDefEqProofs only [↓slp, slb, ↓reduceIte, reduceCtorEq, jA, jE, jF, tfAbMk3, h1, h5, h8, h9, pI, hw, hz, hj, g0, hi, c1, c2] | apply hX; clear hX X | intro hlen; unfold maxLen at hlen | apply And.intro; focus omega))
   rw [hI]
   exact ⟨⟨k + 1, hlt, h1, h5, h8, rfl, rfl⟩, by omega⟩
  | true =>
   have hcl : l[j].clock = [] := List.eq_nil_of_length_eq_zero (by simp at c2; simp [c2])
   (repeat (first | refine aSeq fun X hX => ?_ | refine aSkip ?_ | refine aRet ?_; try simp only [slx, ↓reduceIte, jA, reduceCtorEq] | (first | apply aReg | apply aIf); simp -implicitDefEqProofs only [↓slp, slb, ↓reduceIte, reduceCtorEq, jA, jE, jF, tfAbMk3, h1, h5, h8, h9, pI, hw, hz, hj, g0, c1, c2] | apply hX; clear hX X | intro hlen; unfold maxLen at hlen | apply And.intro; focus omega))
   simp only [aPost, Tryz.results107, aRes_n, aRes_t, aRes_c, pack_one, pack_two]
   exact leave_gst0 hok (.refl m) rfl ⟨l[j].name, true, i', rfl, fun _ => ⟨_, List.getElem_mem hjl, hty, hcl, rfl⟩, rfl⟩
 ·((repeat revert X); refine wD aEQ_t ?_; repeat intro X hX)
  refine wR Tryz.results107 ?_
  exact leave_gst0 hok (.refl m) rfl ⟨sE, false, i', rfl, (fun h => by cases h), rfl⟩

def isVC (l : List Va) (t : Ty) (e : Ex) : Prop := (∃ s, isVar l t s ∧ e = Ex.sc 4 0 0 s) ∨ isConst t e
set_option maxRecDepth 20000 in
set_option maxHeartbeats 1000000 in
theorem variable_any (p : GP) (m : M) (hok : p.ok m) (o : Own) (l : List Va) (hl : l.length < 2 ^ 40) (t : Ty) (ht : isTy t) (i : Nat) (n q : Int) : ACalls Tryz.prog 105 [.bp p.gp 0, .sl o (l.map Va.pv), t.pv] (gst p m i n q) (fun v m' => ∃ e i', v = Ex.pv e ∧ isVC l t e ∧ m' = gst p m i' n q) := by
 have hG := hok.gp
 have hT := hok.tp
 refine eN [6] Tryz.func105 ?_
 (repeat revert X); refine wD (And.intro tfAbMk3 (And.intro hT hG)) ?_; repeat intro X hX
 refine callM (pick_any p _ (hok.ext _) o l hl t i n q) ?_
 rintro v m' ⟨s, b, i', rfl, hb, rfl⟩
 cases b with
 | true =>
  refine wS aEQ_t ?_
  (repeat revert X); refine wD (And.intro tfAbMk3 (And.intro hT hG)) ?_; repeat intro X hX
  refine wQ Tryz.results105 (And.intro tfAbMk3 (And.intro hT hG)) ?_
  refine leave_gst hok (.refl m) rfl ⟨Ex.sc 4 0 0 s, i', ?_, .inl ⟨s, hb rfl, rfl⟩, rfl⟩
  rw [← Ex.sc_lit]; rfl
 | false =>
  refine wS aEQ_t ?_
  (repeat revert X); refine wD tfAbMk3 ?_; repeat intro X hX
  refine callM (constant_any p _ (hok.ext _) t ht i' n q) ?_
  rintro v m' ⟨e, i2, rfl, he, rfl⟩
  refine wS (And.intro tfAbMk3 (And.intro hT hG)) ?_
  (repeat revert X); refine wD aEQ_t ?_; repeat intro X hX
  refine wQ Tryz.results105 (And.intro tfAbMk3 (And.intro hT hG)) ?_
  exact leave_gst hok (.refl m) (by simp only [Ex.settle_pv, Ex.pure_pv]) ⟨e, i2, by simp only [Ex.settle_pv], .inr he, rfl⟩
end Go.Proofs.YthhhnfjcaicjnaaGreatDoor
