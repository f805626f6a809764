/-
 Texts that belong together: Pp11, Pp12.
-/
-- halved
import Derived.Test.YtohgdopfjkjppaaGreatDoorAbMac
import Derived.Test.YtohgdopfjkjppaaGreatDoorPp10
import Derived.Test.YtohgdopfjkjppaaGreatDoorRE
import Derived.Test.YtohgdopfjkjppaaGreatDoorPB
import Derived.Test.YtohgdopfjkjppaaGreatDoorLvA
import Derived.Test.YtohgdopfjkjppaaGreatDoorRnA
set_option linter.unusedSectionVars false
set_option linter.unusedVariables false
set_option linter.unusedSimpArgs false
namespace Go.Proofs.YtohgdopfjkjppaaGreatDoor
open Nat renaming reduceEqDiff → jA, reduceAdd → jB, reduceMul → jC, reduceLT → jD, reduceLeDiff → jE, reduceBEq → jF, reduceBNe → jG
open Int renaming reduceLE → jH, reduceLT → jI, reduceToNat → jJ, reduceEq → jK
open Go
set_option maxRecDepth 20000
set_option linter.defProp false
def tfPp11 := And.intro @tfA (And.intro @Ex.settle_pv (And.intro @Ex.pure_pv (And.intro @Ex.cells_pv (And.intro @Ex.cs.eq_1 (And.intro @On.pv.eq_1 (And.intro @Ty.pv.eq_1 (And.intro @Va.settle_pv (And.intro @Va.pure_pv (And.intro @Va.cells_pv (And.intro @Va.cs.eq_1 (And.intro @Tk.settle_pv (And.intro @Tk.pure_pv (And.intro @Tk.cells_pv (And.intro @Tk.pv.eq_1 (And.intro @Tk.cs.eq_1 (And.intro @Tr.settle_pv (And.intro @Tr.pure_pv (And.intro @Tr.cells_pv (And.intro @Qu.settle_pv (And.intro @Qu.pure_pv (And.intro @Qu.cells_pv (And.intro @No.settle_pv (And.intro @No.pure_pv (And.intro @No.cells_pv (And.intro @En.settle_pv (And.intro @En.pure_pv (And.intro @En.cells_pv (And.intro @Am.settle_pv (And.intro @Am.pure_pv (And.intro @Am.cells_pv (And.intro @pst_nb (And.intro @pst_nt (And.intro @pst_fresh (And.intro @pst_use (And.intro @pst_free (And.intro @pst_alive (And.intro @pst_a (And.intro @pst_upda (And.intro @pst_ext (And.intro @pst_ext2 (And.intro @pst_ea (And.intro @pst_own (And.intro @pst_own0 (And.intro @pst_ou @pst_ou0))))))))))))))))))))))))))))))))))))))))))))

theorem progL_adv {L : List Tk} (hL : TksOk L) : ∀ (n : Nat) (es : List En) (ns : List No) (s : PS), s.ok L → Adv L s (rProg L n es ns s).2
 | 0, es, ns, s, h => .refl h
 | n + 1, es, ns, s, h => by
  unfold rProg
  split
  ·split
   ·have b1 := enum_adv hL h
    exact b1.trans (progL_adv hL n _ _ _ b1.ok)
   ·split
    ·have b0 : Adv L s (if ns.length == 64 then s.here L 3 else s) := by
       split
       ·exact here_adv hL h 3
       ·exact .refl h
     have b1 := node_adv hL b0.ok
     exact (b0.trans b1).trans (progL_adv hL n _ _ _ b1.ok)
    ·try simp only []
     split
     ·exact .refl h
     ·exact here_adv hL h 2
  ·exact .refl h
section
variable {L : List Tk} (hL : TksOk L) (a : Nat) (m : M) (hA : a < m.nb) (s : PS) (hs : s.ok L) (k0 : s.k = 0)
include hL hA hs k0
theorem peqsX_any (d : Int) (hd : 0 ≤ d ∧ d ≤ 64) : ACallsZ Tryz.prog 100 [.bp a 0] (pst L a m s.i d) (RP L a m d (.sl .no ((rEqs L (fq L) d [] s).1.map Qu.pv)) (rEqs L (fq L) d [] s).2) (ZP L a m (rEqs L (fq L) d [] s).2) := by
 have := mu_fx (L := L) (s := s)
 exact (pblC hL (pright_any hL) (fq L) _ (Nat.le_refl _)).eqs a m hA s hs k0 d hd (by unfold fq; omega)
set_option maxHeartbeats 8000000 in
theorem pnode_any : ACallsZ Tryz.prog 77 [.bp a 0] (pst L a m s.i 0) (RP L a m 0 (rNode L s).1.pv (rNode L s).2) (ZP L a m (rNode L s).2) := by
 have hd : (0 : Int) ≤ 0 ∧ (0 : Int) ≤ 64 := by decide
 obtain ⟨R, hR0⟩ : ∃ r, rNode L s = r := ⟨_, rfl⟩
 rw [hR0]
 obtain ⟨s1, x1⟩ : ∃ x, s.want L wNode = x := ⟨_, rfl⟩
 have a1 : Adv L s s1 := by rw [← x1]; exact want_adv hL hs wNode
 obtain ⟨nm, x2⟩ : ∃ x, rName L 2 s1 = x := ⟨_, rfl⟩
 have a2 : Adv L s1 nm.2 := by rw [← x2]; exact name_adv hL a1.ok (kd := 2) (by decide)
 obtain ⟨s3, x3⟩ : ∃ x, nm.2.want L wOpen = x := ⟨_, rfl⟩
 have a3 : Adv L nm.2 s3 := by rw [← x3]; exact want_adv hL a2.ok wOpen
 obtain ⟨p, x4⟩ : ∃ x, rParams L 0 s3 = x := ⟨_, rfl⟩
 have a4 : Adv L s3 p.2 := by rw [← x4]; exact params_adv hL (d := 0) a3.ok
 obtain ⟨s5, x5⟩ : ∃ x, p.2.want L wShut = x := ⟨_, rfl⟩
 have a5 : Adv L p.2 s5 := by rw [← x5]; exact want_adv hL a4.ok wShut
 obtain ⟨s6, x6⟩ : ∃ x, s5.want L wReturns = x := ⟨_, rfl⟩
 have a6 : Adv L s5 s6 := by rw [← x6]; exact want_adv hL a5.ok wReturns
 obtain ⟨s7, x7⟩ : ∃ x, s6.want L wOpen = x := ⟨_, rfl⟩
 have a7 : Adv L s6 s7 := by rw [← x7]; exact want_adv hL a6.ok wOpen
 obtain ⟨q, x8⟩ : ∃ x, rParams L 0 s7 = x := ⟨_, rfl⟩
 have a8 : Adv L s7 q.2 := by rw [← x8]; exact params_adv hL (d := 0) a7.ok
 obtain ⟨s9, x9⟩ : ∃ x, q.2.want L wShut = x := ⟨_, rfl⟩
 have a9 : Adv L q.2 s9 := by rw [← x9]; exact want_adv hL a8.ok wShut
 obtain ⟨w, x10⟩ : ∃ x, rLocals L 0 s9 = x := ⟨_, rfl⟩
 have a10 : Adv L s9 w.2 := by rw [← x10]; exact locals_adv hL (d := 0) a9.ok
 obtain ⟨s11, x11⟩ : ∃ x, w.2.want L wLet = x := ⟨_, rfl⟩
 have a11 : Adv L w.2 s11 := by rw [← x11]; exact want_adv hL a10.ok wLet
 obtain ⟨z, x12⟩ : ∃ x, rEqs L (fq L) 0 [] s11 = x := ⟨_, rfl⟩
 have a12 : Adv L s11 z.2 := by rw [← x12]; exact (quL hL (fq L)).eqs 0 [] _ a11.ok (by have := mu_fx (L := L) (s := s11); unfold fq; omega)
 obtain ⟨s13, x13⟩ : ∃ x, z.2.want L wTel = x := ⟨_, rfl⟩
 have a13 : Adv L z.2 s13 := by rw [← x13]; exact want_adv hL a12.ok wTel
 have hun : R = (⟨nm.1, p.1, q.1, ⟨w.1, z.1⟩, (s1.tk L).line, (s1.tk L).col⟩, s13) := by
  subst x13 x12 x11 x10 x9 x8 x7 x6 x5 x4 x3 x2 x1
  rw [← hR0]; rfl
 have e13 : Adv L s13 R.2 := by rw [hun]; exact .refl a13.ok
 have e12 := a13.trans e13
 have e11 := a12.trans e12
 have e10 := a11.trans e11
 have e9 := a10.trans e10
 have e8 := a9.trans e9
 have e7 := a8.trans e8
 have e6 := a7.trans e7
 have e5 := a6.trans e6
 have e4 := a5.trans e5
 have e3 := a4.trans e4
 have e2 := a3.trans e3
 have e1 := a2.trans e2
 refine eZ [2, 3] Tryz.func77 ?_
 (repeat revert X); refine wE (And.intro tfPp11 hA) ?_; repeat intro X hX
 refine callP (pwant_any hL a _ xA s hs 0 k0 wNode) (by rw [x1]; exact (by first | exact zz hA (.refl m) (e1) | exact zz0 hA (.refl m) (e1))) ?_
 rintro v m' ⟨k1, rfl⟩
 rw [x1] at k1 ⊢
 refine wS aEQ_t ?_
 (repeat revert X); refine wE aEQ_t ?_; repeat intro X hX
 refine callM (ptok_any hL a _ xA _ a1.ok 0) ?_
 rintro v m' ⟨rfl, rfl⟩
 refine wS tfPp11 ?_
 (repeat revert X); refine wE (And.intro tfPp11 hA) ?_; repeat intro X hX
 refine callP (pname_any hL a _ xA _ a1.ok 0 k1 2) (by rw [x2]; exact (by first | exact zz hA (.refl m) (e2) | exact zz0 hA (.refl m) (e2))) ?_
 rintro v m' ⟨k2, rfl, rfl⟩
 rw [x2] at k2 ⊢
 refine wS (And.intro tfPp11 hA) ?_
 (repeat revert X); refine wE aEQ_t ?_; repeat intro X hX
 refine callP (pwant_any hL a _ xA _ a2.ok 0 k2 wOpen) (by rw [x3]; exact (by first | exact zz hA (.refl m) (e3) | exact zz0 hA (.refl m) (e3))) ?_
 rintro v m' ⟨k3, rfl⟩
 rw [x3] at k3 ⊢
 refine wS aEQ_t ?_
 (repeat revert X); refine wE aEQ_t ?_; repeat intro X hX
 refine callP (pparams_any hL a _ xA _ a3.ok k3 0 hd) (by rw [x4]; exact (by first | exact zz hA (.refl m) (e4) | exact zz0 hA (.refl m) (e4))) ?_
 rintro v m' ⟨k4, rfl, rfl⟩
 rw [x4] at k4 ⊢
 refine wS (And.intro tfPp11 hA) ?_
 (repeat revert X); refine wE aEQ_t ?_; repeat intro X hX
 refine callP (pwant_any hL a _ xA _ a4.ok 0 k4 wShut) (by rw [x5]; exact (by first | exact zz hA (.refl m) (e5) | exact zz0 hA (.refl m) (e5))) ?_
 rintro v m' ⟨k5, rfl⟩
 rw [x5] at k5 ⊢
 refine wS aEQ_t ?_
 (repeat revert X); refine wE aEQ_t ?_; repeat intro X hX
 refine callP (pwant_any hL a _ xA _ a5.ok 0 k5 wReturns) (by rw [x6]; exact (by first | exact zz hA (.refl m) (e6) | exact zz0 hA (.refl m) (e6))) ?_
 rintro v m' ⟨k6, rfl⟩
 rw [x6] at k6 ⊢
 refine wS aEQ_t ?_
 (repeat revert X); refine wE aEQ_t ?_; repeat intro X hX
 refine callP (pwant_any hL a _ xA _ a6.ok 0 k6 wOpen) (by rw [x7]; exact (by first | exact zz hA (.refl m) (e7) | exact zz0 hA (.refl m) (e7))) ?_
 rintro v m' ⟨k7, rfl⟩
 rw [x7] at k7 ⊢
 refine wS aEQ_t ?_
 (repeat revert X); refine wE aEQ_t ?_; repeat intro X hX
 refine callP (pparams_any hL a _ xA _ a7.ok k7 0 hd) (by rw [x8]; exact (by first | exact zz hA (.refl m) (e8) | exact zz0 hA (.refl m) (e8))) ?_
 rintro v m' ⟨k8, rfl, rfl⟩
 rw [x8] at k8 ⊢
 refine wS (And.intro tfPp11 hA) ?_
 (repeat revert X); refine wE aEQ_t ?_; repeat intro X hX
 refine callP (pwant_any hL a _ xA _ a8.ok 0 k8 wShut) (by rw [x9]; exact (by first | exact zz hA (.refl m) (e9) | exact zz0 hA (.refl m) (e9))) ?_
 rintro v m' ⟨k9, rfl⟩
 rw [x9] at k9 ⊢
 refine wS aEQ_t ?_
 (repeat revert X); refine wE aEQ_t ?_; repeat intro X hX
 refine callP (plocals_any hL a _ xA _ a9.ok k9 0 hd) (by rw [x10]; exact (by first | exact zz hA (.refl m) (e10) | exact zz0 hA (.refl m) (e10))) ?_
 rintro v m' ⟨k10, rfl, rfl⟩
 rw [x10] at k10 ⊢
 refine wS (And.intro tfPp11 hA) ?_
 (repeat revert X); refine wE aEQ_t ?_; repeat intro X hX
 refine callP (pwant_any hL a _ xA _ a10.ok 0 k10 wLet) (by rw [x11]; exact (by first | exact zz hA (.refl m) (e11) | exact zz0 hA (.refl m) (e11))) ?_
 rintro v m' ⟨k11, rfl⟩
 rw [x11] at k11 ⊢
 refine wS aEQ_t ?_
 (repeat revert X); refine wE aEQ_t ?_; repeat intro X hX
 refine callP (peqsX_any hL a _ xA _ a11.ok k11 0 hd) (by rw [x12]; exact (by first | exact zz hA (.refl m) (e12) | exact zz0 hA (.refl m) (e12))) ?_
 rintro v m' ⟨k12, rfl, rfl⟩
 rw [x12] at k12 ⊢
 refine wS (And.intro tfPp11 hA) ?_
 (repeat revert X); refine wE aEQ_t ?_; repeat intro X hX
 refine callP (pwant_any hL a _ xA _ a12.ok 0 k12 wTel) (by rw [x13]; exact (by first | exact zz hA (.refl m) (e13) | exact zz0 hA (.refl m) (e13))) ?_
 rintro v m' ⟨k13, rfl⟩
 rw [x13] at k13 ⊢
 refine wS aEQ_t ?_
 (repeat revert X); refine wE (And.intro tfPp11 hA) ?_; repeat intro X hX
 refine wQ Tryz.results77 (And.intro tfPp11 hA) ?_
 exact leave_pst hA (.refl m) rfl ⟨by rw [hun]; exact k13, by rw [hun]; rfl, by rw [hun]⟩
set_option maxHeartbeats 8000000 in
theorem pprogram_any : ACallsZ Tryz.prog 55 [.bp a 0] (pst L a m s.i 0) (RP L a m 0 (.ag [.sl .no ((rProg L (L.length + 1) [] [] s).1.1.map En.pv), .sl .no ((rProg L (L.length + 1) [] [] s).1.2.map No.pv)]) (rProg L (L.length + 1) [] [] s).2) (ZP L a m (rProg L (L.length + 1) [] [] s).2) := by
 obtain ⟨r, hr0⟩ : ∃ r, rProg L (L.length + 1) [] [] s = r := ⟨_, rfl⟩
 rw [hr0]
 have hll := hL.le
 have hmx := mu_fx (L := L) (s := s)
 refine eZ [2, 3] Tryz.func55 ?_
 (repeat revert X); refine wE (And.intro tfPp11 hA) ?_; repeat intro X hX
 obtain ⟨I, hI⟩ : ∃ I : Nat → F → M → Prop, ∀ n g m', I n g m' = (∃ (es : List En) (ns : List No) (s1 : PS) (oe on : Own) (mm : M), s1.ok L ∧ s1.k = 0 ∧ mu L s1 + 16 ≤ 16 * n ∧ es.length + ns.length + n ≤ L.length + 1 ∧ ns.length ≤ 64 ∧ r = rProg L n es ns s1 ∧ g 0 = .bp a 0 ∧ g 2 = .bp m.nb 0 ∧ g 3 = .bp (m.nb + 1) 0 ∧ m' = pst L a (mm.ext [some [.sl .full [], .sl .full []], some [.sl oe (es.map En.pv), .sl on (ns.map No.pv)]]) s1.i 0 ∧ Toks m mm ∧ Mine m mm oe 4 ∧ Mine m mm on 7 ∧ (∀ t, oe = .tok t → on ≠ .tok t)) := ⟨_, fun _ _ _ => rfl⟩
 refine aLoopN I (L.length + 1) ?_ ?_
 ·rw [hI]; exact ⟨[], [], s, .full, .full, m, hs, k0, by omega, by simp, by simp, hr0.symm, rfl, rfl, rfl, rfl, .refl m, .full, .full, fun t h => by cases h⟩
 clear hr0
 intro W n g m' hrel hW
 rw [hI] at hrel
 obtain ⟨es, ns, s1, oe, on, mm, hs1, k1, hn, hln, hl64, hr, f0, f2, f3, rfl, htk, hoe, hon, hne⟩ := hrel
 obtain ⟨n, rfl⟩ : ∃ k, n = k + 1 := ⟨n - 1, by omega⟩
 have hnb := htk.nb
 have hAm : a < mm.nb := by omega
 have h1 : (s1.k == 0) = true := by rw [k1]; rfl
 have hun2 : rProg L (n + 1) es ns s1 = (if s1.is L wType then rProg L n (es ++ [(rEnum L s1).1]) ns (rEnum L s1).2
     else if s1.is L wNode then rProg L n es (ns ++ [(rNode L (if ns.length == 64 then s1.here L 3 else s1)).1]) (rNode L (if ns.length == 64 then s1.here L 3 else s1)).2
     else ((es, ns), if (s1.tk L).kind == 0 then s1 else s1.here L 2)) := by
  have : rProg L (n + 1) es ns s1 = if s1.k == 0 then (if s1.is L wType then rProg L n (es ++ [(rEnum L s1).1]) ns (rEnum L s1).2
   else if s1.is L wNode then rProg L n es (ns ++ [(rNode L (if ns.length == 64 then s1.here L 3 else s1)).1]) (rNode L (if ns.length == 64 then s1.here L 3 else s1)).2
   else ((es, ns), if (s1.tk L).kind == 0 then s1 else s1.here L 2)) else ((es, ns), s1) := rfl
  rw [this, h1, if_pos rfl]
 have n0 := mu0 hs1 k1
 (repeat revert X); refine wE f0 ?_; repeat intro X hX
 refine callM (pis_any hL a _ xA s1 hs1 0 k1 wType) ?_
 rintro v m' ⟨rfl, rfl⟩
 cases h2 : s1.is L wType with
 | true =>
  rw [h2, if_pos rfl] at hun2
  have b1 := enum_adv hL hs1
  have hw : s1.want L wType = s1.nx := by unfold PS.want; rw [if_pos h2]
  have b0 := is_adv hL hs1 h2
  have n1 := mu_nx hL hs1 k1 (is_of h2).2.1
  have b9 := enum_adv2 hL hs1
  rw [hw] at b9
  have n2 := mu_le b9
  have e1 : Adv L (rEnum L s1).2 r.2 := by rw [hr, hun2]; exact progL_adv hL _ _ _ _ b1.ok
  have hfree := hoe.free
  have q1 : es.length + 1 ≤ maxLen := by unfold maxLen; omega
  have q2 : (es.length + 1) * 64 ≤ 140737488355328 := by omega
  have q3 : ∀ x ∈ es.map En.pv, x.cells.length = 4 := fun x hx => by
   obtain ⟨a, _, rfl⟩ := List.mem_map.1 hx; rfl
  refine wS @pB.eq_1 ?_
  (repeat revert X); refine wE aEQ_t ?_; repeat intro X hX
  refine aDrwEZ 3 (isP1 L a m [.sl oe (es.map En.pv), .sl on (ns.map No.pv)] 0) (by decide) (hne := List.cons_ne_nil _ _) rfl (by kernel_rfl) rfl rfl (by kernel_rfl) (by kernel_rfl) (isP1_of htk.boxes) ?_
  simp -implicitDefEqProofs only [↓slp, slb, ↓reduceIte, reduceCtorEq, jA, jB, jC, jE, jF, tfPp11, isP1_all, List.dropLast_cons_cons, List.dropLast_singleton, List.getLast_cons_cons, List.getLast_singleton, List.getElem_cons_zero, List.getElem_cons_succ, f0, f3, hnb, hA, pst_gx1]
  refine callP (penum_any hL a _ xA s1 hs1 k1 0) (by first | exact zz hA (htk) (e1) | exact zz0 hA (htk) (e1)) ?_
  rintro v m' ⟨k2, rfl, rfl⟩
  generalize rEnum L s1 = c at *
  refine ⟨isP1_of htk.boxes, ?_⟩
  refine wS (And.intro tfPp11 (And.intro f3 (And.intro hnb hA))) ?_
  (repeat ((apply And.intro; (focus (first | trivial | (repeat' apply And.intro) <;> first | omega | assumption | trivial)))))
  have ht1 := htk.use (s := 4) hoe
  refine ⟨isP1_of ht1.boxes, ?_⟩
  refine hW n _ _ (by omega) ?_
  rw [hI]
  exact ⟨es ++ [c.1], ns, c.2, .tok mm.nt, on, _, b1.ok, k2, by omega, by simp; omega, hl64, by rw [hr, hun2], f0, f2, f3, by rw [List.map_append]; rfl, ht1, Mine.new htk oe 4, Mine.other (o := oe) (s := 4) hon hne, hon.ne_new⟩
 | false =>
 rw [h2, if_neg (by simp)] at hun2
 refine wS @pB.eq_1 ?_
 (repeat revert X); refine wE f0 ?_; repeat intro X hX
 refine callM (pis_any hL a _ xA s1 hs1 0 k1 wNode) ?_
 rintro v m' ⟨rfl, rfl⟩
 cases h3 : s1.is L wNode with
 | true =>
  rw [h3, if_pos rfl] at hun2
  obtain ⟨c1, g1⟩ : ∃ b, (ns.length == 64) = b := ⟨_, rfl⟩
  have g1i : decide ((ns.length : Int) ≥ 64) = c1 := by rw [← g1]; cases hq : (ns.length == 64) <;> simp at hq ⊢ <;> omega
  rw [g1] at hun2
  cases c1 with
  | true =>
   rw [if_pos rfl] at hun2
   have b0 := here_adv hL hs1 3
   have b1 := node_adv hL b0.ok
   have e1 : Adv L (s1.here L 3) r.2 := by rw [hr, hun2]; exact b1.trans (progL_adv hL _ _ _ _ b1.ok)
   refine wS @pB.eq_1 ?_
   (repeat revert X); refine wE (And.intro tfPp11 (And.intro f0 (And.intro f3 (And.intro hnb (And.intro hA g1i))))) ?_; repeat intro X hX
   refine callP (pfail_any hL a _ xA s1 hs1 0 k1 3 (by decide)) (by first | exact zz hA (htk) (e1) | exact zz0 hA (htk) (e1)) (fun v m' h => h.elim)
  | false =>
   rw [if_neg (by simp)] at hun2
   have hl65 : ns.length < 64 := by have : ns.length ≠ 64 := by simpa using g1
                                    omega
   have b1 := node_adv hL hs1
   have hw : s1.want L wNode = s1.nx := by unfold PS.want; rw [if_pos h3]
   have n1 := mu_nx hL hs1 k1 (is_of h3).2.1
   have b9 := node_adv2 hL hs1
   rw [hw] at b9
   have n2 := mu_le b9
   have e1 : Adv L (rNode L s1).2 r.2 := by rw [hr, hun2]; exact progL_adv hL _ _ _ _ b1.ok
   have hfree := hon.free
   have q1 : ns.length + 1 ≤ maxLen := by unfold maxLen; omega
   have q2 : (ns.length + 1) * 160 ≤ 140737488355328 := by omega
   have q3 : ∀ x ∈ ns.map No.pv, x.cells.length = 7 := fun x hx => by
    obtain ⟨a, _, rfl⟩ := List.mem_map.1 hx; rfl
   refine wS @pB.eq_1 ?_
   (repeat revert X); refine wE (And.intro tfPp11 (And.intro f3 (And.intro hnb (And.intro hA g1i)))) ?_; repeat intro X hX
   refine aDrwEZ 3 (isP1 L a m [.sl oe (es.map En.pv), .sl on (ns.map No.pv)] 0) (by decide) (hne := List.cons_ne_nil _ _) rfl (by kernel_rfl) rfl rfl (by kernel_rfl) (by kernel_rfl) (isP1_of htk.boxes) ?_
   simp -implicitDefEqProofs only [↓slp, slb, ↓reduceIte, reduceCtorEq, jA, jB, jC, jE, jF, tfPp11, isP1_all, List.dropLast_cons_cons, List.dropLast_singleton, List.getLast_cons_cons, List.getLast_singleton, List.getElem_cons_zero, List.getElem_cons_succ, f0, f3, hnb, hA, pst_gx1]
   refine callP (pnode_any hL a _ xA s1 hs1 k1) (by first | exact zz hA (htk) (e1) | exact zz0 hA (htk) (e1)) ?_
   rintro v m' ⟨k2, rfl, rfl⟩
   generalize rNode L s1 = c at *
   refine ⟨isP1_of htk.boxes, ?_⟩
   refine wS (And.intro tfPp11 (And.intro f3 (And.intro hnb hA))) ?_
   (repeat ((apply And.intro; (focus (first | trivial | (repeat' apply And.intro) <;> first | omega | assumption | trivial)))))
   have ht1 := htk.use (s := 7) hon
   refine ⟨isP1_of ht1.boxes, ?_⟩
   refine hW n _ _ (by omega) ?_
   rw [hI]
   exact ⟨es, ns ++ [c.1], c.2, oe, .tok mm.nt, _, b1.ok, k2, by omega, by simp; omega, by simp; omega, by rw [hr, hun2], f0, f2, f3, by rw [List.map_append]; rfl, ht1, Mine.other (o := on) (s := 7) hoe (fun t h1 h2 => hne t h2 h1), Mine.new htk on 7, fun t h1 h2 => hoe.ne_new t h2 h1⟩
 | false =>
  rw [h3, if_neg (by simp)] at hun2
  refine wS @pB.eq_1 ?_
  (repeat revert X); refine wE f0 ?_; repeat intro X hX
  refine callP (pend_any hL a _ xA s1 hs1 0 k1) (fun v m' hz => ?_) ?_
  ·obtain ⟨hk, hz⟩ := hz
   rw [hk, if_neg (by simp)] at hun2
   have e1 : Adv L (s1.here L 2) r.2 := by rw [hr, hun2]; exact .refl (here_adv hL hs1 2).ok
   exact zz hA htk e1 v m' hz
  ·rintro v m' ⟨hk, rfl⟩
   rw [hk, if_pos rfl] at hun2
   refine wS aEQ_t ?_
   (repeat revert X); refine wE (And.intro tfPp11 (And.intro f2 (And.intro f3 (And.intro hnb hA)))) ?_; repeat intro X hX
   refine wQ Tryz.results55 (And.intro tfPp11 (And.intro f2 (And.intro hnb hA))) ?_
   exact leave_pst hA htk rfl ⟨by rw [hr, hun2]; exact k1, by rw [hr, hun2]; rfl, by rw [hr, hun2]⟩
end

def tfPp12 := tfPp11

def rdP (L : List Tk) (i : Nat) (d : Int) : List PV := [.sl .no (L.map Tk.pv), .v (.int .i64 (i : Int)), .v (.int .i64 d)]
theorem pst_ex1 {L : List Tk} {m : M} {e : List PV} {i : Nat} {d : Int} : pst L (m.nb + 1) (m.ext [some e, some []]) i d = m.ext [some e, some (rdP L i d)] := ext_upd (i := 1) rfl
set_option maxHeartbeats 2000000 in
theorem rclo_ret (x : PV) (m : M) : DRet Tryz.prog 30 [x] m (fun m' => m' = m) := by
 refine DRet.of (mu := []) ok_mix Tryz.func30 rfl rfl ⟨rfl, rfl, rfl⟩ (by kernel_rfl) (by decide) (by simp only [List.length_cons, List.length_nil, Tryz.ntmps30]; omega) ?_
 (repeat (first | refine aSeq fun X hX => ?_ | (first | apply aReg | apply aIf); simp -implicitDefEqProofs only [↓slp, slb, ↓reduceIte, reduceCtorEq, jA, tfPp12] | apply hX; clear hX X))
theorem DRet.mono {P : Program} {h : FuncId} {args : List PV} {m : M} {Q Q' : M → Prop} (hd : DRet P h args m Q) (hq : ∀ m', Q m' → Q' m') : DRet P h args m Q' := fun G w vs a b c => (hd G w vs a b c).mono (by rintro e u w' ⟨h1, h2, m', G', h3, h4, h5⟩; exact ⟨h1, h2, m', G', hq _ h3, h4, h5⟩)
theorem DPan.mono {P : Program} {h : FuncId} {args : List PV} {v : PV} {m : M} {Q Q' : M → Prop} (hd : DPan P h args v m Q) (hq : ∀ m', Q m' → Q' m') : DPan P h args v m Q' := fun G w vs y a b c d => (hd G w vs y a b c d).mono (by rintro e u w' ⟨h1, h2, m', G', h3, h4, h5⟩; exact ⟨h1, h2, m', G', hq _ h3, h4, h5⟩)
set_option maxHeartbeats 2000000 in
theorem rclo_pan (id : Nat) (x : PV) (l c k : Int) (m : M) (hg : m.get id = some [x]) : DPan Tryz.prog 30 [.bp id 0] (pStop l c k) m (fun m' => m' = m.upd id [pA l c k]) := by
 refine DPan.of (mu := []) ok_mix Tryz.func30 rfl rfl ⟨rfl, rfl, rfl⟩ (by kernel_rfl) (by decide) (by simp only [List.length_cons, List.length_nil, Tryz.ntmps30]; omega) ?_
 have hu := Tryz.underlying77
 (repeat (first | refine aSeq fun X hX => ?_ | (first | apply aReg | apply aIf); simp -implicitDefEqProofs only [↓slp, slb, ↓reduceIte, reduceCtorEq, jA, jB, jE, jF, tfPp12, hu, hg] | apply hX; clear hX X))
def CloC (L : List Tk) (k b : Nat) (C0 C1 : List PV) (r : PS) : Prop := canCall Tryz.prog k = true ∧ ∀ (mm : M) (a : Nat), b < mm.nb → mm.get b = some C0 → a < mm.nb → a ≠ b → ACallsZ Tryz.prog k [.bp a 0, .bp b 0] (pst L a mm 0 0) (fun v m' => r.k = 0 ∧ m' = pst L a (mm.upd b C1) r.i 0) (fun v m' => ∃ C, (∀ n k, PV.withins n k C = true) ∧ ZP L a (mm.upd b C) r v m')
theorem leave_up {m : M} {b : Nat} {C : List PV} {bs : List (Option (List PV))} {v : PV} {R : PV → M → Prop} (hb : b < m.nb) (hp : ∀ n k, PV.withins n k C = true) (hv : v.settle.pure = true) (hR : R v.settle (m.upd b C)) : ∃ v' m', Leave m ((m.upd b C).ext bs) v v' m' ∧ R v' m' := by
 refine ⟨_, _, .gen v v.settle (m.upd b C) (.inr rfl) (by rw [upd_nb]; exact Nat.le_refl _) (Nat.le_refl _) ?_ ?_ (fun id c hc => ?_) (pure_withinC _ _ _ hv), hR⟩
 ·show ((m.upd b C).boxes ++ bs).take (m.upd b C).boxes.length = _
  simp
 ·show ((m.upd b C).toks).take (m.upd b C).toks.length = _
  simp
 ·rw [M.get_upd] at hc
  split at hc
  ·cases hc; exact .inr (hp _ _)
  ·exact .inl hc
set_option maxHeartbeats 8000000 in
theorem readB_any (t : Str) {k l c : Int} (hk : k ≠ 0) (hW : ∀ m : M, ACalls Tryz.prog 29 [pS t] m (fun v m' => v = .tp [.sl .no [], pA l c k] ∧ m' = m)) (fv : PV) (m : M) : ACalls Tryz.prog 14 [pS t, fv] m (fun v m' => v = pA l c k ∧ m' = m) := by
 refine eN [4, 18] Tryz.func14 ?_
 (repeat revert X); refine wE tfPp12 ?_; repeat intro X hX
 refine callM (hW _) ?_
 rintro v m' ⟨rfl, rfl⟩
 refine wS tfPp12 ?_
 (repeat revert X); refine wE tfPp12 ?_; repeat intro X hX
 refine wQ Tryz.results14 tfPp12 ?_
 exact leave_ext rfl ⟨rfl, rfl⟩
set_option maxHeartbeats 8000000 in
theorem read_any (t : Str) {L : List Tk} (hW : ∀ m : M, ACalls Tryz.prog 29 [pS t] m (fun v m' => v = .tp [.sl .no (L.map Tk.pv), .v .nilIface] ∧ m' = m)) (k b : Nat) {C0 C1 : List PV} {r : PS} (hC : CloC L k b C0 C1 r) (hp1 : ∀ n k, PV.withins n k C1 = true) (m : M) (hb : b < m.nb) (hg0 : m.get b = some C0) :
    ACalls Tryz.prog 14 [pS t, .fn (.func k) [] [.bp b 0]] m (fun v m' => (r.k = 0 ∧ v = .v .nilIface ∧ m' = m.upd b C1) ∨ (r.k ≠ 0 ∧ v = pA r.l r.c r.k ∧ ∃ C, (∀ n k, PV.withins n k C = true) ∧ m' = m.upd b C)) := by
 refine ACalls.leave (R := fun v m' => (r.k = 0 ∧ v = .v .nilIface ∧ ∃ bs, m' = (m.upd b C1).ext bs) ∨ (r.k ≠ 0 ∧ v = pA r.l r.c r.k ∧ ∃ C bs, (∀ n k, PV.withins n k C = true) ∧ m' = (m.upd b C).ext bs)) ?_ (fun v m' h => ?_)
 rotate_left
 ·rcases h with ⟨h1, rfl, bs, rfl⟩ | ⟨h1, rfl, C, bs, hp, rfl⟩
  ·exact leave_up hb hp1 rfl (.inl ⟨h1, rfl, rfl⟩)
  ·exact leave_up hb hp rfl (.inr ⟨h1, rfl, C, hp, rfl⟩)
 obtain ⟨Xf, hXf⟩ : ∃ Xf : F → M → Prop, ∀ f1 m1, Xf f1 m1 = ((f1 1 = .fn (.func k) [] [.bp b 0] ∧ f1 4 = .bp m.nb 0 ∧ f1 5 = .sl .no (L.map Tk.pv)) ∧ m1 = m.ext [some [.v .nilIface]]) := ⟨_, fun _ _ => rfl⟩
 refine ACalls.enterDL (mu := [4, 18]) (l := [_, _, _]) (kps := [4]) ok_mix Tryz.func14 rfl (by kernel_rfl) (by kernel_rfl) ⟨rfl, rfl, rfl⟩ ⟨rfl, rfl, rfl, rfl, rfl⟩ ?_ (fun kv => by rw [bd_kv _ _ kv (fun _ => undef)]; kernel_rfl) ⟨by decide, by decide⟩ (by simp only [List.length_cons, List.length_nil, Tryz.ntmps14]; omega) Xf ?_ ?_
 ·intro A hA
  simp only [List.mem_cons, List.not_mem_nil, or_false] at hA
  rcases hA with rfl | rfl | rfl <;> kernel_rfl
 ·unfold aPre
  (repeat revert X); refine wE tfPp12 ?_; repeat intro X hX
  refine callM (hW _) ?_
  rintro v m' ⟨rfl, rfl⟩
  refine wS tfPp12 ?_
  (repeat (first | refine aSeq fun X hX => ?_ | refine aSkip ?_ | (first | apply aReg | apply aIf); simp -implicitDefEqProofs only [↓slp, slb, ↓reduceIte, jA, jB, jF, tfPp12] | apply hX; clear hX X))
  refine ⟨rfl, ?_⟩
  show Xf _ _
  rw [hXf]
  exact ⟨⟨rfl, rfl, rfl⟩, rfl⟩
 ·intro f1 m1 hx
  rw [hXf] at hx
  obtain ⟨⟨f1', f4, f5⟩, rfl⟩ := hx
  have hargs : (#[Operand.tmp 4] : Array Operand).toList.map (ev f1) = [.bp m.nb 0] := by
   simp only [List.map_cons, List.map_nil, ev_tmp, f4]
  have k2 : (F.only [4] f1) 4 = .bp m.nb 0 := by unfold F.only; rw [if_pos (by simp)]; exact f4
  have hnb1 : b ≠ m.nb + 1 := by omega
  have hcl := hC.2 (m.ext [some [.v .nilIface], some []]) (m.nb + 1) (by rw [ext_nb]; omega) (ext_old hg0) (by rw [ext_nb]; simp) (by omega)
  have hup : ∀ C, (m.ext [some [PV.v Value.nilIface], some []]).upd b C = (m.upd b C).ext [some [.v .nilIface], some []] := fun C => ext_updOld hb
  have hup2 : ∀ (C : List PV) (e : PV) (x : Option (List PV)), ((m.upd b C).ext [some [PV.v Value.nilIface], x]).upd m.nb [e] = (m.upd b C).ext [some [e], x] := fun C e x => by
   have := ext_upd0 (m := m.upd b C) (bs := [some [PV.v Value.nilIface], x]) (c := [e]) (k := m.nb) (upd_nb m b C)
   exact this
  have hx1 : ∀ (C : List PV) (i : Nat) (d : Int), pst L (m.nb + 1) ((m.upd b C).ext [some [PV.v Value.nilIface], some []]) i d = (m.upd b C).ext [some [.v .nilIface], some (rdP L i d)] := fun C i d => by
   have := ext_upd (m := m.upd b C) (bs := [some [PV.v Value.nilIface], some []]) (c := rdP L i d) (k := m.nb) (i := 1) (upd_nb m b C)
   exact this
  refine ⟨fun m2 => r.k = 0 ∧ m2 = (m.upd b C1).ext [some [.v .nilIface], some (rdP L r.i 0)], fun v m2 => r.k ≠ 0 ∧ v = pStop r.l r.c r.k ∧ ∃ C i d, (∀ n k, PV.withins n k C = true) ∧ m2 = (m.upd b C).ext [some [.v .nilIface], some (rdP L i d)], ?_, ?_, ?_⟩
  ·((repeat revert X); refine wE (And.intro tfPp12 (And.intro f1' (And.intro f4 f5))) ?_; repeat intro X hX)
   rw [pst_ex1] at hcl
   refine callP hcl ?_ ?_
   ·rintro v m' ⟨C, hp, h1, rfl, i, d, rfl⟩
    rw [hup, hx1]
    exact ⟨h1, rfl, C, i, d, hp, rfl⟩
   rintro v m' ⟨h1, rfl⟩
   rw [hup, hx1]
   refine wS f4 ?_
   (repeat (first | refine aSeq fun X hX => ?_ | refine aRet ?_; try simp only [slx, ↓reduceIte, jA, reduceCtorEq] | refine aReg ?_; simp -implicitDefEqProofs only [↓slp, slb, ↓reduceIte, jA, jB, jE, tfPp12, f4, hup2] | apply hX; clear hX X))
   exact ⟨.inr trivial, h1, trivial⟩
  ·rintro m2 ⟨hr, rfl⟩
   rw [hargs]
   refine (rclo_ret _ _).mono ?_
   rintro m3 rfl
   simp only [Tryz.results14, aRes_n, aRes_t, aRes_c]
   have hg : ((m.upd b C1).ext [some [PV.v Value.nilIface], some (rdP L r.i 0)]).get m.nb = some [.v .nilIface] := ext_get0 (upd_nb m b C1)
   refine wS (And.intro tfPp12 (And.intro k2 hg)) ?_
   exact .inl ⟨hr, _, rfl⟩
  ·rintro v m2 ⟨hr, rfl, C, i, d, hp, rfl⟩
   rw [hargs]
   have hg : ((m.upd b C).ext [some [PV.v Value.nilIface], some (rdP L i d)]).get m.nb = some [.v .nilIface] := ext_get0 (upd_nb m b C)
   refine (rclo_pan m.nb _ r.l r.c r.k _ hg).mono ?_
   rintro m3 rfl
   simp only [Tryz.results14, aRes_n, aRes_t, aRes_c]
   rw [hup2]
   have hg2 : ((m.upd b C).ext [some [pA r.l r.c r.k], some (rdP L i d)]).get m.nb = some [pA r.l r.c r.k] := ext_get0 (upd_nb m b C)
   refine wS (And.intro tfPp12 (And.intro k2 hg2)) ?_
   exact .inr ⟨hr, C, _, hp, rfl⟩
def errW (k l c : Int) : PV := if k == 0 then .v .nilIface else pA l c k
set_option maxHeartbeats 8000000 in
theorem pProgram_bad (t : Str) {k l c : Int} (hk : k ≠ 0) (hW : ∀ m : M, ACalls Tryz.prog 29 [pS t] m (fun v m' => v = .tp [.sl .no [], pA l c k] ∧ m' = m)) (m : M) : ACalls Tryz.prog 25 [pS t] m (fun v m' => v = .tp [.ag [.sl .no [], .sl .no []], errW k l c] ∧ m' = m) := by
 have he : errW k l c = pA l c k := by unfold errW; rw [if_neg (by simpa using hk)]
 rw [he]
 refine eN [2, 4] Tryz.func25 ?_
 (repeat revert X); refine wE tfPp12 ?_; repeat intro X hX
 refine callM (readB_any t hk hW _ _) ?_
 rintro v m' ⟨rfl, rfl⟩
 refine wS aEQ_t ?_
 (repeat revert X); refine wE tfPp12 ?_; repeat intro X hX
 refine wQ Tryz.results25 tfPp12 ?_
 exact leave_ext rfl ⟨rfl, rfl⟩
set_option maxHeartbeats 8000000 in
theorem pExpr_bad (t : Str) {k l c : Int} (hk : k ≠ 0) (hW : ∀ m : M, ACalls Tryz.prog 29 [pS t] m (fun v m' => v = .tp [.sl .no [], pA l c k] ∧ m' = m)) (m : M) : ACalls Tryz.prog 7 [pS t] m (fun v m' => v = .tp [z0.pv, errW k l c] ∧ m' = m) := by
 have he : errW k l c = pA l c k := by unfold errW; rw [if_neg (by simpa using hk)]
 rw [he, Ex.pv_eq]
 refine eN [2, 4] Tryz.func7 ?_
 (repeat revert X); refine wE tfPp12 ?_; repeat intro X hX
 refine callM (readB_any t hk hW _ _) ?_
 rintro v m' ⟨rfl, rfl⟩
 refine wS tfPp12 ?_
 (repeat revert X); refine wE tfPp12 ?_; repeat intro X hX
 refine wQ Tryz.results7 tfPp12 ?_
 exact leave_ext rfl ⟨rfl, rfl⟩
theorem pst_getb {L : List Tk} {a b : Nat} {m : M} {i : Nat} {d : Int} (hne : a ≠ b) : (pst L a m i d).get b = m.get b := by unfold pst; rw [M.get_upd, if_neg (fun h => hne h.1.symm)]
theorem pst_updb {L : List Tk} {a b : Nat} {m : M} {i : Nat} {d : Int} (hne : a ≠ b) (C : List PV) : (pst L a m i d).upd b C = pst L a (m.upd b C) i d := by
 unfold pst M.upd
 congr 1
 simp only []
 rw [List.set_comm _ _ hne]
theorem leave_rp0 {L : List Tk} {a b : Nat} {m : M} {i i' : Nat} {d d' : Int} {C : List PV} {R : PV → M → Prop} {v : PV} (hA : a < m.nb) (hB : b < m.nb) (hp : ∀ n k, PV.withins n k C = true) (hv : v.settle.pure = true) (hR : R v.settle (pst L a (m.upd b C) i' d')) : ∃ v' m', Leave (pst L a m i d) (pst L a (m.upd b C) i' d') v v' m' ∧ R v' m' := by
 have e : (m.upd b C).ext [] = m.upd b C := by simp [M.ext]
 have := leave_rp (i := i) (d := d) (bs := []) (R := R) hA hB hp hv hR
 rwa [e] at this
theorem upd_self {m : M} {b : Nat} {C : List PV} (h : m.get b = some C) : m.upd b C = m := by
 have := rs_0 h
 have e : (m.upd b C).ext [] = m.upd b C := by simp [M.ext]
 rw [e] at this
 exact this.symm
theorem cs_withins (e : Ex) (n k : Nat) : PV.withins n k e.cs = true := rfl
set_option maxHeartbeats 2000000 in
theorem proC {L : List Tk} (hL : TksOk L) (b : Nat) : CloC L 54 b [.sl .full [], .sl .full []] [.sl .no ((rProg L (L.length + 1) [] [] ⟨0, 0, 0, 0⟩).1.1.map En.pv), .sl .no ((rProg L (L.length + 1) [] [] ⟨0, 0, 0, 0⟩).1.2.map No.pv)] (rProg L (L.length + 1) [] [] ⟨0, 0, 0, 0⟩).2 := by
 refine ⟨by kernel_rfl, fun mm a hb hg hA hne => ?_⟩
 obtain ⟨r, hr⟩ : ∃ r, rProg L (L.length + 1) [] [] ⟨0, 0, 0, 0⟩ = r := ⟨_, rfl⟩
 have hp := fun (m : M) (hA : a < m.nb) => pprogram_any hL a m hA ⟨0, 0, 0, 0⟩ (ok0 hL) rfl
 rw [hr] at hp ⊢
 refine ACallsZ.enterG (mu := []) (Z0 := fun v m' => ZP L a mm r.2 v m') (fun v m' hz => ?_) ok_mix Tryz.func54 rfl (by kernel_rfl) (by kernel_rfl) (by simp only [List.length_cons, List.length_nil, Tryz.ntmps54]; omega) ?_
 ·obtain ⟨h1, rfl, i, d, rfl⟩ := hz
  have e := upd_self hg
  unfold LeaveZ
  rw [show pst L a mm i d = pst L a (mm.upd b [.sl .full [], .sl .full []]) i d by rw [e]]
  exact leave_rp0 hA hb (fun _ _ => rfl) rfl ⟨_, fun _ _ => rfl, h1, rfl, i, d, rfl⟩
 (repeat revert X); refine wE aEQ_t ?_; repeat intro X hX
 refine callP (hp mm hA) (fun v m' h => h) ?_
 rintro v m' ⟨k1, rfl, rfl⟩
 have hgb : (pst L a mm r.2.i 0).get b = some [.sl .full [], .sl .full []] := by rw [pst_getb hne]; exact hg
 simp -implicitDefEqProofs only [↓slp, slb, ↓reduceIte, jA, jB, jE, tfPp12, hgb, pst_updb hne]
 (repeat revert X); refine wE tfPp12 ?_; repeat intro X hX
 simp only [aPost, Tryz.results54, aRes_n, aRes_t, aRes_c, pack_one, pack_two]
 exact leave_rp0 hA hb (fun _ _ => rfl) rfl ⟨k1, rfl⟩
set_option maxHeartbeats 2000000 in
theorem expC {L : List Tk} (hL : TksOk L) (b : Nat) : CloC L 15 b [.v (.int .u8 0), .v (.int .u8 0), .v (.int .i32 0), .v (.string ⟨#[]⟩), .sl .full [], .sl .full [], .v (.int .i64 0), .v (.int .i64 0)] (eX L 0 ⟨0, 0, 0, 0⟩).1.cs (if (eX L 0 ⟨0, 0, 0, 0⟩).2.k == 0 && !(((eX L 0 ⟨0, 0, 0, 0⟩).2.tk L).kind == 0) then (eX L 0 ⟨0, 0, 0, 0⟩).2.here L 2 else (eX L 0 ⟨0, 0, 0, 0⟩).2) := by
 refine ⟨by kernel_rfl, fun mm a hb hg hA hne => ?_⟩
 obtain ⟨r, hr⟩ : ∃ r, eX L 0 ⟨0, 0, 0, 0⟩ = r := ⟨_, rfl⟩
 have hp := fun (m : M) (hA : a < m.nb) => peX_any hL a m hA ⟨0, 0, 0, 0⟩ (ok0 hL) rfl 0 (by decide)
 have hra := (eX_adv hL (d := 0) (ok0 hL)).1
 rw [hr] at hp hra ⊢
 obtain ⟨q, hq⟩ : ∃ q, (if r.2.k == 0 && !((r.2.tk L).kind == 0) then r.2.here L 2 else r.2) = q := ⟨_, rfl⟩
 have e1 : Adv L r.2 q := by
  rw [← hq]
  split
  ·exact here_adv hL hra.ok 2
  ·exact .refl hra.ok
 rw [hq]
 refine ACallsZ.enterG (mu := []) (Z0 := fun v m' => ZP L a mm q v m' ∨ ZP L a (mm.upd b r.1.cs) q v m') (fun v m' hz => ?_) ok_mix Tryz.func15 rfl (by kernel_rfl) (by kernel_rfl) (by simp only [List.length_cons, List.length_nil, Tryz.ntmps15]; omega) ?_
 ·rcases hz with ⟨h1, rfl, i, d, rfl⟩ | ⟨h1, rfl, i, d, rfl⟩
  ·have e := upd_self hg
   unfold LeaveZ
   rw [show pst L a mm i d = pst L a (mm.upd b [.v (.int .u8 0), .v (.int .u8 0), .v (.int .i32 0), .v (.string ⟨#[]⟩), .sl .full [], .sl .full [], .v (.int .i64 0), .v (.int .i64 0)]) i d by rw [e]]
   exact leave_rp0 hA hb (fun _ _ => rfl) rfl ⟨_, fun _ _ => rfl, h1, rfl, i, d, rfl⟩
  ·exact leave_rp0 hA hb (cs_withins r.1) rfl ⟨_, cs_withins r.1, h1, rfl, i, d, rfl⟩
 (repeat revert X); refine wE aEQ_t ?_; repeat intro X hX
 refine callP (hp mm hA) (fun v m' hz => .inl ?_) ?_
 ·obtain ⟨h1, rfl, i, d, rfl⟩ := hz
  have := e1.st h1
  rw [this]
  exact ⟨h1, rfl, i, d, rfl⟩
 rintro v m' ⟨k1, rfl, rfl⟩
 have hgb : (pst L a mm r.2.i 0).get b = some [.v (.int .u8 0), .v (.int .u8 0), .v (.int .i32 0), .v (.string ⟨#[]⟩), .sl .full [], .sl .full [], .v (.int .i64 0), .v (.int .i64 0)] := by rw [pst_getb hne]; exact hg
 rw [show r.1.pv = .ag r.1.cs from Ex.pv_eq r.1]
 have hcs : r.1.cs = [.v (.int .u8 r.1.kind), .v (.int .u8 r.1.op), .v (.int .i32 r.1.n), .v (.string r.1.name), .sl .no (r.1.names.map pS), .sl .no (r.1.kids.map Ex.pv), .v (.int .i64 r.1.line), .v (.int .i64 r.1.col)] := rfl
 rw [hcs]
 simp -implicitDefEqProofs only [↓slp, slb, ↓reduceIte, jA, jB, jE, tfPp12, hgb, pst_updb hne]; try simp only [fo]
 (repeat revert X); refine wE tfPp12 ?_; repeat intro X hX
 have hnb : a < (mm.upd b r.1.cs).nb := by rw [upd_nb]; exact hA
 refine callP (pend_any hL a (mm.upd b r.1.cs) hnb r.2 hra.ok 0 k1) (fun v m' hz => .inr ?_) ?_
 ·obtain ⟨hk, hz⟩ := hz
  rw [k1, hk] at hq
  have hq2 : q = r.2.here L 2 := hq.symm
  rw [hq2]
  exact hz
 rintro v m' ⟨hk, rfl⟩
 rw [k1, hk] at hq
 have hq2 : q = r.2 := hq.symm
 rw [hq2]
 refine wS tfPp12 ?_
 (repeat revert X); refine wE tfPp12 ?_; repeat intro X hX
 refine wR Tryz.results15 ?_
 exact leave_rp0 hA hb (cs_withins r.1) rfl ⟨k1, rfl⟩
set_option maxHeartbeats 8000000 in
theorem pProgram_any (t : Str) {L : List Tk} (hL : TksOk L) (hW : ∀ m : M, ACalls Tryz.prog 29 [pS t] m (fun v m' => v = .tp [.sl .no (L.map Tk.pv), .v .nilIface] ∧ m' = m)) (m : M) : ACalls Tryz.prog 25 [pS t] m (fun v m' => v = .tp [.ag [.sl .no ((rProgW L).1.1.map En.pv), .sl .no ((rProgW L).1.2.map No.pv)], errW (rProgW L).2.1 (rProgW L).2.2.1 (rProgW L).2.2.2] ∧ m' = m) := by
 obtain ⟨r, hr⟩ : ∃ r, rProg L (L.length + 1) [] [] ⟨0, 0, 0, 0⟩ = r := ⟨_, rfl⟩
 have hun : rProgW L = if r.2.k == 0 then (r.1, 0, 0, 0) else (([], []), r.2.k, r.2.l, r.2.c) := by unfold rProgW; rw [hr]
 have hc := proC hL (m.nb + 1)
 rw [hr] at hc
 refine eN [2, 4] Tryz.func25 ?_
 (repeat revert X); refine wE tfPp12 ?_; repeat intro X hX
 refine callM (read_any t hW 54 (m.nb + 1) hc (fun _ _ => rfl) _ (by rw [ext_nb]; simp) (ext_get (i := 1) rfl)) ?_
 rintro v m' (⟨h1, rfl, rfl⟩ | ⟨h1, rfl, C, hp, rfl⟩)
 ·have hk : (r.2.k == 0) = true := by rw [h1]; rfl
  rw [hk, if_pos rfl] at hun
  rw [ext_upd (i := 1) rfl]
  simp only [List.set_cons_succ, List.set_cons_zero]
  refine wS aEQ_t ?_
  (repeat revert X); refine wE tfPp12 ?_; repeat intro X hX
  refine wQ Tryz.results25 tfPp12 ?_
  exact leave_ext rfl ⟨by rw [hun]; rfl, rfl⟩
 ·have hk : (r.2.k == 0) = false := by simpa using h1
  rw [hk, if_neg (by simp)] at hun
  have he : errW r.2.k r.2.l r.2.c = pA r.2.l r.2.c r.2.k := by unfold errW; rw [hk]; rfl
  rw [ext_upd (i := 1) rfl]
  simp only [List.set_cons_succ, List.set_cons_zero]
  refine wS aEQ_t ?_
  (repeat revert X); refine wE tfPp12 ?_; repeat intro X hX
  refine wQ Tryz.results25 tfPp12 ?_
  exact leave_ext rfl ⟨by rw [hun]; simp only [he]; rfl, rfl⟩
set_option maxHeartbeats 8000000 in
theorem pExpr_any (t : Str) {L : List Tk} (hL : TksOk L) (hW : ∀ m : M, ACalls Tryz.prog 29 [pS t] m (fun v m' => v = .tp [.sl .no (L.map Tk.pv), .v .nilIface] ∧ m' = m)) (m : M) : ACalls Tryz.prog 7 [pS t] m (fun v m' => v = .tp [(rExprW L).1.pv, errW (rExprW L).2.1 (rExprW L).2.2.1 (rExprW L).2.2.2] ∧ m' = m) := by
 obtain ⟨r, hr⟩ : ∃ r, eX L 0 ⟨0, 0, 0, 0⟩ = r := ⟨_, rfl⟩
 obtain ⟨q, hq⟩ : ∃ q, (if r.2.k == 0 && !((r.2.tk L).kind == 0) then r.2.here L 2 else r.2) = q := ⟨_, rfl⟩
 have hun : rExprW L = if q.k == 0 then (r.1, 0, 0, 0) else (z0, q.k, q.l, q.c) := by rw [← hq, ← hr]; rfl
 have hc := expC hL (m.nb + 1)
 rw [hr, hq] at hc
 refine eN [2, 4] Tryz.func7 ?_
 (repeat revert X); refine wE tfPp12 ?_; repeat intro X hX
 refine callM (read_any t hW 15 (m.nb + 1) hc (cs_withins r.1) _ (by rw [ext_nb]; simp) (ext_get (i := 1) rfl)) ?_
 rintro v m' (⟨h1, rfl, rfl⟩ | ⟨h1, rfl, C, hp, rfl⟩)
 ·have hk : (q.k == 0) = true := by rw [h1]; rfl
  rw [hk, if_pos rfl] at hun
  rw [ext_upd (i := 1) rfl]
  simp only [List.set_cons_succ, List.set_cons_zero]
  have hcs : r.1.cs = [.v (.int .u8 r.1.kind), .v (.int .u8 r.1.op), .v (.int .i32 r.1.n), .v (.string r.1.name), .sl .no (r.1.names.map pS), .sl .no (r.1.kids.map Ex.pv), .v (.int .i64 r.1.line), .v (.int .i64 r.1.col)] := rfl
  rw [hcs]
  refine wS aEQ_t ?_
  (repeat revert X); refine wE tfPp12 ?_; repeat intro X hX
  refine wQ Tryz.results7 tfPp12 ?_
  exact leave_ext (by simp only [PV.settle, PV.settles, Ex.settle_pv, PV.pure, PV.pures, Ex.pure_pv, Bool.and_self]) ⟨by rw [hun]; simp only [PV.settle, PV.settles, Ex.settle_pv]; rfl, rfl⟩
 ·have hk : (q.k == 0) = false := by simpa using h1
  rw [hk, if_neg (by simp)] at hun
  have he : errW q.k q.l q.c = pA q.l q.c q.k := by unfold errW; rw [hk]; rfl
  rw [ext_upd (i := 1) rfl]
  simp only [List.set_cons_succ, List.set_cons_zero]
  refine wS aEQ_t ?_
  (repeat revert X); refine wE tfPp12 ?_; repeat intro X hX
  refine wQ Tryz.results7 tfPp12 ?_
  exact leave_ext rfl ⟨by rw [hun]; simp only [he]; rw [Ex.pv_eq]; rfl, rfl⟩
end Go.Proofs.YtohgdopfjkjppaaGreatDoor
