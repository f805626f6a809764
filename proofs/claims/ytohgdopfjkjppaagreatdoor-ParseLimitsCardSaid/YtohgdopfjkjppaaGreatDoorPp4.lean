/-
 parse's reader: merges, atoms, all of expressions.
-/
-- halved
import Derived.Test.YtohgdopfjkjppaaGreatDoorAbMac
import Derived.Test.YtohgdopfjkjppaaGreatDoorPp3b
set_option linter.unusedSectionVars false
set_option linter.unusedVariables false
set_option linter.unusedSimpArgs false
namespace Go.Proofs.YtohgdopfjkjppaaGreatDoor
open Nat renaming reduceEqDiff → jA, reduceAdd → jB, reduceMul → jC, reduceLT → jD, reduceLeDiff → jE, reduceBEq → jF, reduceBNe → jG
open Int renaming reduceLE → jH, reduceLT → jI, reduceToNat → jJ, reduceEq → jK
open Go
set_option maxRecDepth 20000
set_option linter.defProp false
def tfPp4 := tfPp1

def isP1 (L : List Tk) (a : Nat) (m : M) (c : List PV) (d : Int) (m2 : M) : Prop := ∃ ts x i r, m2 = pst L a ((⟨m.boxes, ts⟩ : M).ext (x :: some c :: r)) i d
theorem isP1_all {L : List Tk} {a : Nat} {m : M} {c : List PV} {d : Int} {Q : M → Prop} : (∀ m2, isP1 L a m c d m2 → Q m2) = ∀ ts x i r, Q (pst L a ((⟨m.boxes, ts⟩ : M).ext (x :: some c :: r)) i d) :=
 propext ⟨fun h ts x i r => h _ ⟨ts, x, i, r, rfl⟩, fun h m2 ⟨ts, x, i, r, e⟩ => e ▸ h ts x i r⟩
theorem isP1_of {L : List Tk} {a : Nat} {m mm : M} {c : List PV} {x : Option (List PV)} {r : List (Option (List PV))} {i : Nat} {d : Int} (h : mm.boxes = m.boxes) : isP1 L a m c d (pst L a (mm.ext (x :: some c :: r)) i d) := by
 refine ⟨mm.toks, x, i, r, ?_⟩
 rw [← h]
theorem pst_gx1 {L : List Tk} {a : Nat} {m : M} {c : List PV} {ts : List (Option Nat)} {x : Option (List PV)} {r : List (Option (List PV))} {i : Nat} {d : Int} (hA : a < m.nb) : (pst L a ((⟨m.boxes, ts⟩ : M).ext (x :: some c :: r)) i d).get (m.nb + 1) = some c := by
 have := pst_own (L := L) (a := a) (m := (⟨m.boxes, ts⟩ : M)) (i := i) (d := d) (bs := x :: some c :: r) (k := m.nb) (j := 1) rfl hA
 rw [this]; rfl
theorem pbool_any (b : Bool) (m : M) : ACalls Tryz.prog 126 [pB b] m (fun v m' => v = (Ex.mk 2 0 (if b then 1 else 0) ⟨#[]⟩ [] [] 0 0).pv ∧ m' = m) := by
 cases b <;> (
  refine eN [2] Tryz.func126 ?_
  (repeat revert X); refine wE (And.intro tfPp4 @pB.eq_1) ?_; repeat intro X hX
  refine wQ Tryz.results126 tfPp4 ?_
  exact leave_ext rfl ⟨by rw [Ex.pv_eq]; rfl, rfl⟩)
section
variable {L : List Tk} (hL : TksOk L) {f : Nat} (IH : ∀ g, g ≤ f → PExC L g)
include hL IH
set_option maxHeartbeats 16000000 in
theorem pmerge_step (a : Nat) (m : M) (hA : a < m.nb) (s : PS) (hs : s.ok L) (k0 : s.k = 0) (hw : s.is L wMerge = true) (d : Int) (hd : 0 ≤ d ∧ d ≤ 64) (hf : mu L s ≤ f) : ACallsZ Tryz.prog 127 [.bp a 0] (pst L a m s.i d) (RP L a m d (rMerge L f d (s.tk L) (rName L 2 s.nx).1 [] [] (rName L 2 s.nx).2).1.pv (rMerge L f d (s.tk L) (rName L 2 s.nx).1 [] [] (rName L 2 s.nx).2).2) (ZP L a m (rMerge L f d (s.tk L) (rName L 2 s.nx).1 [] [] (rName L 2 s.nx).2).2) := by
 have a1 := is_adv hL hs hw
 have m1 := mu_nx hL hs k0 (is_of hw).2.1
 have a2 := name_adv hL a1.ok (kd := 2) (by decide)
 have m2 := mu_le a2
 obtain ⟨r, hr0⟩ : ∃ r, rMerge L f d (s.tk L) (rName L 2 s.nx).1 [] [] (rName L 2 s.nx).2 = r := ⟨_, rfl⟩
 have e1 : Adv L (rName L 2 s.nx).2 r.2 := by rw [← hr0]; exact (exL hL f).merge d _ _ _ _ _ a2.ok (by omega)
 have hww : s.want L wMerge = s.nx := by unfold PS.want; rw [if_pos hw]
 have e0 : Adv L (s.want L wMerge) r.2 := by rw [hww]; exact a2.trans e1
 rw [hr0]
 refine eZ [2, 3] Tryz.func127 ?_
 (repeat revert X); refine wE (And.intro tfPp4 hA) ?_; repeat intro X hX
 refine callM (ptok_any hL a _ xA s hs d) ?_
 rintro v m' ⟨rfl, rfl⟩
 generalize s.tk L = t at *
 refine wS (And.intro tfPp4 hA) ?_
 (repeat revert X); refine wE (And.intro tfPp4 hA) ?_; repeat intro X hX
 refine callP (pwant_any hL a _ xA s hs d k0 wMerge) (by first | exact zz hA (.refl m) (e0) | exact zz0 hA (.refl m) (e0)) ?_
 rintro v m' ⟨k1, rfl⟩
 rw [hww] at k1 ⊢
 refine wS (And.intro tfPp4 hA) ?_
 (repeat revert X); refine wE (And.intro tfPp4 hA) ?_; repeat intro X hX
 refine callP (pname_any hL a _ xA s.nx a1.ok d k1 2) (by first | exact zz hA (.refl m) (e1) | exact zz0 hA (.refl m) (e1)) ?_
 rintro v m' ⟨k2, rfl, rfl⟩
 generalize rName L 2 s.nx = x at *
 refine wS (And.intro tfPp4 hA) ?_
 (repeat revert X); refine wE aEQ_t ?_; repeat intro X hX
 obtain ⟨I, hI⟩ : ∃ I : Nat → F → M → Prop, ∀ n g m', I n g m' = (∃ (ns : List Str) (ks : List Ex) (s1 : PS) (on ok : Own) (mm : M), s1.ok L ∧ s1.k = 0 ∧ mu L s1 + 1 ≤ n ∧ n ≤ f ∧ ks.length ≤ 32 ∧ ns.length = ks.length ∧ r = rMerge L n d t x.1 ns ks s1 ∧ g 0 = .bp a 0 ∧ g 2 = .bp m.nb 0 ∧ g 3 = .bp (m.nb + 1) 0 ∧ m' = pst L a (mm.ext [some [.v (.int .u8 0), .v (.int .u8 0), .v (.int .i32 0), .v (.string ⟨#[]⟩), .sl .full [], .sl .full [], .v (.int .i64 0), .v (.int .i64 0)], some [.v (.int .u8 13), .v (.int .u8 0), .v (.int .i32 0), .v (.string x.1), .sl on (ns.map pS), .sl ok (ks.map Ex.pv), .v (.int .i64 t.line), .v (.int .i64 t.col)]]) s1.i d ∧ Toks m mm ∧ Mine m mm on 1 ∧ Mine m mm ok 8 ∧ (∀ t, on = .tok t → ok ≠ .tok t)) := ⟨_, fun _ _ _ => rfl⟩
 refine aLoopN I f ?_ ?_
 ·rw [hI]; exact ⟨[], [], x.2, .full, .full, m, a2.ok, k2, by omega, Nat.le_refl _, by decide, rfl, hr0.symm, rfl, rfl, rfl, rfl, .refl m, .full, .full, fun t h => by cases h⟩
 clear e0 e1 hr0
 intro W n g m' hrel hW
 rw [hI] at hrel
 obtain ⟨ns, ks, s1, on, ok, mm, hs1, k3, hn, hnf, hkl, hnl, hr, f0, f2, f3, rfl, ht, hon, hok, hne⟩ := hrel
 obtain ⟨n, rfl⟩ : ∃ k, n = k + 1 := ⟨n - 1, by omega⟩
 have hnb := ht.nb
 have hAm : a < mm.nb := by omega
 have hun2 : rMerge L (n + 1) d t x.1 ns ks s1 = if s1.is L wOpen then (if ks.length == 32 then (.mk 13 0 0 x.1 ns ks t.line t.col, s1.here L 3) else rMerge L n d t x.1 (ns ++ [(rCtor L (s1.want L wOpen)).1]) (ks ++ [(rExpr L n d ((rCtor L (s1.want L wOpen)).2.want L wArrow)).1]) ((rExpr L n d ((rCtor L (s1.want L wOpen)).2.want L wArrow)).2.want L wShut)) else (.mk 13 0 0 x.1 ns ks t.line t.col, if ks.length == 0 then s1.here L 2 else s1) := by rw [rMerge]
 obtain ⟨c6, g6⟩ : ∃ b, (ks.length == 0) = b := ⟨_, rfl⟩
 obtain ⟨c7, g7⟩ : ∃ b, (ks.length == 32) = b := ⟨_, rfl⟩
 have g6i : ((ks.length : Int) == 0) = c6 := by rw [← g6]; cases hq : (ks.length == 0) <;> simp at hq ⊢ <;> omega
 have g7i : decide ((ks.length : Int) ≥ 32) = c7 := by rw [← g7]; cases hq : (ks.length == 32) <;> simp at hq ⊢ <;> omega
 rw [g6, g7] at hun2
 (repeat revert X); refine wE (And.intro tfPp4 (And.intro f0 (And.intro f2 (And.intro f3 (And.intro hnb (And.intro hAm hA)))))) ?_; repeat intro X hX
 refine callM (pis_any hL a _ xA s1 hs1 d k3 wOpen) ?_
 rintro v m' ⟨rfl, rfl⟩
 cases h6 : s1.is L wOpen with
 | false =>
  rw [h6, if_neg (by simp)] at hun2
  cases c6 with
  | true =>
   rw [if_pos rfl] at hun2
   have e2 : Adv L (s1.here L 2) r.2 := by rw [hr, hun2]; exact .refl (here_adv hL hs1 2).ok
   refine wS (And.intro tfPp4 (And.intro f0 (And.intro f2 (And.intro f3 (And.intro hnb (And.intro hAm (And.intro hA @pB.eq_1))))))) ?_
   (repeat revert X); refine wE (And.intro tfPp4 (And.intro f0 (And.intro f2 (And.intro f3 (And.intro hnb (And.intro hAm (And.intro hA (And.intro @pB.eq_1 g6i)))))))) ?_; repeat intro X hX
   refine callP (pfail_any hL a _ xA s1 hs1 d k3 2 (by decide)) (by first | exact zz hA (ht) (e2) | exact zz0 hA (ht) (e2)) (fun v m' h => h.elim)
  | false =>
   rw [if_neg (by simp)] at hun2
   refine wS (And.intro tfPp4 (And.intro f0 (And.intro f2 (And.intro f3 (And.intro hnb (And.intro hAm (And.intro hA @pB.eq_1))))))) ?_
   (repeat revert X); refine wE (And.intro tfPp4 (And.intro f0 (And.intro f2 (And.intro f3 (And.intro hnb (And.intro hAm (And.intro hA (And.intro @pB.eq_1 g6i)))))))) ?_; repeat intro X hX
   refine wQ Tryz.results127 (And.intro tfPp4 (And.intro f0 (And.intro f2 (And.intro f3 (And.intro hnb (And.intro hAm hA)))))) ?_
   exact leave_pst hA ht rfl ⟨by rw [hr, hun2]; exact k3, by rw [hr, hun2, Ex.pv_eq]; rfl, by rw [hr, hun2]⟩
 | true =>
 rw [h6, if_pos rfl] at hun2
 cases c7 with
 | true =>
  rw [if_pos rfl] at hun2
  have e2 : Adv L (s1.here L 3) r.2 := by rw [hr, hun2]; exact .refl (here_adv hL hs1 3).ok
  refine wS (And.intro tfPp4 (And.intro f0 (And.intro f2 (And.intro f3 (And.intro hnb (And.intro hAm (And.intro hA @pB.eq_1))))))) ?_
  (repeat revert X); refine wE (And.intro tfPp4 (And.intro f0 (And.intro f2 (And.intro f3 (And.intro hnb (And.intro hAm (And.intro hA (And.intro @pB.eq_1 g7i)))))))) ?_; repeat intro X hX
  refine callP (pfail_any hL a _ xA s1 hs1 d k3 3 (by decide)) (by first | exact zz hA (ht) (e2) | exact zz0 hA (ht) (e2)) (fun v m' h => h.elim)
 | false =>
 rw [if_neg (by simp)] at hun2
 have hw1 : s1.want L wOpen = s1.nx := by unfold PS.want; rw [if_pos h6]
 have b1 := is_adv hL hs1 h6
 have n1 := mu_nx hL hs1 (is_of h6).1 (is_of h6).2.1
 rw [hw1] at hun2
 have b2 := ctor_adv hL b1.ok
 have b3 := want_adv hL b2.ok wArrow
 have n3 := mu_le (b2.trans b3)
 have b4 := ((exL hL n).expr d _ b3.ok (by omega)).1
 have b5 := want_adv hL b4.ok wShut
 have n5 := mu_le (b4.trans b5)
 have hce := (IH n (by omega)).expr a
 have hk33 : ks.length < 32 := by have : ks.length ≠ 32 := by simpa using g7
                                  omega
 have e5 : Adv L ((rExpr L n d ((rCtor L s1.nx).2.want L wArrow)).2.want L wShut) r.2 := by rw [hr, hun2]; exact (exL hL n).merge d _ _ _ _ _ b5.ok (by omega)
 have e4 := b5.trans e5
 have e3 := b4.trans e4
 have e2 := b3.trans e3
 have e1 := b2.trans e2
 refine wS (And.intro tfPp4 (And.intro f0 (And.intro f2 (And.intro f3 (And.intro hnb (And.intro hAm (And.intro hA @pB.eq_1))))))) ?_
 (repeat revert X); refine wE (And.intro tfPp4 (And.intro f0 (And.intro f2 (And.intro f3 (And.intro hnb (And.intro hAm (And.intro hA (And.intro @pB.eq_1 g7i)))))))) ?_; repeat intro X hX
 refine callP (pwant_any hL a _ xA s1 hs1 d k3 wOpen) (by first | exact zz hA (ht) ((by rw [hw1]; exact e1)) | exact zz0 hA (ht) ((by rw [hw1]; exact e1))) ?_
 rintro v m' ⟨k4, rfl⟩
 rw [hw1] at k4 ⊢
 refine wS (And.intro tfPp4 (And.intro f0 (And.intro f2 (And.intro f3 (And.intro hnb (And.intro hAm hA)))))) ?_
 (repeat revert X); refine wE aEQ_t ?_; repeat intro X hX
 refine aDrwEZ 3 (isP1 L a m [.v (.int .u8 13), .v (.int .u8 0), .v (.int .i32 0), .v (.string x.1), .sl on (ns.map pS), .sl ok (ks.map Ex.pv), .v (.int .i64 t.line), .v (.int .i64 t.col)] d) (by decide) (hne := List.cons_ne_nil _ _) rfl (by kernel_rfl) rfl rfl (by kernel_rfl) (by kernel_rfl) (isP1_of ht.boxes) ?_
 simp -implicitDefEqProofs only [↓slp, slb, ↓reduceIte, reduceCtorEq, jA, jB, jC, jD, jE, jF, jG, jH, jI, jJ, jK, tfPp4, isP1_all, forall_const, List.dropLast_cons_cons, List.dropLast_singleton, List.getLast_cons_cons, List.getLast_singleton, List.getElem_cons_zero, List.getElem_cons_succ, List.take_succ_cons, List.drop_succ_cons, List.take_zero, List.drop_zero, f0, f2, f3, hnb, hAm, hA, pst_gx1]
 refine callP (pctor_any hL a _ xA s1.nx b1.ok k4 d) (by first | exact zz hA (ht) (e2) | exact zz0 hA (ht) (e2)) ?_
 rintro v m' ⟨k5, rfl, rfl⟩
 generalize rCtor L s1.nx = c at *
 refine ⟨isP1_of ht.boxes, ?_⟩
 have hfree := hon.free
 have q1 : ns.length + 1 ≤ maxLen := by unfold maxLen; omega
 have q2 : (ns.length + 1) * 16 ≤ 140737488355328 := by omega
 have q3 := strs_one1 ns
 simp -implicitDefEqProofs only [↓slp, slb, ↓reduceIte, reduceCtorEq, jA, jB, jC, jD, jE, jF, jG, jH, jI, jJ, jK, tfPp4, f0, f2, f3, hnb, hAm, hA, isP1_all, pst_gx1, forall_const, List.dropLast_cons_cons, List.dropLast_singleton, List.getLast_cons_cons, List.getLast_singleton, List.getElem_cons_zero, List.getElem_cons_succ, List.take_succ_cons, List.drop_succ_cons, List.take_zero, List.drop_zero]
 (repeat ((apply And.intro; (focus (trivial)))))
 have ht1 := ht.use (s := 1) hon
 have hok1 := Mine.other (o := on) (s := 1) hok hne
 have hon1 := Mine.new ht on 1
 have hne1 : ∀ t, Own.tok mm.nt = .tok t → ok ≠ .tok t := hok.ne_new
 refine ⟨isP1_of ht1.boxes, ?_⟩
 have hnb1 := ht1.nb
 have hA1 : a < ((on.use mm).fresh 1).nb := by omega
 generalize (on.use mm).fresh 1 = m1 at *
 generalize Own.tok mm.nt = o1 at *
 clear ht hon hok hne hnb hAm
 (repeat revert X); refine wE (And.intro tfPp4 (And.intro f0 (And.intro f2 (And.intro f3 (And.intro hnb1 (And.intro hA1 hA)))))) ?_; repeat intro X hX
 refine callP (pwant_any hL a _ xA _ b2.ok d k5 wArrow) (by first | exact zz hA (ht1) (e3) | exact zz0 hA (ht1) (e3)) ?_
 rintro v m' ⟨k6, rfl⟩
 refine wS (And.intro tfPp4 (And.intro f0 (And.intro f2 (And.intro f3 (And.intro hnb1 (And.intro hA1 hA)))))) ?_
 (repeat revert X); refine wE aEQ_t ?_; repeat intro X hX
 refine aDrwEZ 3 (isP1 L a m [.v (.int .u8 13), .v (.int .u8 0), .v (.int .i32 0), .v (.string x.1), .sl o1 (ns.map pS ++ [.v (.string c.1)]), .sl ok (ks.map Ex.pv), .v (.int .i64 t.line), .v (.int .i64 t.col)] d) (by decide) (hne := List.cons_ne_nil _ _) rfl (by kernel_rfl) rfl rfl (by kernel_rfl) (by kernel_rfl) (isP1_of ht1.boxes) ?_
 simp -implicitDefEqProofs only [↓slp, slb, ↓reduceIte, reduceCtorEq, jA, jB, jC, jD, jE, jF, jG, jH, jI, jJ, jK, tfPp4, isP1_all, forall_const, List.dropLast_cons_cons, List.dropLast_singleton, List.getLast_cons_cons, List.getLast_singleton, List.getElem_cons_zero, List.getElem_cons_succ, List.take_succ_cons, List.drop_succ_cons, List.take_zero, List.drop_zero, f0, f2, f3, hnb1, hA1, hA, pst_gx1]
 refine callP (hce _ xA _ b3.ok k6 d hd (by omega)) (by first | exact zz hA (ht1) (e4) | exact zz0 hA (ht1) (e4)) ?_
 rintro v m' ⟨k7, rfl, rfl⟩
 generalize rExpr L n d (c.2.want L wArrow) = y at *
 refine ⟨isP1_of ht1.boxes, ?_⟩
 have hfree := hok1.free
 have q1 : ks.length + 1 ≤ maxLen := by unfold maxLen; omega
 have q2 : (ks.length + 1) * 88 ≤ 140737488355328 := by omega
 have q3 := exs_one8 ks
 simp -implicitDefEqProofs only [↓slp, slb, ↓reduceIte, reduceCtorEq, jA, jB, jC, jD, jE, jF, jG, jH, jI, jJ, jK, tfPp4, f0, f2, f3, hnb1, hA1, hA, isP1_all, pst_gx1, forall_const, List.dropLast_cons_cons, List.dropLast_singleton, List.getLast_cons_cons, List.getLast_singleton, List.getElem_cons_zero, List.getElem_cons_succ, List.take_succ_cons, List.drop_succ_cons, List.take_zero, List.drop_zero]
 (repeat ((apply And.intro; (focus (trivial)))))
 have ht2 := ht1.use (s := 8) hok1
 have hon2 := Mine.other (o := ok) (s := 8) hon1 (fun t h1 h2 => hne1 t h2 h1)
 have hok2 := Mine.new ht1 ok 8
 have hne2 : ∀ t, o1 = .tok t → Own.tok m1.nt ≠ .tok t := hon1.new_ne
 refine ⟨isP1_of ht2.boxes, ?_⟩
 have hnb2 := ht2.nb
 have hA2 : a < ((ok.use m1).fresh 8).nb := by omega
 generalize (ok.use m1).fresh 8 = m2' at *
 generalize Own.tok m1.nt = o2 at *
 (repeat revert X); refine wE (And.intro tfPp4 (And.intro f0 (And.intro f2 (And.intro f3 (And.intro hnb2 (And.intro hA2 hA)))))) ?_; repeat intro X hX
 refine callP (pwant_any hL a _ xA _ b4.ok d k7 wShut) (by first | exact zz hA (ht2) (e5) | exact zz0 hA (ht2) (e5)) ?_
 rintro v m' ⟨k8, rfl⟩
 refine wS (And.intro tfPp4 (And.intro f0 (And.intro f2 (And.intro f3 (And.intro hnb2 (And.intro hA2 hA)))))) ?_
 (repeat revert X); refine wE (And.intro tfPp4 (And.intro f0 (And.intro f2 (And.intro f3 (And.intro hnb2 (And.intro hA2 hA)))))) ?_; repeat intro X hX
 refine hW n _ _ (by omega) ?_
 rw [hI]
 exact ⟨ns ++ [c.1], ks ++ [y.1], _, o1, o2, m2', b5.ok, k8, by omega, by omega, by simp; omega, by simp [hnl], by rw [hr, hun2], f0, f2, f3, by rw [List.map_append, List.map_append]; rfl, ht2, hon2, hok2, hne2⟩
set_option maxHeartbeats 16000000 in
theorem patom_step (a : Nat) (m : M) (hA : a < m.nb) (s : PS) (hs : s.ok L) (k0 : s.k = 0) (d : Int) (hd : 0 ≤ d ∧ d ≤ 64) (hf : mu L s + 1 ≤ f + 1) : ACallsZ Tryz.prog 110 [.bp a 0] (pst L a m s.i d) (RP L a m d (rAtom L (f + 1) d s).1.pv (rAtom L (f + 1) d s).2) (ZP L a m (rAtom L (f + 1) d s).2) := by
 have hmem := tk_mem hs
 have hi : IntKind.i64.wrap ((s.i : Int) + 1) = ((s.i + 1 : Nat) : Int) := by have := hs.lt; have := hL.le; rw [wrap64 (by omega)]; omega
 have hnum := hL.num _ hmem
 obtain ⟨r, hr⟩ : ∃ r, rAtom L (f + 1) d s = r := ⟨_, rfl⟩
 rw [hr]
 have hun : r = (if (s.tk L).kind == 1 then
     (if !eqS (s.tk L).text ⟨#[]⟩ && (s.tk L).n == -2147483648 then (atE (s.tk L), s.here L 3) else (.mk 1 0 (s.tk L).n ⟨#[]⟩ [] [] (s.tk L).line (s.tk L).col, s.nx))
  else if (s.tk L).kind == 2 then (.mk 4 0 0 (s.tk L).text [] [] (s.tk L).line (s.tk L).col, s.nx)
  else if (s.tk L).kind == 3 then (.mk 3 0 0 (s.tk L).text [] [] (s.tk L).line (s.tk L).col, s.nx)
  else if s.is L wTrue then (.mk 2 0 1 ⟨#[]⟩ [] [] (s.tk L).line (s.tk L).col, s.nx)
  else if s.is L wFalse then (.mk 2 0 0 ⟨#[]⟩ [] [] (s.tk L).line (s.tk L).col, s.nx)
  else if s.is L wLast then (.mk 5 0 0 (rName L 2 s.nx).1 [] [] (s.tk L).line (s.tk L).col, (rName L 2 s.nx).2)
  else if s.is L wOpen then ((rExpr L f d s.nx).1, (rExpr L f d s.nx).2.want L wShut)
  else if s.is L wMerge then rMerge L f d (s.tk L) (rName L 2 s.nx).1 [] [] (rName L 2 s.nx).2
  else (atE (s.tk L), s.here L 2)) := by rw [← hr, rAtom]
 have nx : ∀ {w : Str}, s.is L w = true → Adv L s s.nx ∧ mu L s.nx + 16 ≤ mu L s := fun {w} hi => ⟨is_adv hL hs hi, mu_nx hL hs (is_of hi).1 (is_of hi).2.1⟩
 have txt : ∀ {w : Str}, s.is L w = true → (s.tk L).text = w := fun h => eqS_iff.1 (is_of h).2.2.2
 have hcm1 := fun (m : M) (hA : a < m.nb) h => pmerge_step hL IH a m hA s hs k0 h d hd (by omega)
 refine eZ [2, 4] Tryz.func110 ?_
 (repeat revert X); refine wE (And.intro tfPp4 hA) ?_; repeat intro X hX
 refine callM (ptok_any hL a _ xA s hs d) ?_
 rintro v m' ⟨rfl, rfl⟩
 generalize hst : s.tk L = t at *
 obtain ⟨c1, g1⟩ : ∃ b, (t.kind == 1) = b := ⟨_, rfl⟩
 obtain ⟨c2, g2⟩ : ∃ b, (t.kind == 2) = b := ⟨_, rfl⟩
 obtain ⟨c3, g3⟩ : ∃ b, (t.kind == 3) = b := ⟨_, rfl⟩
 rw [g1, g2, g3] at hun
 cases c1 with
 | true =>
  have hk : t.kind = 1 := by simpa using g1
  have hte : eqS t.text ⟨#[]⟩ = false := by
   cases h : eqS t.text ⟨#[]⟩ with
   | false => rfl
   | true => exact absurd (eqS_iff.1 h) (hnum hk)
  obtain ⟨c4, g4⟩ : ∃ b, (t.n == -2147483648) = b := ⟨_, rfl⟩
  rw [if_pos rfl, hte, g4, Bool.not_false, Bool.true_and] at hun
  cases c4 with
  | true =>
   rw [if_pos rfl] at hun
   have e2 : Adv L (s.here L 3) r.2 := by rw [hun]; exact .refl (here_adv hL hs 3).ok
   refine wS (And.intro tfPp4 (And.intro hA g1)) ?_
   (repeat revert X); refine wE (And.intro tfPp4 (And.intro hA (And.intro g1 g4))) ?_; repeat intro X hX
   refine callP (pfail_any hL a _ xA s hs d k0 3 (by decide)) (by first | exact zz hA (.refl m) (e2) | exact zz0 hA (.refl m) (e2)) (fun v m' h => h.elim)
  | false =>
   rw [if_neg (by simp)] at hun
   refine wS (And.intro tfPp4 (And.intro hA g1)) ?_
   (repeat revert X); refine wE (And.intro tfPp4 (And.intro hA (And.intro g1 g4))) ?_; repeat intro X hX
   refine aDrw (fun _ => True) (by kernel_rfl) trivial ?_; simp -implicitDefEqProofs only [forall_eq, eq_self, ↓slp, slb, ↓reduceIte, reduceCtorEq, jA, jB, jC, jD, jE, jF, jG, jH, jI, jJ, jK, tfPp4, hA]
   (repeat revert X); refine wE (And.intro tfPp4 (And.intro hA hi)) ?_; repeat intro X hX
   refine wQ Tryz.results110 (And.intro tfPp4 hA) ?_
   exact leave_pst hA (.refl m) rfl ⟨by rw [hun]; exact k0, by rw [hun, Ex.pv_eq]; rfl, by rw [hun]; rfl⟩
 | false =>
 rw [if_neg (by simp)] at hun
 refine wS (And.intro tfPp4 (And.intro hA g1)) ?_
 (repeat revert X); refine wE (And.intro tfPp4 (And.intro hA g1)) ?_; repeat intro X hX
 cases c3 with
 | true =>
  have hk : t.kind = 3 := by simpa using g3
  have h2 : c2 = false := by rw [← g2, hk]; rfl
  rw [h2, if_neg (by simp), if_pos rfl] at hun
  refine wS (And.intro tfPp4 (And.intro hA g3)) ?_
  (repeat revert X); refine wE (And.intro tfPp4 (And.intro hA g3)) ?_; repeat intro X hX
  refine aDrw (fun _ => True) (by kernel_rfl) trivial ?_; simp -implicitDefEqProofs only [forall_eq, eq_self, ↓slp, slb, ↓reduceIte, reduceCtorEq, jA, jB, jC, jD, jE, jF, jG, jH, jI, jJ, jK, tfPp4, hA]
  (repeat revert X); refine wE (And.intro tfPp4 (And.intro hA hi)) ?_; repeat intro X hX
  refine wQ Tryz.results110 (And.intro tfPp4 hA) ?_
  exact leave_pst hA (.refl m) rfl ⟨by rw [hun]; exact k0, by rw [hun, Ex.pv_eq]; rfl, by rw [hun]; rfl⟩
 | false =>
 cases c2 with
 | true =>
  rw [if_pos rfl] at hun
  refine wS (And.intro tfPp4 (And.intro hA (And.intro g2 g3))) ?_
  (repeat revert X); refine wE (And.intro tfPp4 (And.intro hA (And.intro g2 g3))) ?_; repeat intro X hX
  refine aDrw (fun _ => True) (by kernel_rfl) trivial ?_; simp -implicitDefEqProofs only [forall_eq, eq_self, ↓slp, slb, ↓reduceIte, reduceCtorEq, jA, jB, jC, jD, jE, jF, jG, jH, jI, jJ, jK, tfPp4, hA]
  (repeat revert X); refine wE (And.intro tfPp4 (And.intro hA hi)) ?_; repeat intro X hX
  refine wQ Tryz.results110 (And.intro tfPp4 hA) ?_
  exact leave_pst hA (.refl m) rfl ⟨by rw [hun]; exact k0, by rw [hun, Ex.pv_eq]; rfl, by rw [hun]; rfl⟩
 | false =>
 rw [if_neg (by simp), if_neg (by simp)] at hun
 refine wS (And.intro tfPp4 (And.intro hA (And.intro g2 g3))) ?_
 (repeat revert X); refine wE (And.intro tfPp4 (And.intro hA (And.intro g2 g3))) ?_; repeat intro X hX
 refine callM (pis_any hL a _ xA s hs d k0 wTrue) ?_
 rintro v m' ⟨rfl, rfl⟩
 cases h1 : s.is L wTrue with
 | true =>
  have hte : (t.text.toList == (⟨#[116, 114, 117, 101]⟩ : ByteArray).toList) = true := eqS_iff.2 (txt h1)
  rw [h1, if_pos rfl] at hun
  refine wS (And.intro tfPp4 (And.intro hA @pB.eq_1)) ?_
  (repeat revert X); refine wE (And.intro tfPp4 (And.intro hA (And.intro @pB.eq_1 hte))) ?_; repeat intro X hX
  refine callM (pbool_any true _) ?_
  rintro v m' ⟨rfl, rfl⟩
  rw [Ex.pv_eq]
  refine wS (And.intro tfPp4 (And.intro hA @pB.eq_1)) ?_
  (repeat revert X); refine wE (And.intro tfPp4 (And.intro hA (And.intro @pB.eq_1 hi))) ?_; repeat intro X hX
  refine wQ Tryz.results110 (And.intro tfPp4 hA) ?_
  exact leave_pst hA (.refl m) rfl ⟨by rw [hun]; exact k0, by rw [hun, Ex.pv_eq]; rfl, by rw [hun]; rfl⟩
 | false =>
 rw [h1, if_neg (by simp)] at hun
 refine wS (And.intro tfPp4 (And.intro hA @pB.eq_1)) ?_
 (repeat revert X); refine wE (And.intro tfPp4 (And.intro hA @pB.eq_1)) ?_; repeat intro X hX
 refine callM (pis_any hL a _ xA s hs d k0 wFalse) ?_
 rintro v m' ⟨rfl, rfl⟩
 cases h2 : s.is L wFalse with
 | true =>
  have hte : (t.text.toList == (⟨#[116, 114, 117, 101]⟩ : ByteArray).toList) = false := by
   have hq : eqS t.text wTrue = false := by
    cases h : eqS t.text wTrue with
    | false => rfl
    | true =>
     have h9 : s.is L wTrue = true := by unfold PS.is; rw [hst, h, k0, decide_eq_true (hst ▸ (is_of h2).2.2.1)]; rfl
     rw [h9] at h1; cases h1
   exact hq
  rw [h2, if_pos rfl] at hun
  refine wS (And.intro tfPp4 (And.intro hA @pB.eq_1)) ?_
  (repeat revert X); refine wE (And.intro tfPp4 (And.intro hA (And.intro @pB.eq_1 hte))) ?_; repeat intro X hX
  refine callM (pbool_any false _) ?_
  rintro v m' ⟨rfl, rfl⟩
  rw [Ex.pv_eq]
  refine wS (And.intro tfPp4 (And.intro hA @pB.eq_1)) ?_
  (repeat revert X); refine wE (And.intro tfPp4 (And.intro hA (And.intro @pB.eq_1 hi))) ?_; repeat intro X hX
  refine wQ Tryz.results110 (And.intro tfPp4 hA) ?_
  exact leave_pst hA (.refl m) rfl ⟨by rw [hun]; exact k0, by rw [hun, Ex.pv_eq]; rfl, by rw [hun]; rfl⟩
 | false =>
 rw [h2, if_neg (by simp)] at hun
 refine wS (And.intro tfPp4 (And.intro hA @pB.eq_1)) ?_
 (repeat revert X); refine wE (And.intro tfPp4 (And.intro hA @pB.eq_1)) ?_; repeat intro X hX
 refine callM (pis_any hL a _ xA s hs d k0 wLast) ?_
 rintro v m' ⟨rfl, rfl⟩
 cases h3 : s.is L wLast with
 | true =>
  obtain ⟨a1, m1⟩ := nx h3
  have a2 := name_adv hL a1.ok (kd := 2) (by decide)
  rw [h3, if_pos rfl] at hun
  have e2 : Adv L (rName L 2 s.nx).2 r.2 := by rw [hun]; exact .refl a2.ok
  refine wS (And.intro tfPp4 (And.intro hA @pB.eq_1)) ?_
  (repeat revert X); refine wE (And.intro tfPp4 (And.intro hA (And.intro @pB.eq_1 hi))) ?_; repeat intro X hX
  refine callP (pname_any hL a _ xA s.nx a1.ok d k0 2) (by first | exact zz hA (.refl m) (e2) | exact zz0 hA (.refl m) (e2)) ?_
  rintro v m' ⟨k1, rfl, rfl⟩
  generalize rName L 2 s.nx = x at *
  refine wS (And.intro tfPp4 hA) ?_
  (repeat revert X); refine wE (And.intro tfPp4 hA) ?_; repeat intro X hX
  refine wQ Tryz.results110 (And.intro tfPp4 hA) ?_
  exact leave_pst hA (.refl m) rfl ⟨by rw [hun]; exact k1, by rw [hun, Ex.pv_eq]; rfl, by rw [hun]⟩
 | false =>
 rw [h3, if_neg (by simp)] at hun
 refine wS (And.intro tfPp4 (And.intro hA @pB.eq_1)) ?_
 (repeat revert X); refine wE (And.intro tfPp4 (And.intro hA @pB.eq_1)) ?_; repeat intro X hX
 refine callM (pis_any hL a _ xA s hs d k0 wOpen) ?_
 rintro v m' ⟨rfl, rfl⟩
 cases h4 : s.is L wOpen with
 | true =>
  obtain ⟨a1, m1⟩ := nx h4
  rw [h4, if_pos rfl] at hun
  have a2 := ((exL hL f).expr d _ a1.ok (by omega)).1
  have a3 := want_adv hL a2.ok wShut
  have hce := (IH f (Nat.le_refl _)).expr a
  have e3 : Adv L ((rExpr L f d s.nx).2.want L wShut) r.2 := by rw [hun]; exact .refl a3.ok
  have e2 := a3.trans e3
  refine wS (And.intro tfPp4 (And.intro hA @pB.eq_1)) ?_
  (repeat revert X); refine wE (And.intro tfPp4 (And.intro hA (And.intro @pB.eq_1 hi))) ?_; repeat intro X hX
  refine callP (hce _ xA s.nx a1.ok k0 d hd (by omega)) (by first | exact zz hA (.refl m) (e2) | exact zz0 hA (.refl m) (e2)) ?_
  rintro v m' ⟨k1, rfl, rfl⟩
  generalize rExpr L f d s.nx = x at *
  refine wS (And.intro tfPp4 hA) ?_
  (repeat revert X); refine wE (And.intro tfPp4 hA) ?_; repeat intro X hX
  refine callP (pwant_any hL a _ xA _ a2.ok d k1 wShut) (by first | exact zz hA (.refl m) (e3) | exact zz0 hA (.refl m) (e3)) ?_
  rintro v m' ⟨k2, rfl⟩
  refine wS (And.intro tfPp4 hA) ?_
  (repeat revert X); refine wE (And.intro tfPp4 hA) ?_; repeat intro X hX
  refine wQ Tryz.results110 (And.intro tfPp4 hA) ?_
  exact leave_pstE hA (.refl m) ⟨by rw [hun]; exact k2, by rw [hun], by rw [hun]⟩
 | false =>
 rw [h4, if_neg (by simp)] at hun
 refine wS (And.intro tfPp4 (And.intro hA @pB.eq_1)) ?_
 (repeat revert X); refine wE (And.intro tfPp4 (And.intro hA @pB.eq_1)) ?_; repeat intro X hX
 refine callM (pis_any hL a _ xA s hs d k0 wMerge) ?_
 rintro v m' ⟨rfl, rfl⟩
 cases h5 : s.is L wMerge with
 | false =>
  rw [h5, if_neg (by simp)] at hun
  have e2 : Adv L (s.here L 2) r.2 := by rw [hun]; exact .refl (here_adv hL hs 2).ok
  refine wS (And.intro tfPp4 (And.intro hA @pB.eq_1)) ?_
  (repeat revert X); refine wE (And.intro tfPp4 (And.intro hA @pB.eq_1)) ?_; repeat intro X hX
  refine callP (pfail_any hL a _ xA s hs d k0 2 (by decide)) (by first | exact zz hA (.refl m) (e2) | exact zz0 hA (.refl m) (e2)) (fun v m' h => h.elim)
 | true =>
  rw [h5, if_pos rfl] at hun
  have hok := (exL hL (f + 1)).atom d s hs k0 (by omega)
  rw [hr] at hok
  refine wS (And.intro tfPp4 (And.intro hA @pB.eq_1)) ?_
  (repeat revert X); refine wE (And.intro tfPp4 (And.intro hA @pB.eq_1)) ?_; repeat intro X hX
  refine callP (hcm1 _ xA h5) (by rw [← hun]; exact (by first | exact zz hA (.refl m) (.refl hok.1.ok) | exact zz0 hA (.refl m) (.refl hok.1.ok))) ?_
  rintro v m' ⟨k1, rfl, rfl⟩
  rw [← hun] at k1 ⊢
  refine wS (And.intro tfPp4 hA) ?_
  (repeat revert X); refine wE aEQ_t ?_; repeat intro X hX
  refine wQ Tryz.results110 (And.intro tfPp4 hA) ?_
  exact leave_pstE hA (.refl m) ⟨k1, rfl, rfl⟩
end
theorem pexC {L : List Tk} (hL : TksOk L) : ∀ f, ∀ g, g ≤ f → PExC L g
 | 0, g, hg => by
  obtain rfl : g = 0 := by omega
  exact ⟨fun _ _ _ _ _ _ _ _ h => by omega, fun _ _ _ _ _ _ _ _ _ h => by omega, fun _ _ _ _ _ _ _ _ _ h => by omega, fun _ _ _ _ _ _ _ _ h => by omega, fun _ _ _ _ _ _ _ _ h => by omega⟩
 | f + 1, g, hg => by
  have IH := pexC hL f
  by_cases h : g ≤ f
  ·exact IH g h
  ·obtain rfl : g = f + 1 := by omega
   exact ⟨fun a m hA s hs k0 d hd hf => pexpr_step hL IH a m hA s hs k0 d hd hf, fun a m hA s hs k0 d hd t hf => pfull_step hL IH a m hA s hs k0 d hd t hf, fun a m hA s hs k0 d hd l hf => pbinary_step hL IH a m hA s hs k0 d hd l hf, fun a m hA s hs k0 d hd hf => punary_step hL IH a m hA s hs k0 d hd hf, fun a m hA s hs k0 d hd hf => patom_step hL IH a m hA s hs k0 d hd hf⟩
section
variable {L : List Tk} (hL : TksOk L) (a : Nat) (m : M) (hA : a < m.nb) (s : PS) (hs : s.ok L) (k0 : s.k = 0) (d : Int) (hd : 0 ≤ d ∧ d ≤ 64)
include hL hA hs k0 hd
theorem peX_any : ACallsZ Tryz.prog 16 [.bp a 0] (pst L a m s.i d) (RP L a m d (eX L d s).1.pv (eX L d s).2) (ZP L a m (eX L d s).2) := by
 have := mu_fx (L := L) (s := s)
 exact (pexC hL (fx L) _ (Nat.le_refl _)).expr a m hA s hs k0 d hd (by unfold fx; omega)
theorem punX_any : ACallsZ Tryz.prog 91 [.bp a 0] (pst L a m s.i d) (RP L a m d (rUnary L (fx L) d s).1.pv (rUnary L (fx L) d s).2) (ZP L a m (rUnary L (fx L) d s).2) := by
 have := mu_fx (L := L) (s := s)
 exact (pexC hL (fx L) _ (Nat.le_refl _)).unary a m hA s hs k0 d hd (by unfold fx; omega)
end
end Go.Proofs.YtohgdopfjkjppaaGreatDoor
