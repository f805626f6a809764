/-
 Texts that belong together: Pp1, Pp2.
-/
-- halved
import Derived.Test.YtohgdopfjkjppaaGreatDoorAbMac
import Derived.Test.YtohgdopfjkjppaaGreatDoorQA
import Derived.Test.YtohgdopfjkjppaaGreatDoorDnA
import Derived.Test.YtohgdopfjkjppaaGreatDoorRB
set_option linter.unusedSectionVars false
set_option linter.unusedVariables false
set_option linter.unusedSimpArgs false
namespace Go.Proofs.YtohgdopfjkjppaaGreatDoor
open Nat renaming reduceEqDiff → jA, reduceAdd → jB, reduceMul → jC, reduceLT → jD, reduceLeDiff → jE, reduceBEq → jF, reduceBNe → jG
open Int renaming reduceLE → jH, reduceLT → jI, reduceToNat → jJ, reduceEq → jK
open Go
set_option maxRecDepth 20000
set_option linter.defProp false
def tfPp1 := And.intro @tfA (And.intro @Ex.settle_pv (And.intro @Ex.pure_pv (And.intro @Ex.cells_pv (And.intro @Ex.cs.eq_1 (And.intro @On.pv.eq_1 (And.intro @Ty.pv.eq_1 (And.intro @Va.settle_pv (And.intro @Va.pure_pv (And.intro @Va.cells_pv (And.intro @Va.cs.eq_1 (And.intro @Tk.settle_pv (And.intro @Tk.pure_pv (And.intro @Tk.cells_pv (And.intro @Tk.pv.eq_1 (And.intro @Tk.cs.eq_1 (And.intro @pst_nb (And.intro @pst_nt (And.intro @pst_fresh (And.intro @pst_use (And.intro @pst_free (And.intro @pst_alive (And.intro @pst_a (And.intro @pst_upda (And.intro @pst_ext (And.intro @pst_ext2 (And.intro @pst_ea (And.intro @pst_own (And.intro @pst_own0 (And.intro @pst_ou @pst_ou0)))))))))))))))))))))))))))))

abbrev pK (k : Int) : PV := .ifc 34 (.v (.int .i64 k))
abbrev pA (l c : Int) (k : Int) : PV := .ifc 59 (.ep [.v (.int .i64 l), .v (.int .i64 c), .v (.string ⟨#[]⟩), .v (.bool false), pK k])
abbrev pStop (l c k : Int) : PV := .ifc 77 (.ag [pA l c k])
abbrev pPos (l c : Int) : PV := .ag [.v (.int .i64 l), .v (.int .i64 c)]
def ZP (L : List Tk) (a : Nat) (m : M) (r : PS) (v : PV) (m' : M) : Prop := r.k ≠ 0 ∧ v = pStop r.l r.c r.k ∧ ∃ i d, m' = pst L a m i d
theorem zz {L : List Tk} {a : Nat} {m mm : M} {bs : List (Option (List PV))} {s r : PS} {i : Nat} {d : Int} (hA : a < m.nb) (ht : Toks m mm) (hadv : Adv L s r) : ∀ v m', ZP L a (mm.ext bs) s v m' → LeaveZ (pst L a m i d) (ZP L a m r) v m' := by
 rintro v m' ⟨h1, rfl, i', d', rfl⟩
 have := hadv.st h1
 subst this
 exact leave_pst hA ht rfl ⟨h1, rfl, i', d', rfl⟩
theorem zz0 {L : List Tk} {a : Nat} {m mm : M} {s r : PS} {i : Nat} {d : Int} (hA : a < m.nb) (ht : Toks m mm) (hadv : Adv L s r) : ∀ v m', ZP L a mm s v m' → LeaveZ (pst L a m i d) (ZP L a m r) v m' := by
 rintro v m' ⟨h1, rfl, i', d', rfl⟩
 have := hadv.st h1
 subst this
 exact leave_pst0 hA ht rfl ⟨h1, rfl, i', d', rfl⟩
theorem ptk_at {L : List Tk} {s : PS} (hs : s.ok L) : (L.map Tk.pv).getD s.i PV.junk = .ag [.v (.int .u8 (s.tk L).kind), .v (.string (s.tk L).text), .v (.int .i32 (s.tk L).n), .v (.int .i64 (s.tk L).line), .v (.int .i64 (s.tk L).col)] := by
 rw [getD_map Tk.pv L s.i hs.lt]
 unfold PS.tk tkA
 rw [List.getD_eq_getElem?_getD, List.getElem?_eq_getElem hs.lt, Option.getD_some]
 rfl
theorem fail0 {L : List Tk} {s : PS} {k l c : Int} (h : s.k = 0) : s.fail L k l c = ⟨L.length - 1, k, l, c⟩ := by unfold PS.fail; rw [if_pos h]
theorem pfault_any (k l c : Int) (hk : (k == 0) = false) (m : M) : ACalls Tryz.prog 36 [.v (.int .i64 k), pPos l c] m (fun v m' => v = pA l c k ∧ m' = m) := by
 refine eN [] Tryz.func36 ?_
 (repeat revert X); refine wW (And.intro tfPp1 hk) ?_; repeat intro X hX
 refine aIf ?_; simp -implicitDefEqProofs only [slb, ↓reduceIte]
 (repeat revert X); refine wW tfPp1 ?_; repeat intro X hX
 refine wR Tryz.results36 ?_
 exact leave_same rfl ⟨rfl, rfl⟩
section
variable {L : List Tk} (hL : TksOk L) (a : Nat) (m : M) (hA : a < m.nb) (s : PS) (hs : s.ok L) (d : Int)
include hL hA hs
set_option maxHeartbeats 1000000 in
theorem ptok_any : ACalls Tryz.prog 33 [.bp a 0] (pst L a m s.i d) (fun v m' => v = (s.tk L).pv ∧ m' = pst L a m s.i d) := by
 have hlt := hs.lt
 have hg := ptk_at hs
 have hb1 : (0 : Int) ≤ (s.i : Int) := by omega
 have hb2 : (s.i : Int) < (L.length : Int) := by omega
 refine eN [2] Tryz.func33 ?_
 (repeat revert X); refine wE (And.intro tfPp1 hA) ?_; repeat intro X hX
 refine aDrwE (fun m2 => m2 = _) (hne := List.cons_ne_nil _ _) rfl (by kernel_rfl) (by kernel_rfl) rfl ?_; simp -implicitDefEqProofs only [forall_eq, List.dropLast_cons_cons, List.dropLast_singleton, List.getLast_cons_cons, List.getLast_singleton, ↓slp, slb, ↓reduceIte, reduceCtorEq, jA, jB, jD, jE, jF, tfPp1, hA, hg, hlt, hb1]
 (repeat revert X); refine wE aEQ_t ?_; repeat intro X hX
 refine wQ Tryz.results33 (And.intro tfPp1 hA) ?_
 exact leave_pst hA (.refl m) rfl ⟨rfl, rfl⟩
set_option maxHeartbeats 1000000 in
theorem pfail_any (k0 : s.k = 0) (k : Int) (hk : k ≠ 0) : ACallsZ Tryz.prog 37 [.bp a 0, .v (.int .i64 k)] (pst L a m s.i d) (fun _ _ => False) (ZP L a m (s.here L k)) := by
 have hkb : (k == 0) = false := by simpa using hk
 have hf : s.here L k = ⟨L.length - 1, k, (s.tk L).line, (s.tk L).col⟩ := fail0 k0
 rw [hf]
 have hu := Tryz.underlying77
 refine eZ [] Tryz.func37 ?_
 (repeat revert X); refine wE aEQ_t ?_; repeat intro X hX
 refine callM (ptok_any hL a _ xA s hs d) ?_
 rintro v m' ⟨rfl, rfl⟩
 refine wS tfPp1 ?_
 (repeat revert X); refine wE (And.intro tfPp1 hA) ?_; repeat intro X hX
 refine callM (pfault_any k _ _ hkb _) ?_
 rintro v m' ⟨rfl, rfl⟩
 refine wS (And.intro tfPp1 hu) ?_
 (repeat revert X); refine wE (And.intro tfPp1 (And.intro hA hu)) ?_; repeat intro X hX
 exact leave_pst0 hA (.refl m) rfl ⟨hk, rfl, _, _, rfl⟩
set_option maxHeartbeats 1000000 in
theorem pis_any (k0 : s.k = 0) (w : Str) : ACalls Tryz.prog 68 [.bp a 0, .v (.string w)] (pst L a m s.i d) (fun v m' => v = pB (s.is L w) ∧ m' = pst L a m s.i d) := by
 obtain ⟨q1, q2⟩ := hL.kinds _ (tk_mem hs)
 obtain ⟨b1, h1⟩ : ∃ b, ((s.tk L).kind == 4) = b := ⟨_, rfl⟩
 obtain ⟨b2, h2⟩ : ∃ b, ((s.tk L).kind == 5) = b := ⟨_, rfl⟩
 obtain ⟨b3, h3⟩ : ∃ b, ((s.tk L).text.toList == w.toList) = b := ⟨_, rfl⟩
 have h4 : decide (4 ≤ (s.tk L).kind) = (b1 || b2) := by
  rw [← h1, ← h2]
  by_cases c1 : (s.tk L).kind = 4
  ·simp [c1]
  ·by_cases c2 : (s.tk L).kind = 5
   ·simp [c2]
   ·have : ¬ 4 ≤ (s.tk L).kind := by omega
    simp [c1, c2, this]
 have hr : s.is L w = ((b1 || b2) && b3) := by unfold PS.is eqS; rw [h3, h4, k0]; rfl
 rw [hr]
 refine eN [] Tryz.func68 ?_
 (repeat revert X); refine wE aEQ_t ?_; repeat intro X hX
 refine callM (ptok_any hL a _ xA s hs d) ?_
 rintro v m' ⟨rfl, rfl⟩
 refine wS tfPp1 ?_
 cases b1 <;> cases b2 <;> cases b3 <;> (
  (repeat revert X); refine wE (And.intro tfPp1 (And.intro h1 (And.intro h2 h3))) ?_; repeat intro X hX
  refine wR Tryz.results68 ?_
  exact leave_pst0 hA (.refl m) rfl ⟨rfl, rfl⟩)
set_option maxHeartbeats 1000000 in
theorem pskip_any (k0 : s.k = 0) (w : Str) : ACalls Tryz.prog 65 [.bp a 0, .v (.string w)] (pst L a m s.i d) (fun v m' => v = pB (s.is L w) ∧ m' = pst L a m (s.skp L w).i d) := by
 have hi : IntKind.i64.wrap ((s.i : Int) + 1) = ((s.i + 1 : Nat) : Int) := by have := hs.lt; have := hL.le; rw [wrap64 (by omega)]; omega
 refine eN [] Tryz.func65 ?_
 (repeat revert X); refine wE aEQ_t ?_; repeat intro X hX
 refine callM (pis_any hL a _ xA s hs d k0 w) ?_
 rintro v m' ⟨rfl, rfl⟩
 cases hb : s.is L w with
 | true =>
  refine wS @pB.eq_1 ?_
  (repeat revert X); refine wE (And.intro tfPp1 (And.intro hA (And.intro @pB.eq_1 hi))) ?_; repeat intro X hX
  refine wR Tryz.results65 ?_
  exact leave_pst0 hA (.refl m) rfl ⟨by rw [hb]; rfl, by unfold PS.skp; rw [if_pos hb]; rfl⟩
 | false =>
  refine wS @pB.eq_1 ?_
  (repeat revert X); refine wE @pB.eq_1 ?_; repeat intro X hX
  refine wR Tryz.results65 ?_
  exact leave_pst0 hA (.refl m) rfl ⟨by rw [hb]; rfl, by unfold PS.skp; rw [if_neg (by simp [hb])]⟩
set_option maxHeartbeats 1000000 in
theorem pwant_any (k0 : s.k = 0) (w : Str) : ACallsZ Tryz.prog 66 [.bp a 0, .v (.string w)] (pst L a m s.i d) (fun v m' => (s.want L w).k = 0 ∧ m' = pst L a m (s.want L w).i d) (ZP L a m (s.want L w)) := by
 have hsk : s.skp L w = if s.is L w then s.nx else s := rfl
 cases hb : s.is L w with
 | true =>
  have hw : s.want L w = s.nx := by unfold PS.want; rw [if_pos hb]
  rw [hw]
  refine eZ [] Tryz.func66 ?_
  (repeat revert X); refine wE aEQ_t ?_; repeat intro X hX
  refine callM (pskip_any hL a _ xA s hs d k0 w) ?_
  rintro v m' ⟨rfl, rfl⟩
  rw [hsk, hb, if_pos rfl]
  refine wS @pB.eq_1 ?_
  (repeat revert X); refine wE aEQ_t ?_; repeat intro X hX
  refine wR Tryz.results66 ?_
  exact leave_pst0 hA (.refl m) rfl ⟨k0, rfl⟩
 | false =>
  have hw : s.want L w = s.here L 2 := by unfold PS.want; rw [if_neg (by simp [hb])]
  rw [hw]
  refine eZ [] Tryz.func66 ?_
  (repeat revert X); refine wE aEQ_t ?_; repeat intro X hX
  refine callM (pskip_any hL a _ xA s hs d k0 w) ?_
  rintro v m' ⟨rfl, rfl⟩
  rw [hsk, hb, if_neg (by simp)]
  refine wS @pB.eq_1 ?_
  (repeat revert X); refine wE aEQ_t ?_; repeat intro X hX
  refine callP (pfail_any hL a _ xA s hs d k0 2 (by decide)) (zz0 hA (.refl m) (.refl (here_adv hL hs 2).ok)) (fun v m' h => h.elim)
set_option maxHeartbeats 1000000 in
theorem pname_any (k0 : s.k = 0) (kd : Int) : ACallsZ Tryz.prog 97 [.bp a 0, .v (.int .u8 kd)] (pst L a m s.i d) (fun v m' => (rName L kd s).2.k = 0 ∧ v = pS (rName L kd s).1 ∧ m' = pst L a m (rName L kd s).2.i d) (ZP L a m (rName L kd s).2) := by
 have hi : IntKind.i64.wrap ((s.i : Int) + 1) = ((s.i + 1 : Nat) : Int) := by have := hs.lt; have := hL.le; rw [wrap64 (by omega)]; omega
 obtain ⟨b2, h2⟩ : ∃ b, ((s.tk L).kind == kd) = b := ⟨_, rfl⟩
 have h2n : ((s.tk L).kind != kd) = !b2 := by rw [← h2]; rfl
 have hr : rName L kd s = if b2 = true then ((s.tk L).text, s.nx) else (⟨#[]⟩, s.here L 2) := by unfold rName; rw [h2, k0]; rfl
 rw [hr]
 refine eZ [] Tryz.func97 ?_
 (repeat revert X); refine wE aEQ_t ?_; repeat intro X hX
 refine callM (ptok_any hL a _ xA s hs d) ?_
 rintro v m' ⟨rfl, rfl⟩
 refine wS tfPp1 ?_
 cases b2 with
 | false =>
  (repeat revert X); refine wE (And.intro tfPp1 h2) ?_; repeat intro X hX
  refine callP (pfail_any hL a _ xA s hs d k0 2 (by decide)) (zz0 hA (.refl m) (.refl (here_adv hL hs 2).ok)) (fun v m' h => h.elim)
 | true =>
  (repeat revert X); refine wE (And.intro tfPp1 (And.intro hA (And.intro h2 hi))) ?_; repeat intro X hX
  refine wR Tryz.results97 ?_
  exact leave_pst0 hA (.refl m) rfl ⟨k0, rfl, rfl⟩
set_option maxHeartbeats 1000000 in
theorem pend_any (k0 : s.k = 0) : ACallsZ Tryz.prog 17 [.bp a 0] (pst L a m s.i d) (fun v m' => ((s.tk L).kind == 0) = true ∧ m' = pst L a m s.i d) (fun v m' => ((s.tk L).kind == 0) = false ∧ ZP L a m (s.here L 2) v m') := by
 obtain ⟨b2, h2⟩ : ∃ b, ((s.tk L).kind == 0) = b := ⟨_, rfl⟩
 have h2n : ((s.tk L).kind != 0) = !b2 := by rw [← h2]; rfl
 rw [h2]
 refine eZ [] Tryz.func17 ?_
 (repeat revert X); refine wE aEQ_t ?_; repeat intro X hX
 refine callM (ptok_any hL a _ xA s hs d) ?_
 rintro v m' ⟨rfl, rfl⟩
 refine wS tfPp1 ?_
 cases b2 with
 | false =>
  (repeat revert X); refine wE h2 ?_; repeat intro X hX
  refine callP (pfail_any hL a _ xA s hs d k0 2 (by decide)) (fun v m' hz => ?_) (fun v m' h => h.elim)
  obtain ⟨v2, m2, hl, h⟩ := zz0 (i := s.i) (d := d) hA (.refl m) (.refl (here_adv hL hs 2).ok) v m' hz
  exact ⟨v2, m2, hl, h⟩
 | true =>
  (repeat revert X); refine wE h2 ?_; repeat intro X hX
  refine wR Tryz.results17 ?_
  exact leave_pst0 hA (.refl m) rfl rfl
set_option maxHeartbeats 1000000 in
theorem popen_any (k0 : s.k = 0) (hd : 0 ≤ d ∧ d ≤ 1000) : ACallsZ Tryz.prog 31 [.bp a 0] (pst L a m s.i d) (fun v m' => (rOpen L d s).k = 0 ∧ rOpen L d s = s ∧ d + 1 ≤ 64 ∧ m' = pst L a m s.i (d + 1)) (ZP L a m (rOpen L d s)) := by
 have hi : IntKind.i64.wrap (d + 1) = d + 1 := wrap64 (by omega)
 unfold rOpen
 cases hb : decide (d + 1 > 64) with
 | true =>
  rw [if_pos (of_decide_eq_true hb)]
  refine eZ [] Tryz.func31 ?_
  (repeat revert X); refine wE (And.intro tfPp1 (And.intro hA (And.intro hi hb))) ?_; repeat intro X hX
  refine callP (pfail_any hL a _ xA s hs (d + 1) k0 3 (by decide)) (zz0 hA (.refl m) (.refl (here_adv hL hs 3).ok)) (fun v m' h => h.elim)
 | false =>
  rw [if_neg (of_decide_eq_false hb)]
  refine eZ [] Tryz.func31 ?_
  (repeat revert X); refine wE (And.intro tfPp1 (And.intro hA (And.intro hi hb))) ?_; repeat intro X hX
  refine wR Tryz.results31 ?_
  exact leave_pst0 hA (.refl m) rfl ⟨k0, by have := of_decide_eq_false hb; omega, rfl⟩
end

def tfPp2 := tfPp1

set_option maxHeartbeats 8000000 in
theorem pword_any (o : Int) (h : 3 ≤ o ∧ o ≤ 16) (m : M) : ACalls Tryz.prog 111 [.v (.int .u8 o)] m (fun v m' => v = pS (opWord o) ∧ m' = m) := by
 have hw : IntKind.i64.wrap o = o := wrap64 (by omega)
 rcases cas16 h with rfl | rfl | rfl | rfl | rfl | rfl | rfl | rfl | rfl | rfl | rfl | rfl | rfl | rfl <;> (
  refine eN [] Tryz.func111 ?_
  (repeat (first | refine aSeq fun X hX => ?_ | refine aSkip ?_ | refine aRet ?_ | (first | apply aReg | apply aIf); simp -implicitDefEqProofs only [↓slp, slb, ↓reduceIte, reduceCtorEq, jA, jB, jC, jD, jE, jF, jH, jJ, tfPp2, hw, Int.reduceLE, ge_iff_le] | apply hX; clear hX X))
  refine wR Tryz.results111 ?_
  exact leave_same rfl ⟨rfl, rfl⟩)
set_option maxHeartbeats 8000000 in
theorem pstr_any (o : Int) (h : o = 0 ∨ 3 ≤ o ∧ o ≤ 16) (m : M) : ACalls Tryz.prog 93 [.v (.int .u8 o)] m (fun v m' => v = pI (opStr o) ∧ m' = m) := by
 have h : o = 0 ∨ o = 3 ∨ o = 4 ∨ o = 5 ∨ o = 6 ∨ o = 7 ∨ o = 8 ∨ o = 9 ∨ o = 10 ∨ o = 11 ∨ o = 12 ∨ o = 13 ∨ o = 14 ∨ o = 15 ∨ o = 16 := h.imp id cas16
 rcases h with rfl | rfl | rfl | rfl | rfl | rfl | rfl | rfl | rfl | rfl | rfl | rfl | rfl | rfl | rfl <;> (
  refine eN [] Tryz.func93 ?_
  (repeat (first | refine aSeq fun X hX => ?_ | refine aSkip ?_ | refine aRet ?_; try simp only [slx, ↓reduceIte, jA, reduceCtorEq] | (first | apply aReg | apply aIf); simp -implicitDefEqProofs only [↓slp, slb, ↓reduceIte, reduceCtorEq, jA, Int.reduceBEq] | apply hX; clear hX X))
  refine wR Tryz.results93 ?_
  exact leave_same rfl ⟨rfl, rfl⟩)
section
variable {L : List Tk} (hL : TksOk L) (a : Nat) (m : M) (hA : a < m.nb) (s : PS) (hs : s.ok L) (k0 : s.k = 0) (d : Int)
include hL hA hs k0
set_option maxHeartbeats 1000000 in
theorem pctor_any : ACallsZ Tryz.prog 140 [.bp a 0] (pst L a m s.i d) (fun v m' => (rCtor L s).2.k = 0 ∧ v = pS (rCtor L s).1 ∧ m' = pst L a m (rCtor L s).2.i d) (ZP L a m (rCtor L s).2) := by
 have hi : IntKind.i64.wrap ((s.i : Int) + 1) = ((s.i + 1 : Nat) : Int) := by have := hs.lt; have := hL.le; rw [wrap64 (by omega)]; omega
 cases h1 : s.is L wTrue with
 | true =>
  have hr : rCtor L s = (wTrue, s.nx) := by unfold rCtor; rw [if_pos h1]
  have ht : (s.tk L).text = wTrue := eqS_iff.1 (is_of h1).2.2.2
  rw [hr]
  refine eZ [] Tryz.func140 ?_
  (repeat revert X); refine wE aEQ_t ?_; repeat intro X hX
  refine callM (ptok_any hL a _ xA s hs d) ?_
  rintro v m' ⟨rfl, rfl⟩
  refine wS tfPp2 ?_
  (repeat revert X); refine wE aEQ_t ?_; repeat intro X hX
  refine callM (pis_any hL a _ xA s hs d k0 wTrue) ?_
  rintro v m' ⟨rfl, rfl⟩
  rw [h1]
  refine wS @pB.eq_1 ?_
  (repeat revert X); refine wE (And.intro tfPp2 (And.intro hA hi)) ?_; repeat intro X hX
  refine wR Tryz.results140 ?_
  exact leave_pst0 hA (.refl m) rfl ⟨k0, by rw [ht]; rfl, rfl⟩
 | false =>
  cases h2 : s.is L wFalse with
  | true =>
   have hr : rCtor L s = (wFalse, s.nx) := by unfold rCtor; rw [if_neg (by simp [h1]), if_pos h2]
   have ht : (s.tk L).text = wFalse := eqS_iff.1 (is_of h2).2.2.2
   rw [hr]
   refine eZ [] Tryz.func140 ?_
   (repeat revert X); refine wE aEQ_t ?_; repeat intro X hX
   refine callM (ptok_any hL a _ xA s hs d) ?_
   rintro v m' ⟨rfl, rfl⟩
   refine wS tfPp2 ?_
   (repeat revert X); refine wE aEQ_t ?_; repeat intro X hX
   refine callM (pis_any hL a _ xA s hs d k0 wTrue) ?_
   rintro v m' ⟨rfl, rfl⟩
   rw [h1]
   refine wS @pB.eq_1 ?_
   (repeat revert X); refine wE (And.intro tfPp2 (And.intro hA @pB.eq_1)) ?_; repeat intro X hX
   refine callM (pis_any hL a _ xA s hs d k0 wFalse) ?_
   rintro v m' ⟨rfl, rfl⟩
   rw [h2]
   refine wS @pB.eq_1 ?_
   (repeat revert X); refine wE (And.intro tfPp2 (And.intro hA hi)) ?_; repeat intro X hX
   refine wR Tryz.results140 ?_
   exact leave_pst0 hA (.refl m) rfl ⟨k0, by rw [ht]; rfl, rfl⟩
  | false =>
   have hr : rCtor L s = rName L 3 s := by unfold rCtor; rw [if_neg (by simp [h1]), if_neg (by simp [h2])]
   rw [hr]
   refine eZ [] Tryz.func140 ?_
   (repeat revert X); refine wE aEQ_t ?_; repeat intro X hX
   refine callM (ptok_any hL a _ xA s hs d) ?_
   rintro v m' ⟨rfl, rfl⟩
   refine wS tfPp2 ?_
   (repeat revert X); refine wE aEQ_t ?_; repeat intro X hX
   refine callM (pis_any hL a _ xA s hs d k0 wTrue) ?_
   rintro v m' ⟨rfl, rfl⟩
   rw [h1]
   refine wS @pB.eq_1 ?_
   (repeat revert X); refine wE (And.intro tfPp2 (And.intro hA @pB.eq_1)) ?_; repeat intro X hX
   refine callM (pis_any hL a _ xA s hs d k0 wFalse) ?_
   rintro v m' ⟨rfl, rfl⟩
   rw [h2]
   refine wS @pB.eq_1 ?_
   (repeat revert X); refine wE aEQ_t ?_; repeat intro X hX
   refine callP (pname_any hL a _ xA s hs d k0 3) (zz0 hA (.refl m) (.refl (name_adv hL hs (by decide)).ok)) ?_
   rintro v m' ⟨k1, rfl, rfl⟩
   refine wS aEQ_t ?_
   (repeat revert X); refine wE aEQ_t ?_; repeat intro X hX
   refine wR Tryz.results140 ?_
   exact leave_pst0 hA (.refl m) rfl ⟨k1, rfl, rfl⟩
set_option maxHeartbeats 1000000 in
theorem pon_any : ACallsZ Tryz.prog 125 [.bp a 0] (pst L a m s.i d) (fun v m' => (rOn L s).2.k = 0 ∧ v = .ag [pS (rOn L s).1.ctor, pS (rOn L s).1.var] ∧ m' = pst L a m (rOn L s).2.i d) (ZP L a m (rOn L s).2) := by
 have h1 := ctor_adv hL hs
 have h2 := want_adv hL h1.ok wOpen
 have h3 := name_adv hL h2.ok (kd := 2) (by decide)
 have h4 := want_adv hL h3.ok wShut
 have e3 : Adv L (rName L 2 ((rCtor L s).2.want L wOpen)).2 (rOn L s).2 := h4
 have e2 : Adv L ((rCtor L s).2.want L wOpen) (rOn L s).2 := h3.trans e3
 have e1 : Adv L (rCtor L s).2 (rOn L s).2 := h2.trans e2
 refine eZ [2] Tryz.func125 ?_
 (repeat revert X); refine wE (And.intro tfPp2 hA) ?_; repeat intro X hX
 refine callP (pctor_any hL a _ xA s hs k0 d) (by first | exact zz hA (.refl m) (e1) | exact zz0 hA (.refl m) (e1)) ?_
 rintro v m' ⟨k1, rfl, rfl⟩
 refine wS aEQ_t ?_
 (repeat revert X); refine wE aEQ_t ?_; repeat intro X hX
 refine callP (pwant_any hL a _ xA _ h1.ok d k1 wOpen) (by first | exact zz hA (.refl m) (e2) | exact zz0 hA (.refl m) (e2)) ?_
 rintro v m' ⟨k2, rfl⟩
 refine wS aEQ_t ?_
 (repeat revert X); refine wE aEQ_t ?_; repeat intro X hX
 refine callP (pname_any hL a _ xA _ h2.ok d k2 2) (by first | exact zz hA (.refl m) (e3) | exact zz0 hA (.refl m) (e3)) ?_
 rintro v m' ⟨k3, rfl, rfl⟩
 refine wS tfPp2 ?_
 (repeat revert X); refine wE aEQ_t ?_; repeat intro X hX
 refine callP (pwant_any hL a _ xA _ h3.ok d k3 wShut) (by first | exact zz hA (.refl m) (.refl h4.ok) | exact zz0 hA (.refl m) (.refl h4.ok)) ?_
 rintro v m' ⟨k4, rfl⟩
 refine wS aEQ_t ?_
 (repeat revert X); refine wE (And.intro tfPp2 hA) ?_; repeat intro X hX
 refine wQ Tryz.results125 (And.intro tfPp2 hA) ?_
 exact leave_pst hA (.refl m) rfl ⟨k4, rfl, rfl⟩
set_option maxHeartbeats 1000000 in
theorem poper_any : ACalls Tryz.prog 92 [.bp a 0] (pst L a m s.i d) (fun v m' => v = .v (.int .u8 (rOp L s)) ∧ m' = pst L a m s.i d) := by
 refine eN [] Tryz.func92 ?_
 (repeat revert X); refine wE aEQ_t ?_; repeat intro X hX
 obtain ⟨I, hI⟩ : ∃ I : F → M → Prop, ∀ f m', I f m' = (∃ (o : Nat), 3 ≤ o ∧ o ≤ 17 ∧ rOp L s = rOpF L (17 - o) o s ∧ f 0 = .bp a 0 ∧ f 3 = .v (.int .u8 (o : Int)) ∧ m' = pst L a m s.i d) := ⟨_, fun _ _ => rfl⟩
 refine aLoop I (fun f m => 17 - numOf (f 3)) ?_ ?_
 ·rw [hI]; exact ⟨3, by decide, by decide, rfl, rfl, rfl, rfl⟩
 intro f m' hrel
 rw [hI] at hrel
 obtain ⟨o, ho1, ho2, hro, f0, f3, rfl⟩ := hrel
 cases c1 : decide ((o : Int) ≤ 16) with
 | false =>
  have : o = 17 := by simp at c1; omega
  subst this
  (repeat revert X); refine wE (And.intro f3 c1) ?_; repeat intro X hX
  refine wR Tryz.results92 ?_
  exact leave_pst0 hA (.refl m) rfl ⟨by rw [hro]; rfl, rfl⟩
 | true =>
  have ho3 : (o : Int) ≤ 16 := of_decide_eq_true c1
  have hun : rOpF L (17 - o) o s = if s.is L (opWord o) then (o : Int) else rOpF L (17 - (o + 1)) ((o + 1 : Nat) : Int) s := by
   rw [show 17 - o = (17 - (o + 1)) + 1 by omega]
   rfl
  have hi : IntKind.u8.wrap ((o : Int) + 1) = ((o + 1 : Nat) : Int) := by
   show ((o : Int) + 1) % 256 = _
   omega
  have hme : numOf (f 3) = o := by rw [f3]; exact Int.toNat_natCast o
  (repeat revert X); refine wE (And.intro f0 (And.intro f3 c1)) ?_; repeat intro X hX
  refine callM (pword_any (o : Int) ⟨by omega, ho3⟩ _) ?_
  rintro v m' ⟨rfl, rfl⟩
  refine wS aEQ_t ?_
  (repeat revert X); refine wE (And.intro tfPp2 (And.intro f0 f3)) ?_; repeat intro X hX
  refine callM (pis_any hL a _ xA s hs d k0 _) ?_
  rintro v m' ⟨rfl, rfl⟩
  cases hb : s.is L (opWord (o : Int)) with
  | true =>
   rw [hb, if_pos rfl] at hun
   refine wS (And.intro f3 @pB.eq_1) ?_
   (repeat revert X); refine wE f3 ?_; repeat intro X hX
   refine wR Tryz.results92 ?_
   exact leave_pst0 hA (.refl m) rfl ⟨by rw [hro, hun]; rfl, rfl⟩
  | false =>
   rw [hb, if_neg (by simp)] at hun
   refine wS (And.intro f3 @pB.eq_1) ?_
   (repeat (first | refine aSkip ?_ | (first | apply aReg | apply aIf); simp -implicitDefEqProofs only [↓slp, slb, ↓reduceIte, jA, f3, hi] | apply hX; clear hX X))
   rw [hI]
   exact ⟨⟨o + 1, by omega, by omega, by rw [hro, hun], f0, rfl, rfl⟩, by omega⟩
set_option maxHeartbeats 4000000 in
theorem pwhen_any (e : Ex) : ACallsZ Tryz.prog 109 [.bp a 0, e.pv] (pst L a m s.i d) (fun v m' => (rWhen L L.length e s).2.k = 0 ∧ v = (rWhen L L.length e s).1.pv ∧ m' = pst L a m (rWhen L L.length e s).2.i d) (ZP L a m (rWhen L L.length e s).2) := by
 have hsk : ∀ (s : PS) w, s.skp L w = if s.is L w then s.nx else s := fun _ _ => rfl
 obtain ⟨r, hr0⟩ : ∃ r, rWhen L L.length e s = r := ⟨_, rfl⟩
 rw [hr0]
 refine eZ [3, 4] Tryz.func109 ?_
 (repeat revert X); refine wE (And.intro tfPp2 hA) ?_; repeat intro X hX
 obtain ⟨I, hI⟩ : ∃ I : Nat → F → M → Prop, ∀ n f m', I n f m' = (∃ (e1 : Ex) (s1 : PS) (on ok : Own) (mb : M), s1.ok L ∧ s1.k = 0 ∧ L.length - s1.i ≤ n ∧ r = rWhen L n e1 s1 ∧ f 0 = .bp a 0 ∧ f 3 = .bp m.nb 0 ∧ f 4 = .bp (m.nb + 1) 0 ∧ m' = pst L a (mb.ext [some (exB e1 on ok), some [.v (.int .u8 0), .v (.int .u8 0), .v (.int .i32 0), .v (.string ⟨#[]⟩), .sl .full [], .sl .full [], .v (.int .i64 0), .v (.int .i64 0)]]) s1.i d ∧ mb = m) := ⟨_, fun _ _ _ => rfl⟩
 refine aLoopN I L.length ?_ ?_
 ·rw [hI]; exact ⟨e, s, .no, .no, m, hs, k0, by omega, hr0.symm, rfl, rfl, rfl, rfl, rfl⟩
 intro W n f m' hrel hW
 rw [hI] at hrel
 obtain ⟨e1, s1, on, ok, mb, hs1, k1, hn, hr, f0, f3, f4, rfl, rfl⟩ := hrel
 have hlt := hs1.lt
 obtain ⟨n, rfl⟩ : ∃ k, n = k + 1 := ⟨n - 1, by omega⟩
 have hun : rWhen L (n + 1) e1 s1 = if s1.is L wWhen then rWhen L n (.mk 12 0 0 (rOn L s1.nx).1.var [(rOn L s1.nx).1.ctor] [e1] e1.line e1.col) (rOn L s1.nx).2 else (e1, s1) := rfl
 (repeat revert X); refine wE f0 ?_; repeat intro X hX
 refine callM (pskip_any hL a _ xA s1 hs1 d k1 wWhen) ?_
 rintro v m' ⟨rfl, rfl⟩
 rw [hsk]
 cases hb : s1.is L wWhen with
 | false =>
  rw [hb, if_neg (by simp)] at hun
  rw [if_neg (by simp)]
  refine wS @pB.eq_1 ?_
  (repeat revert X); refine wE (And.intro tfPp2 (And.intro f3 (And.intro f4 hA))) ?_; repeat intro X hX
  refine wQ Tryz.results109 (And.intro tfPp2 (And.intro f4 hA)) ?_
  exact leave_pst hA (.refl mb) rfl ⟨by rw [hr, hun]; exact k1, by rw [hr, hun, Ex.pv_eq]; rfl, by rw [hr, hun]⟩
 | true =>
  have h1 := is_adv hL hs1 hb
  have h2 := on_adv hL h1.ok
  have hle := h2.le
  rw [hb, if_pos rfl] at hun
  rw [if_pos rfl]
  have e1' : Adv L (rOn L s1.nx).2 r.2 := by rw [hr, hun]; exact when_adv hL _ _ _ h2.ok
  refine wS @pB.eq_1 ?_
  (repeat revert X); refine wE f0 ?_; repeat intro X hX
  refine callP (pon_any hL a _ xA s1.nx h1.ok k1 d) (by first | exact zz hA (.refl mb) (e1') | exact zz0 hA (.refl mb) (e1')) ?_
  rintro v m' ⟨k2, rfl, rfl⟩
  generalize rOn L s1.nx = o at *
  refine wS tfPp2 ?_
  (repeat revert X); refine wE (And.intro tfPp2 (And.intro f3 hA)) ?_; repeat intro X hX
  refine hW n _ _ (by omega) ?_
  rw [hI]
  exact ⟨.mk 12 0 0 o.1.var [o.1.ctor] [e1] e1.line e1.col, o.2, .full, .full, mb, h2.ok, k2, by have : s1.nx.i = s1.i + 1 := rfl; omega, by rw [hr, hun], f0, f3, f4, by rw [show exB (.mk 12 0 0 o.1.var [o.1.ctor] [e1] e1.line e1.col) .full .full = [.v (.int .u8 12), .v (.int .u8 0), .v (.int .i32 0), .v (.string o.1.var), .sl .full [pS o.1.ctor], .sl .full [e1.pv], .v (.int .i64 e1.line), .v (.int .i64 e1.col)] from rfl, Ex.pv_eq], rfl⟩
end
end Go.Proofs.YtohgdopfjkjppaaGreatDoor
