/-
 The reference's reader: words.
-/
-- halved
import Derived.Test.YtohgdopfjkjppaaGreatDoorQA
set_option linter.unusedSectionVars false
set_option linter.unusedVariables false
set_option linter.unusedSimpArgs false
namespace Go.Proofs.YtohgdopfjkjppaaGreatDoor
open Nat renaming reduceEqDiff → jA, reduceAdd → jB, reduceMul → jC, reduceLT → jD, reduceLeDiff → jE, reduceBEq → jF, reduceBNe → jG
open Int renaming reduceLE → jH, reduceLT → jI, reduceToNat → jJ, reduceEq → jK
open Go
-- EXX: Tk.settle_pv, Tk.pure_pv, Tk.cells_pv, Tk.pv, Tk.cs, qst_nb, qst_nt, qst_fresh, qst_use, qst_free, qst_alive, qst_a, qst_upda, qst_ext, qst_ext2, qst_ea, qst_own, qst_own0, qst_ou, qst_ou0
set_option maxRecDepth 20000
-- TNAMES: int; uint8; int32; string; bool; *metronomeref06.Reader; metronomeref06.Reader; metronomeref03.Token; []metronomeref03.Token; api.Pos; api.Kind
set_option linter.defProp false
def J1 := And.intro @slb (And.intro @tfA (And.intro @Ex.settle_pv (And.intro @Ex.pure_pv (And.intro @Ex.cells_pv (And.intro @Ex.cs.eq_1 (And.intro @On.pv.eq_1 (And.intro @Ty.pv.eq_1 (And.intro @Va.settle_pv (And.intro @Va.pure_pv (And.intro @Va.cells_pv (And.intro @Va.cs.eq_1 (And.intro @Tk.settle_pv (And.intro @Tk.pure_pv (And.intro @Tk.cells_pv (And.intro @Tk.pv.eq_1 (And.intro @Tk.cs.eq_1 (And.intro @qst_nb (And.intro @qst_nt (And.intro @qst_fresh (And.intro @qst_use (And.intro @qst_free (And.intro @qst_alive (And.intro @qst_a (And.intro @qst_upda (And.intro @qst_ext (And.intro @qst_ext2 (And.intro @qst_ea (And.intro @qst_own (And.intro @qst_own0 (And.intro @qst_ou @qst_ou0))))))))))))))))))))))))))))))

theorem tk_at {L : List Tk} {s : PS} (hs : s.ok L) : (L.map Tk.pv).getD s.i PV.junk = .ag [.v (.int .u8 (s.tk L).kind), .v (.string (s.tk L).text), .v (.int .i32 (s.tk L).n), .v (.int .i64 (s.tk L).line), .v (.int .i64 (s.tk L).col)] := by
 rw [getD_map Tk.pv L s.i hs.lt]
 unfold PS.tk tkA
 rw [List.getD_eq_getElem?_getD, List.getElem?_eq_getElem hs.lt, Option.getD_some]
 rfl
abbrev posPV (l c : Int) : PV := .ag [.v (.int .i64 l), .v (.int .i64 c)]
section
variable {L : List Tk} (hL : TksOk L) (a : Nat) (m : M) (hA : a < m.nb) (s : PS) (hs : s.ok L) (d : Int)
include hL hA hs
set_option maxHeartbeats 1000000 in
theorem qtok_any : ACalls Tryz.prog 20 [.bp a 0] (qst L a m s d) (fun v m' => v = (s.tk L).pv ∧ m' = qst L a m s d) := by
 have hlt := hs.lt
 have hg := tk_at hs
 have hb1 : (0 : Int) ≤ (s.i : Int) := by omega
 have hb2 : (s.i : Int) < (L.length : Int) := by omega
 refine ACalls.enter (mu := [2]) ok_mix Tryz.func20 rfl (by kernel_rfl) (by kernel_rfl) (by simp only [List.length_cons, List.length_nil, Tryz.ntmps20]; omega) ?_
 (repeat (first | refine aSeq fun X hX => ?_ | refine aReg ?_; simp -implicitDefEqProofs only [↓slp, ↓reduceIte, J1, hA] | apply hX; clear hX X))
 refine aDrwE (fun m2 => m2 = _) (hne := List.cons_ne_nil _ _) rfl (by kernel_rfl) (by kernel_rfl) rfl ?_; simp -implicitDefEqProofs only [forall_eq, List.dropLast_cons_cons, List.dropLast_singleton, List.getLast_cons_cons, List.getLast_singleton, ↓slp, ↓reduceIte, reduceCtorEq, jA, jB, jD, jE, jF, J1, hA, hg, hlt, hb1]
 (repeat (first | refine aRet ?_ | apply hX; clear hX X))
 simp only [aPost, Tryz.results20, aRes_n, aRes_t, aRes_c, pack_one, pack_two]
 simp -implicitDefEqProofs only [↓reduceIte, jA, jB, jE, J1, hA]
 exact leave_qst hA (.refl m) rfl ⟨rfl, rfl⟩
set_option maxHeartbeats 1000000 in
theorem qfail_any (k l c : Int) : ACalls Tryz.prog 46 [.bp a 0, .v (.int .i64 k), posPV l c] (qst L a m s d) (fun v m' => m' = qst L a m (s.fail L k l c) d) := by
 have hp := hL.pos
 have hle := hL.le
 have hi : IntKind.i64.wrap ((L.length : Int) - 1) = ((L.length - 1 : Nat) : Int) := by rw [wrap64 (by omega)]; omega
 cases hk : (s.k == 0) with
 | true =>
  refine ACalls.enter (mu := []) ok_mix Tryz.func46 rfl (by kernel_rfl) (by kernel_rfl) (by simp only [List.length_cons, List.length_nil, Tryz.ntmps46]; omega) ?_
  (repeat (first | refine aSeq fun X hX => ?_ | (first | apply aReg | apply aIf); simp -implicitDefEqProofs only [↓slp, ↓reduceIte, reduceCtorEq, jA, jB, jD, jE, J1, hA, hk, hi] | apply hX; clear hX X | intro hlen; unfold maxLen at hlen))
  simp only [aPost, Tryz.results46, aRes_n, aRes_t, aRes_c, pack_one, pack_two]
  exact leave_qst0 hA (.refl m) rfl (by unfold PS.fail; rw [if_pos (by simpa using hk)])
 | false =>
  refine ACalls.enter (mu := []) ok_mix Tryz.func46 rfl (by kernel_rfl) (by kernel_rfl) (by simp only [List.length_cons, List.length_nil, Tryz.ntmps46]; omega) ?_
  (repeat (first | refine aSeq fun X hX => ?_ | refine aSkip ?_ | (first | apply aReg | apply aIf); simp -implicitDefEqProofs only [↓slp, ↓reduceIte, reduceCtorEq, jA, jB, jD, jE, J1, hA, hk, hi] | apply hX; clear hX X | intro hlen; unfold maxLen at hlen))
  simp only [aPost, Tryz.results46, aRes_n, aRes_t, aRes_c, pack_one, pack_two]
  exact leave_qst0 hA (.refl m) rfl (by unfold PS.fail; rw [if_neg (by simpa using hk)])
set_option maxHeartbeats 1000000 in
theorem qhere_any (k : Int) : ACalls Tryz.prog 21 [.bp a 0, .v (.int .i64 k)] (qst L a m s d) (fun v m' => m' = qst L a m (s.here L k) d) := by
 refine ACalls.enter (mu := []) ok_mix Tryz.func21 rfl (by kernel_rfl) (by kernel_rfl) (by simp only [List.length_cons, List.length_nil, Tryz.ntmps21]; omega) ?_
 (repeat (refine aReg ?_; simp -implicitDefEqProofs only [↓slp, slb, ↓reduceIte, reduceCtorEq, jA]))
 refine callM (qtok_any hL a _ (by first | assumption | (rw [ext_nb]; omega)) s hs d) ?_
 rintro v m' ⟨rfl, rfl⟩
 simp -implicitDefEqProofs only [↓slp, ↓reduceIte, jA, jB, jE, J1]
 (repeat (first | refine aSeq fun X hX => ?_ | apply aBlk | refine aSkip ?_ | (first | refine aExit ?_ | refine aRet ?_); try simp only [slx, ↓reduceIte, jA, reduceCtorEq] | (first | apply aReg | apply aIf); simp -implicitDefEqProofs only [forall_eq, ↓slp, ↓reduceIte, reduceCtorEq, jA, jB, jC, jD, jE, jF, jG, jH, jI, jJ, jK, J1, hA]; try simp only [fo] | apply hX; clear hX X | clear hX X; apply hX; clear hX X | clear hX X; clear hX X; apply hX; clear hX X | intro hlen; unfold maxLen at hlen | apply And.intro; · first | assumption | and_intros <;> first | omega | assumption))
 refine callM (qfail_any hL a _ (by first | assumption | (rw [ext_nb]; omega)) s hs d k _ _) ?_
 rintro v m' rfl
 simp -implicitDefEqProofs only [J1]
 (repeat (first | refine aSeq fun X hX => ?_ | apply aBlk | refine aSkip ?_ | (first | refine aExit ?_ | refine aRet ?_); try simp only [slx, ↓reduceIte, jA, reduceCtorEq] | (first | apply aReg | apply aIf); simp -implicitDefEqProofs only [forall_eq, ↓slp, ↓reduceIte, reduceCtorEq, jA, jB, jC, jD, jE, jF, jG, jH, jI, jJ, jK, J1, hA]; try simp only [fo] | apply hX; clear hX X | clear hX X; apply hX; clear hX X | clear hX X; clear hX X; apply hX; clear hX X | intro hlen; unfold maxLen at hlen | apply And.intro; · first | assumption | and_intros <;> first | omega | assumption))
 simp only [aPost, Tryz.results21, aRes_n, aRes_t, aRes_c, pack_one, pack_two]
 exact leave_qst0 hA (.refl m) rfl rfl
set_option maxHeartbeats 1000000 in
theorem qis_any (w : Str) : ACalls Tryz.prog 56 [.bp a 0, .v (.string w)] (qst L a m s d) (fun v m' => v = pB (s.is L w) ∧ m' = qst L a m s d) := by
 obtain ⟨b1, h1⟩ : ∃ b, (s.k == 0) = b := ⟨_, rfl⟩
 obtain ⟨b2, h2⟩ : ∃ b, decide ((s.tk L).kind ≥ 4) = b := ⟨_, rfl⟩
 obtain ⟨b3, h3⟩ : ∃ b, ((s.tk L).text.toList == w.toList) = b := ⟨_, rfl⟩
 have hr : s.is L w = (b1 && b2 && b3) := by unfold PS.is eqS; rw [h1, h3, show decide (4 ≤ (s.tk L).kind) = b2 from h2]
 rw [hr]
 refine ACalls.enter (mu := []) ok_mix Tryz.func56 rfl (by kernel_rfl) (by kernel_rfl) (by simp only [List.length_cons, List.length_nil, Tryz.ntmps56]; omega) ?_
 (repeat (first | refine aSeq fun X hX => ?_ | refine aReg ?_; simp -implicitDefEqProofs only [↓slp, slb, ↓reduceIte, reduceCtorEq] | apply hX; clear hX X))
 refine callM (qtok_any hL a _ (by first | assumption | (rw [ext_nb]; omega)) s hs d) ?_
 rintro v m' ⟨rfl, rfl⟩
 simp -implicitDefEqProofs only [↓slp, ↓reduceIte, jB, jF, J1]
 cases b1 <;> cases b2 <;> cases b3 <;> (
  (repeat (first | refine aSeq fun X hX => ?_ | refine aRet ?_ | refine aReg ?_; simp -implicitDefEqProofs only [↓slp, ↓reduceIte, reduceCtorEq, jA, jB, jD, jE, J1, hA, h1, h2, h3] | apply hX; clear hX X))
  simp only [aPost, Tryz.results56, aRes_n, aRes_t, aRes_c, pack_one, pack_two]
  exact leave_qst0 hA (.refl m) rfl ⟨rfl, rfl⟩)
set_option maxHeartbeats 1000000 in
theorem qskip_any (w : Str) : ACalls Tryz.prog 71 [.bp a 0, .v (.string w)] (qst L a m s d) (fun v m' => v = pB (s.is L w) ∧ m' = qst L a m (s.skp L w) d) := by
 have hi : IntKind.i64.wrap ((s.i : Int) + 1) = ((s.i + 1 : Nat) : Int) := by have := hs.lt; have := hL.le; rw [wrap64 (by omega)]; omega
 refine ACalls.enter (mu := []) ok_mix Tryz.func71 rfl (by kernel_rfl) (by kernel_rfl) (by simp only [List.length_cons, List.length_nil, Tryz.ntmps71]; omega) ?_
 (repeat (first | refine aSeq fun X hX => ?_ | refine aReg ?_; simp -implicitDefEqProofs only [↓slp, slb, ↓reduceIte, reduceCtorEq, jA] | apply hX; clear hX X))
 refine callM (qis_any hL a _ (by first | assumption | (rw [ext_nb]; omega)) s hs d w) ?_
 rintro v m' ⟨rfl, rfl⟩
 cases hb : s.is L w with
 | true =>
  simp -implicitDefEqProofs only [slb, pB]
  (repeat (first | refine aSeq fun X hX => ?_ | refine aRet ?_; try simp only [slx, ↓reduceIte, jA, reduceCtorEq] | (first | apply aReg | apply aIf); simp -implicitDefEqProofs only [↓slp, ↓reduceIte, reduceCtorEq, jA, jB, jD, jE, J1, hA, pB, hi] | apply hX; clear hX X))
  simp only [aPost, Tryz.results71, aRes_n, aRes_t, aRes_c, pack_one, pack_two]
  exact leave_qst0 hA (.refl m) rfl ⟨by rw [hb]; rfl, by unfold PS.skp; rw [if_pos hb]; rfl⟩
 | false =>
  simp -implicitDefEqProofs only [slb, pB]
  (repeat (first | refine aSeq fun X hX => ?_ | refine aSkip ?_ | refine aRet ?_ | (first | apply aReg | apply aIf); simp -implicitDefEqProofs only [↓slp, slb, ↓reduceIte, pB] | apply hX; clear hX X))
  simp only [aPost, Tryz.results71, aRes_n, aRes_t, aRes_c, pack_one, pack_two]
  exact leave_qst0 hA (.refl m) rfl ⟨by rw [hb]; rfl, by unfold PS.skp; rw [if_neg (by simp [hb])]⟩
set_option maxHeartbeats 1000000 in
theorem qwant_any (w : Str) : ACalls Tryz.prog 72 [.bp a 0, .v (.string w)] (qst L a m s d) (fun v m' => m' = qst L a m (s.want L w) d) := by
 refine ACalls.enter (mu := []) ok_mix Tryz.func72 rfl (by kernel_rfl) (by kernel_rfl) (by simp only [List.length_cons, List.length_nil, Tryz.ntmps72]; omega) ?_
 (repeat (first | refine aSeq fun X hX => ?_ | refine aReg ?_; simp -implicitDefEqProofs only [↓slp, slb, ↓reduceIte, jA]))
 refine callM (qskip_any hL a _ (by first | assumption | (rw [ext_nb]; omega)) s hs d w) ?_
 rintro v m' ⟨rfl, rfl⟩
 have hsk : s.skp L w = if s.is L w then s.nx else s := rfl
 rw [hsk]
 cases hb : s.is L w with
 | true =>
  rw [if_pos rfl]
  simp -implicitDefEqProofs only [↓slp, slb, ↓reduceIte, pB]
  (repeat (first | refine aSkip ?_ | refine aIf ?_; simp -implicitDefEqProofs only [slb, ↓reduceIte] | apply hX; clear hX X))
  simp only [aPost, Tryz.results72, aRes_n, aRes_t, aRes_c, pack_one, pack_two]
  exact leave_qst0 hA (.refl m) rfl (by unfold PS.want; rw [if_pos hb])
 | false =>
  rw [if_neg (by simp)]
  simp -implicitDefEqProofs only [↓slp, slb, ↓reduceIte, pB]
  (repeat (first | (first | apply aReg | apply aIf); simp -implicitDefEqProofs only [↓slp, slb, ↓reduceIte, reduceCtorEq] | apply hX; clear hX X))
  refine callM (qhere_any hL a _ (by first | assumption | (rw [ext_nb]; omega)) s hs d 2) ?_
  rintro v m' rfl
  simp -implicitDefEqProofs only [slb]
  (repeat (first | refine aSeq fun X hX => ?_ | apply aBlk | refine aSkip ?_ | (first | refine aExit ?_ | refine aRet ?_); try simp only [slx, ↓reduceIte, jA, reduceCtorEq] | (first | apply aReg | apply aIf); simp -implicitDefEqProofs only [forall_eq, ↓slp, ↓reduceIte, reduceCtorEq, jA, jB, jC, jD, jE, jF, jG, jH, jI, jJ, jK, J1, hA]; try simp only [fo] | apply hX; clear hX X | clear hX X; apply hX; clear hX X | clear hX X; clear hX X; apply hX; clear hX X | intro hlen; unfold maxLen at hlen | apply And.intro; · first | assumption | and_intros <;> first | omega | assumption))
  simp only [aPost, Tryz.results72, aRes_n, aRes_t, aRes_c, pack_one, pack_two]
  exact leave_qst0 hA (.refl m) rfl (by unfold PS.want; rw [if_neg (by simp [hb])])
set_option maxHeartbeats 1000000 in
theorem qname_any (kd : Int) : ACalls Tryz.prog 78 [.bp a 0, .v (.int .u8 kd)] (qst L a m s d) (fun v m' => v = pS (rName L kd s).1 ∧ m' = qst L a m (rName L kd s).2 d) := by
 have hi : IntKind.i64.wrap ((s.i : Int) + 1) = ((s.i + 1 : Nat) : Int) := by have := hs.lt; have := hL.le; rw [wrap64 (by omega)]; omega
 obtain ⟨b1, h1⟩ : ∃ b, (s.k == 0) = b := ⟨_, rfl⟩
 obtain ⟨b2, h2⟩ : ∃ b, ((s.tk L).kind == kd) = b := ⟨_, rfl⟩
 have hr : rName L kd s = if (b1 && b2) = true then ((s.tk L).text, s.nx) else (⟨#[]⟩, s.here L 2) := by unfold rName; rw [h1, h2]
 rw [hr]
 refine ACalls.enter (mu := []) ok_mix Tryz.func78 rfl (by kernel_rfl) (by kernel_rfl) (by simp only [List.length_cons, List.length_nil, Tryz.ntmps78]; omega) ?_
 (repeat (first | refine aSeq fun X hX => ?_ | refine aReg ?_; simp -implicitDefEqProofs only [↓slp, slb, ↓reduceIte, reduceCtorEq] | apply hX; clear hX X))
 refine callM (qtok_any hL a _ (by first | assumption | (rw [ext_nb]; omega)) s hs d) ?_
 rintro v m' ⟨rfl, rfl⟩
 simp -implicitDefEqProofs only [↓slp, ↓reduceIte, jB, jF, J1]
 cases b1 with
 | false =>
  (repeat (first | refine aSeq fun X hX => ?_ | (first | apply aReg | apply aIf); simp -implicitDefEqProofs only [↓slp, ↓reduceIte, reduceCtorEq, jA, jB, jD, J1, hA, h1] | apply hX; clear hX X))
  refine callM (qhere_any hL a _ (by first | assumption | (rw [ext_nb]; omega)) s hs d 2) ?_
  rintro v m' rfl
  simp -implicitDefEqProofs only [slb]
  (repeat (first | refine aSeq fun X hX => ?_ | refine aRet ?_; try simp only [slx, ↓reduceIte, jA, reduceCtorEq] | refine aReg ?_; simp -implicitDefEqProofs only [↓slp, slb] | apply hX; clear hX X))
  simp only [aPost, Tryz.results78, aRes_n, aRes_t, aRes_c, pack_one, pack_two]
  exact leave_qst0 hA (.refl m) rfl ⟨rfl, rfl⟩
 | true =>
  cases b2 with
  | false =>
   (repeat (first | refine aSeq fun X hX => ?_ | (first | apply aReg | apply aIf); simp -implicitDefEqProofs only [↓slp, ↓reduceIte, reduceCtorEq, jA, jB, jD, jE, J1, hA, h1, h2] | apply hX; clear hX X))
   refine callM (qhere_any hL a _ (by first | assumption | (rw [ext_nb]; omega)) s hs d 2) ?_
   rintro v m' rfl
   simp -implicitDefEqProofs only [slb]
   (repeat (first | refine aSeq fun X hX => ?_ | refine aRet ?_; try simp only [slx, ↓reduceIte, jA, reduceCtorEq] | refine aReg ?_; simp -implicitDefEqProofs only [↓slp, slb] | apply hX; clear hX X))
   simp only [aPost, Tryz.results78, aRes_n, aRes_t, aRes_c, pack_one, pack_two]
   exact leave_qst0 hA (.refl m) rfl ⟨rfl, rfl⟩
  | true =>
   (repeat (first | refine aSeq fun X hX => ?_ | refine aSkip ?_ | refine aRet ?_ | (first | apply aReg | apply aIf); simp -implicitDefEqProofs only [↓slp, ↓reduceIte, reduceCtorEq, jA, jB, jD, jE, J1, hA, h1, h2, hi] | apply hX; clear hX X))
   simp only [aPost, Tryz.results78, aRes_n, aRes_t, aRes_c, pack_one, pack_two]
   exact leave_qst0 hA (.refl m) rfl ⟨rfl, rfl⟩
set_option maxHeartbeats 1000000 in
theorem qopen_any (hd : 0 ≤ d ∧ d ≤ 1000) : ACalls Tryz.prog 43 [.bp a 0] (qst L a m s d) (fun v m' => m' = qst L a m (rOpen L d s) (d + 1)) := by
 have hi : IntKind.i64.wrap (d + 1) = d + 1 := wrap64 (by omega)
 unfold rOpen
 cases hb : decide (d + 1 > 64) with
 | true =>
  rw [if_pos (of_decide_eq_true hb)]
  refine ACalls.enter (mu := []) ok_mix Tryz.func43 rfl (by kernel_rfl) (by kernel_rfl) (by simp only [List.length_cons, List.length_nil, Tryz.ntmps43]; omega) ?_
  (repeat (first | refine aSeq fun X hX => ?_ | (first | apply aReg | apply aIf); simp -implicitDefEqProofs only [↓slp, ↓reduceIte, reduceCtorEq, jA, jB, jD, jE, J1, hA, hi, hb] | apply hX; clear hX X))
  refine callM (qhere_any hL a _ (by first | assumption | (rw [ext_nb]; omega)) s hs (d + 1) 3) ?_
  rintro v m' rfl
  simp -implicitDefEqProofs only [slb]
  (repeat (first | refine aSeq fun X hX => ?_ | apply aBlk | refine aSkip ?_ | (first | refine aExit ?_ | refine aRet ?_); try simp only [slx, ↓reduceIte, jA, reduceCtorEq] | (first | apply aReg | apply aIf); simp -implicitDefEqProofs only [forall_eq, ↓slp, ↓reduceIte, reduceCtorEq, jA, jB, jC, jD, jE, jF, jG, jH, jI, jJ, jK, J1, hA]; try simp only [fo] | apply hX; clear hX X | clear hX X; apply hX; clear hX X | clear hX X; clear hX X; apply hX; clear hX X | intro hlen; unfold maxLen at hlen | apply And.intro; · first | assumption | and_intros <;> first | omega | assumption))
  simp only [aPost, Tryz.results43, aRes_n, aRes_t, aRes_c, pack_one, pack_two]
  exact leave_qst0 hA (.refl m) rfl rfl
 | false =>
  rw [if_neg (of_decide_eq_false hb)]
  refine ACalls.enter (mu := []) ok_mix Tryz.func43 rfl (by kernel_rfl) (by kernel_rfl) (by simp only [List.length_cons, List.length_nil, Tryz.ntmps43]; omega) ?_
  (repeat (first | refine aSeq fun X hX => ?_ | refine aSkip ?_ | (first | apply aReg | apply aIf); simp -implicitDefEqProofs only [↓slp, ↓reduceIte, reduceCtorEq, jA, jB, jD, jE, J1, hA, hi, hb] | apply hX; clear hX X))
  simp only [aPost, Tryz.results43, aRes_n, aRes_t, aRes_c, pack_one, pack_two]
  exact leave_qst0 hA (.refl m) rfl rfl
end
end Go.Proofs.YtohgdopfjkjppaaGreatDoor
