/-
 The reference's reader: words.
-/
-- halved
import Derived.Test.YtohgdopfjkjppaaGreatDoorAbMac
import Derived.Test.YtohgdopfjkjppaaGreatDoorQA
set_option linter.unusedSectionVars false
set_option linter.unusedVariables false
set_option linter.unusedSimpArgs false
namespace Go.Proofs.YtohgdopfjkjppaaGreatDoor
open Nat renaming reduceEqDiff → jA, reduceAdd → jB, reduceMul → jC, reduceLT → jD, reduceLeDiff → jE, reduceBEq → jF, reduceBNe → jG
open Int renaming reduceLE → jH, reduceLT → jI, reduceToNat → jJ, reduceEq → jK
open Go
set_option maxRecDepth 20000
set_option linter.defProp false
def tfPsR1 := And.intro @tfA (And.intro @Ex.settle_pv (And.intro @Ex.pure_pv (And.intro @Ex.cells_pv (And.intro @Ex.cs.eq_1 (And.intro @On.pv.eq_1 (And.intro @Ty.pv.eq_1 (And.intro @Va.settle_pv (And.intro @Va.pure_pv (And.intro @Va.cells_pv (And.intro @Va.cs.eq_1 (And.intro @Tk.settle_pv (And.intro @Tk.pure_pv (And.intro @Tk.cells_pv (And.intro @Tk.pv.eq_1 (And.intro @Tk.cs.eq_1 (And.intro @qst_nb (And.intro @qst_nt (And.intro @qst_fresh (And.intro @qst_use (And.intro @qst_free (And.intro @qst_alive (And.intro @qst_a (And.intro @qst_upda (And.intro @qst_ext (And.intro @qst_ext2 (And.intro @qst_ea (And.intro @qst_own (And.intro @qst_own0 (And.intro @qst_ou @qst_ou0)))))))))))))))))))))))))))))

theorem tk_at {L : List Tk} {s : PS} (hs : s.ok L) : (L.map Tk.pv).getD s.i PV.junk = .ag [.v (.int .u8 (s.tk L).kind), .v (.string (s.tk L).text), .v (.int .i32 (s.tk L).n), .v (.int .i64 (s.tk L).line), .v (.int .i64 (s.tk L).col)] := by
 rw [getD_map Tk.pv L s.i hs.lt]
 unfold PS.tk tkA
 rw [List.getD_eq_getElem?_getD, List.getElem?_eq_getElem hs.lt, Option.getD_some]
 rfl
abbrev posPV (l c : Int) : PV := .ag [.v (.int .i64 l), .v (.int .i64 c)]
section
variable {L : List Tk} (hL : TksOk L) (a : Nat) (m : M) (hA : a < m.nb) (s : PS) (hs : s.ok L) (d : Int)
include hL hA hs
set_option maxHeartbeats 1000000 in
theorem qtok_any : ACalls Tryz.prog 20 [.bp a 0] (qst L a m s d) (fun v m' => v = (s.tk L).pv ∧ m' = qst L a m s d) := by
 have hlt := hs.lt
 have hg := tk_at hs
 have hb1 : (0 : Int) ≤ (s.i : Int) := by omega
 have hb2 : (s.i : Int) < (L.length : Int) := by omega
 refine eN [2] Tryz.func20 ?_
 (repeat revert X); refine wE (And.intro tfPsR1 hA) ?_; repeat intro X hX
 refine aDrwE (fun m2 => m2 = _) (hne := List.cons_ne_nil _ _) rfl (by kernel_rfl) (by kernel_rfl) rfl ?_; simp -implicitDefEqProofs only [forall_eq, List.dropLast_cons_cons, List.dropLast_singleton, List.getLast_cons_cons, List.getLast_singleton, ↓slp, slb, ↓reduceIte, reduceCtorEq, jA, jB, jD, jE, jF, tfPsR1, hA, hg, hlt, hb1]
 (repeat revert X); refine wE aEQ_t ?_; repeat intro X hX
 refine wQ Tryz.results20 (And.intro tfPsR1 hA) ?_
 exact leave_qst hA (.refl m) rfl ⟨rfl, rfl⟩
set_option maxHeartbeats 1000000 in
theorem qfail_any (k l c : Int) : ACalls Tryz.prog 46 [.bp a 0, .v (.int .i64 k), posPV l c] (qst L a m s d) (fun v m' => m' = qst L a m (s.fail L k l c) d) := by
 have hp := hL.pos
 have hle := hL.le
 have hi : IntKind.i64.wrap ((L.length : Int) - 1) = ((L.length - 1 : Nat) : Int) := by rw [wrap64 (by omega)]; omega
 cases hk : (s.k == 0) with
 | true =>
  refine eN [] Tryz.func46 ?_
  (repeat revert X); refine wE (And.intro tfPsR1 (And.intro hA (And.intro hk hi))) ?_; repeat intro X hX
  refine wR Tryz.results46 ?_
  exact leave_qst0 hA (.refl m) rfl (by unfold PS.fail; rw [if_pos (by simpa using hk)])
 | false =>
  refine eN [] Tryz.func46 ?_
  (repeat revert X); refine wE (And.intro tfPsR1 (And.intro hA (And.intro hk hi))) ?_; repeat intro X hX
  refine wR Tryz.results46 ?_
  exact leave_qst0 hA (.refl m) rfl (by unfold PS.fail; rw [if_neg (by simpa using hk)])
set_option maxHeartbeats 1000000 in
theorem qhere_any (k : Int) : ACalls Tryz.prog 21 [.bp a 0, .v (.int .i64 k)] (qst L a m s d) (fun v m' => m' = qst L a m (s.here L k) d) := by
 refine eN [] Tryz.func21 ?_
 (repeat revert X); refine wE aEQ_t ?_; repeat intro X hX
 refine callM (qtok_any hL a _ xA s hs d) ?_
 rintro v m' ⟨rfl, rfl⟩
 refine wS tfPsR1 ?_
 (repeat revert X); refine wE (And.intro tfPsR1 hA) ?_; repeat intro X hX
 refine callM (qfail_any hL a _ xA s hs d k _ _) ?_
 rintro v m' rfl
 refine wS tfPsR1 ?_
 (repeat revert X); refine wE (And.intro tfPsR1 hA) ?_; repeat intro X hX
 refine wR Tryz.results21 ?_
 exact leave_qst0 hA (.refl m) rfl rfl
set_option maxHeartbeats 1000000 in
theorem qis_any (w : Str) : ACalls Tryz.prog 56 [.bp a 0, .v (.string w)] (qst L a m s d) (fun v m' => v = pB (s.is L w) ∧ m' = qst L a m s d) := by
 obtain ⟨b1, h1⟩ : ∃ b, (s.k == 0) = b := ⟨_, rfl⟩
 obtain ⟨b2, h2⟩ : ∃ b, decide ((s.tk L).kind ≥ 4) = b := ⟨_, rfl⟩
 obtain ⟨b3, h3⟩ : ∃ b, ((s.tk L).text.toList == w.toList) = b := ⟨_, rfl⟩
 have hr : s.is L w = (b1 && b2 && b3) := by unfold PS.is eqS; rw [h1, h3, show decide (4 ≤ (s.tk L).kind) = b2 from h2]
 rw [hr]
 refine eN [] Tryz.func56 ?_
 (repeat revert X); refine wE aEQ_t ?_; repeat intro X hX
 refine callM (qtok_any hL a _ xA s hs d) ?_
 rintro v m' ⟨rfl, rfl⟩
 refine wS tfPsR1 ?_
 cases b1 <;> cases b2 <;> cases b3 <;> (
  (repeat revert X); refine wE (And.intro tfPsR1 (And.intro hA (And.intro h1 (And.intro h2 h3)))) ?_; repeat intro X hX
  refine wR Tryz.results56 ?_
  exact leave_qst0 hA (.refl m) rfl ⟨rfl, rfl⟩)
set_option maxHeartbeats 1000000 in
theorem qskip_any (w : Str) : ACalls Tryz.prog 71 [.bp a 0, .v (.string w)] (qst L a m s d) (fun v m' => v = pB (s.is L w) ∧ m' = qst L a m (s.skp L w) d) := by
 have hi : IntKind.i64.wrap ((s.i : Int) + 1) = ((s.i + 1 : Nat) : Int) := by have := hs.lt; have := hL.le; rw [wrap64 (by omega)]; omega
 refine eN [] Tryz.func71 ?_
 (repeat revert X); refine wE aEQ_t ?_; repeat intro X hX
 refine callM (qis_any hL a _ xA s hs d w) ?_
 rintro v m' ⟨rfl, rfl⟩
 cases hb : s.is L w with
 | true =>
  refine wS @pB.eq_1 ?_
  (repeat revert X); refine wE (And.intro tfPsR1 (And.intro hA (And.intro @pB.eq_1 hi))) ?_; repeat intro X hX
  refine wR Tryz.results71 ?_
  exact leave_qst0 hA (.refl m) rfl ⟨by rw [hb]; rfl, by unfold PS.skp; rw [if_pos hb]; rfl⟩
 | false =>
  refine wS @pB.eq_1 ?_
  (repeat revert X); refine wE @pB.eq_1 ?_; repeat intro X hX
  refine wR Tryz.results71 ?_
  exact leave_qst0 hA (.refl m) rfl ⟨by rw [hb]; rfl, by unfold PS.skp; rw [if_neg (by simp [hb])]⟩
set_option maxHeartbeats 1000000 in
theorem qwant_any (w : Str) : ACalls Tryz.prog 72 [.bp a 0, .v (.string w)] (qst L a m s d) (fun v m' => m' = qst L a m (s.want L w) d) := by
 refine eN [] Tryz.func72 ?_
 (repeat revert X); refine wE aEQ_t ?_; repeat intro X hX
 refine callM (qskip_any hL a _ xA s hs d w) ?_
 rintro v m' ⟨rfl, rfl⟩
 have hsk : s.skp L w = if s.is L w then s.nx else s := rfl
 rw [hsk]
 cases hb : s.is L w with
 | true =>
  rw [if_pos rfl]
  refine wS @pB.eq_1 ?_
  (repeat revert X); refine wE aEQ_t ?_; repeat intro X hX
  refine wR Tryz.results72 ?_
  exact leave_qst0 hA (.refl m) rfl (by unfold PS.want; rw [if_pos hb])
 | false =>
  rw [if_neg (by simp)]
  refine wS @pB.eq_1 ?_
  (repeat revert X); refine wE aEQ_t ?_; repeat intro X hX
  refine callM (qhere_any hL a _ xA s hs d 2) ?_
  rintro v m' rfl
  refine wS aEQ_t ?_
  (repeat revert X); refine wE (And.intro tfPsR1 hA) ?_; repeat intro X hX
  refine wR Tryz.results72 ?_
  exact leave_qst0 hA (.refl m) rfl (by unfold PS.want; rw [if_neg (by simp [hb])])
set_option maxHeartbeats 1000000 in
theorem qname_any (kd : Int) : ACalls Tryz.prog 78 [.bp a 0, .v (.int .u8 kd)] (qst L a m s d) (fun v m' => v = pS (rName L kd s).1 ∧ m' = qst L a m (rName L kd s).2 d) := by
 have hi : IntKind.i64.wrap ((s.i : Int) + 1) = ((s.i + 1 : Nat) : Int) := by have := hs.lt; have := hL.le; rw [wrap64 (by omega)]; omega
 obtain ⟨b1, h1⟩ : ∃ b, (s.k == 0) = b := ⟨_, rfl⟩
 obtain ⟨b2, h2⟩ : ∃ b, ((s.tk L).kind == kd) = b := ⟨_, rfl⟩
 have hr : rName L kd s = if (b1 && b2) = true then ((s.tk L).text, s.nx) else (⟨#[]⟩, s.here L 2) := by unfold rName; rw [h1, h2]
 rw [hr]
 refine eN [] Tryz.func78 ?_
 (repeat revert X); refine wE aEQ_t ?_; repeat intro X hX
 refine callM (qtok_any hL a _ xA s hs d) ?_
 rintro v m' ⟨rfl, rfl⟩
 refine wS tfPsR1 ?_
 cases b1 with
 | false =>
  (repeat revert X); refine wE (And.intro tfPsR1 (And.intro hA h1)) ?_; repeat intro X hX
  refine callM (qhere_any hL a _ xA s hs d 2) ?_
  rintro v m' rfl
  refine wS aEQ_t ?_
  (repeat revert X); refine wE aEQ_t ?_; repeat intro X hX
  refine wR Tryz.results78 ?_
  exact leave_qst0 hA (.refl m) rfl ⟨rfl, rfl⟩
 | true =>
  cases b2 with
  | false =>
   (repeat revert X); refine wE (And.intro tfPsR1 (And.intro hA (And.intro h1 h2))) ?_; repeat intro X hX
   refine callM (qhere_any hL a _ xA s hs d 2) ?_
   rintro v m' rfl
   refine wS aEQ_t ?_
   (repeat revert X); refine wE aEQ_t ?_; repeat intro X hX
   refine wR Tryz.results78 ?_
   exact leave_qst0 hA (.refl m) rfl ⟨rfl, rfl⟩
  | true =>
   (repeat revert X); refine wE (And.intro tfPsR1 (And.intro hA (And.intro h1 (And.intro h2 hi)))) ?_; repeat intro X hX
   refine wR Tryz.results78 ?_
   exact leave_qst0 hA (.refl m) rfl ⟨rfl, rfl⟩
set_option maxHeartbeats 1000000 in
theorem qopen_any (hd : 0 ≤ d ∧ d ≤ 1000) : ACalls Tryz.prog 43 [.bp a 0] (qst L a m s d) (fun v m' => m' = qst L a m (rOpen L d s) (d + 1)) := by
 have hi : IntKind.i64.wrap (d + 1) = d + 1 := wrap64 (by omega)
 unfold rOpen
 cases hb : decide (d + 1 > 64) with
 | true =>
  rw [if_pos (of_decide_eq_true hb)]
  refine eN [] Tryz.func43 ?_
  (repeat revert X); refine wE (And.intro tfPsR1 (And.intro hA (And.intro hi hb))) ?_; repeat intro X hX
  refine callM (qhere_any hL a _ xA s hs (d + 1) 3) ?_
  rintro v m' rfl
  refine wS aEQ_t ?_
  (repeat revert X); refine wE (And.intro tfPsR1 hA) ?_; repeat intro X hX
  refine wR Tryz.results43 ?_
  exact leave_qst0 hA (.refl m) rfl rfl
 | false =>
  rw [if_neg (of_decide_eq_false hb)]
  refine eN [] Tryz.func43 ?_
  (repeat revert X); refine wE (And.intro tfPsR1 (And.intro hA (And.intro hi hb))) ?_; repeat intro X hX
  refine wR Tryz.results43 ?_
  exact leave_qst0 hA (.refl m) rfl rfl
end
end Go.Proofs.YtohgdopfjkjppaaGreatDoor
