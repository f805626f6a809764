/-
 Texts that belong together: PsR8, PsR9, AbAll.
-/
-- halved
import Derived.Test.YtohgdopfjkjppaaGreatDoorAbMac
import Derived.Test.YtohgdopfjkjppaaGreatDoorRC
import Derived.Test.YtohgdopfjkjppaaGreatDoorAbDrw
set_option linter.unusedSectionVars false
set_option linter.unusedVariables false
set_option linter.unusedSimpArgs false
namespace Go.Proofs.YtohgdopfjkjppaaGreatDoor
open Nat renaming reduceEqDiff → jA, reduceAdd → jB, reduceMul → jC, reduceLT → jD, reduceLeDiff → jE, reduceBEq → jF, reduceBNe → jG
open Int renaming reduceLE → jH, reduceLT → jI, reduceToNat → jJ, reduceEq → jK
open Go
set_option maxRecDepth 20000
set_option linter.defProp false
def tfPsR8 := And.intro @tfA (And.intro @Ex.settle_pv (And.intro @Ex.pure_pv (And.intro @Ex.cells_pv (And.intro @Ex.cs.eq_1 (And.intro @On.pv.eq_1 (And.intro @Ty.pv.eq_1 (And.intro @Va.settle_pv (And.intro @Va.pure_pv (And.intro @Va.cells_pv (And.intro @Va.cs.eq_1 (And.intro @Tk.settle_pv (And.intro @Tk.pure_pv (And.intro @Tk.cells_pv (And.intro @Tk.pv.eq_1 (And.intro @Tk.cs.eq_1 (And.intro @Tr.settle_pv (And.intro @Tr.pure_pv (And.intro @Tr.cells_pv (And.intro @Qu.settle_pv (And.intro @Qu.pure_pv (And.intro @Qu.cells_pv (And.intro @Am.settle_pv (And.intro @Am.pure_pv (And.intro @Am.cells_pv (And.intro @qst_nb (And.intro @qst_nt (And.intro @qst_fresh (And.intro @qst_use (And.intro @qst_free (And.intro @qst_alive (And.intro @qst_a (And.intro @qst_upda (And.intro @qst_ext (And.intro @qst_ext2 (And.intro @qst_ea (And.intro @qst_own (And.intro @qst_own0 (And.intro @qst_ou @qst_ou0))))))))))))))))))))))))))))))))))))))

theorem qus_one16 (l : List Qu) : ∀ x ∈ l.map Qu.pv, x.cells.length = 16 := fun x hx => by
 obtain ⟨a, _, rfl⟩ := List.mem_map.1 hx; rw [Qu.cells_pv]; rfl
theorem ams_one7 (l : List Am) : ∀ x ∈ l.map Am.pv, x.cells.length = 7 := fun x hx => by
 obtain ⟨a, _, rfl⟩ := List.mem_map.1 hx; rw [Am.cells_pv]; rfl
abbrev quB (q : Qu) (oa on ok : Own) : List PV := [.v (.int .u8 q.kind), .sl .no (q.lhs.map pS), .v (.string q.name), .sl oa (q.args.map Ex.pv), .v (.bool q.has), .v (.int .u8 q.e.kind), .v (.int .u8 q.e.op), .v (.int .i32 q.e.n), .v (.string q.e.name), .sl on (q.e.names.map pS), .sl ok (q.e.kids.map Ex.pv), .v (.int .i64 q.e.line), .v (.int .i64 q.e.col), .sl .full [], .v (.int .i64 q.line), .v (.int .i64 q.col)]
def RightC (L : List Tk) : Prop := ∀ (a b : Nat) (m : M), a < m.nb → b < m.nb → b ≠ a → ∀ (s : PS), s.ok L → ∀ (d : Int), 0 ≤ d ∧ d ≤ 64 → ∀ (lhs : List Str) (t : Tk), m.get b = some ([.v (.int .u8 0), .sl .no (lhs.map pS), .v (.string ⟨#[]⟩), .sl .full [], .v (.bool false), .v (.int .u8 0), .v (.int .u8 0), .v (.int .i32 0), .v (.string ⟨#[]⟩), .sl .full [], .sl .full [], .v (.int .i64 0), .v (.int .i64 0), .sl .full [], .v (.int .i64 t.line), .v (.int .i64 t.col)] : List PV) →
 ACalls Tryz.prog 122 [.bp a 0, .bp b 0] (qst L a m s d) (fun v m' => ∃ oa on ok, (rRight L d lhs t s).1.arms = [] ∧ m' = qst L a (m.upd b (quB (rRight L d lhs t s).1 oa on ok)) (rRight L d lhs t s).2 d)
structure QBlC (L : List Tk) (f : Nat) : Prop where
 block : ∀ (a : Nat) (m : M), a < m.nb → ∀ (s : PS), s.ok L → ∀ (d : Int), 0 ≤ d ∧ d ≤ 64 → mu L s + 3 ≤ f → ACalls Tryz.prog 120 [.bp a 0] (qst L a m s d) (fun v m' => v = .ag [.sl .no ((rBlock L f d s).1.1.map Va.pv), .sl .no ((rBlock L f d s).1.2.map Qu.pv)] ∧ m' = qst L a m (rBlock L f d s).2 d)
 eqs : ∀ (a : Nat) (m : M), a < m.nb → ∀ (s : PS), s.ok L → ∀ (d : Int), (0 ≤ d ∧ d ≤ 65) ∧ (s.k = 0 → d ≤ 64) → mu L s + 2 ≤ f → ACalls Tryz.prog 81 [.bp a 0] (qst L a m s d) (fun v m' => v = .sl .no ((rEqs L f d [] s).1.map Qu.pv) ∧ m' = qst L a m (rEqs L f d [] s).2 d)
 eq : ∀ (a : Nat) (m : M), a < m.nb → ∀ (s : PS), s.ok L → s.k = 0 → ∀ (d : Int), 0 ≤ d ∧ d ≤ 64 → mu L s + 1 ≤ f → ACalls Tryz.prog 102 [.bp a 0] (qst L a m s d) (fun v m' => v = (rEq L f d s).1.pv ∧ m' = qst L a m (rEq L f d s).2 d)
 arms : ∀ (a : Nat) (m : M), a < m.nb → ∀ (s : PS), s.ok L → ∀ (d : Int), 0 ≤ d ∧ d ≤ 64 → ∀ st : Bool, mu L s + 2 ≤ f → ACalls Tryz.prog 119 [.bp a 0, pB st] (qst L a m s d) (fun v m' => v = .sl .no ((rArms L f d st s).1.map Am.pv) ∧ m' = qst L a m (rArms L f d st s).2 d)
section
variable {L : List Tk} (hL : TksOk L) {f : Nat} (IH : ∀ g, g ≤ f → QBlC L g)
include hL IH
set_option maxHeartbeats 8000000 in
theorem qblock_step (a : Nat) (m : M) (hA : a < m.nb) (s : PS) (hs : s.ok L) (d : Int) (hd : 0 ≤ d ∧ d ≤ 64) (hf : mu L s + 3 ≤ f + 1) : ACalls Tryz.prog 120 [.bp a 0] (qst L a m s d) (fun v m' => v = .ag [.sl .no ((rBlock L (f + 1) d s).1.1.map Va.pv), .sl .no ((rBlock L (f + 1) d s).1.2.map Qu.pv)] ∧ m' = qst L a m (rBlock L (f + 1) d s).2 d) := by
 have h1 := open_adv hL hs d
 have hm1 := mu_le h1
 have ho : (rOpen L d s).k = 0 → d + 1 ≤ 64 := fun hk => by
  unfold rOpen at hk
  split at hk
  ·exact absurd hk (fail_k (by decide))
  ·omega
 have h2 := locals_adv hL (d := d + 1) h1.ok
 have h3 := want_adv hL h2.ok wDo
 have n2 := mu_le h2
 have n3 := want_mu hL h2.ok wDo
 have hce := (IH f (Nat.le_refl _)).eqs a
 have hi : IntKind.i64.wrap (d + 1 - 1) = d := by rw [wrap64 (by omega)]; omega
 have hk : ((rLocals L (d + 1) (rOpen L d s)).2.want L wDo).k = 0 → d + 1 ≤ 64 := fun hk => ho ((h2.trans h3).k hk)
 have hun : rBlock L (f + 1) d s = (((rLocals L (d + 1) (rOpen L d s)).1, (rEqs L f (d + 1) [] ((rLocals L (d + 1) (rOpen L d s)).2.want L wDo)).1), (rEqs L f (d + 1) [] ((rLocals L (d + 1) (rOpen L d s)).2.want L wDo)).2) := by rw [rBlock]
 rw [hun]
 refine eN [2, 3] Tryz.func120 ?_
 (repeat revert X); refine wE (And.intro tfPsR8 hA) ?_; repeat intro X hX
 refine callM (qopen_any hL a _ xA s hs d ⟨hd.1, by omega⟩) ?_
 rintro v m' rfl
 refine wS aEQ_t ?_
 (repeat revert X); refine wE (And.intro tfPsR8 hA) ?_; repeat intro X hX
 refine callM (qlocals_any hL a _ xA _ h1.ok (d + 1) ⟨⟨by omega, by omega⟩, ho⟩) ?_
 rintro v m' ⟨rfl, rfl⟩
 generalize rLocals L (d + 1) (rOpen L d s) = w at *
 refine wS (And.intro tfPsR8 hA) ?_
 (repeat revert X); refine wE aEQ_t ?_; repeat intro X hX
 refine callM (qwant_any hL a _ xA _ h2.ok (d + 1) wDo) ?_
 rintro v m' rfl
 refine wS aEQ_t ?_
 (repeat revert X); refine wE aEQ_t ?_; repeat intro X hX
 refine callM (hce _ xA _ h3.ok (d + 1) ⟨⟨by omega, by omega⟩, hk⟩ (by omega)) ?_
 rintro v m' ⟨rfl, rfl⟩
 generalize rEqs L f (d + 1) [] (w.2.want L wDo) = q at *
 refine wS (And.intro tfPsR8 hA) ?_
 (repeat revert X); refine wE (And.intro tfPsR8 (And.intro hA hi)) ?_; repeat intro X hX
 refine wQ Tryz.results120 (And.intro tfPsR8 hA) ?_
 exact leave_qst hA (.refl m) rfl ⟨rfl, rfl⟩
set_option maxHeartbeats 8000000 in
theorem qeqs_step (a : Nat) (m : M) (hA : a < m.nb) (s : PS) (hs : s.ok L) (d : Int) (hd : (0 ≤ d ∧ d ≤ 65) ∧ (s.k = 0 → d ≤ 64)) (hf : mu L s + 2 ≤ f + 1) : ACalls Tryz.prog 81 [.bp a 0] (qst L a m s d) (fun v m' => v = .sl .no ((rEqs L (f + 1) d [] s).1.map Qu.pv) ∧ m' = qst L a m (rEqs L (f + 1) d [] s).2 d) := by
 have hll := hL.le
 have hmx := mu_fx (L := L) (s := s)
 have hk0 : s.k ≠ 0 → s.k ≠ 0 := id
 refine eN [3] Tryz.func81 ?_
 (repeat revert X); refine wE tfPsR8 ?_; repeat intro X hX
 obtain ⟨I, hI⟩ : ∃ I : Nat → F → M → Prop, ∀ n g m', I n g m' = (∃ (l : List Qu) (s1 : PS) (o : Own) (mm : M), s1.ok L ∧ mu L s1 + 2 ≤ n ∧ n ≤ f + 1 ∧ l.length * 16 + mu L s1 ≤ 16 * L.length + 16 ∧ (s1.k = 0 → s.k = 0) ∧ rEqs L (f + 1) d [] s = rEqs L n d l s1 ∧ g 0 = .bp a 0 ∧ g 3 = .sl o (l.map Qu.pv) ∧ m' = qst L a mm s1 d ∧ BaseR m mm ∧ Mine m mm o 16) := ⟨_, fun _ _ _ => rfl⟩
 refine aLoopN I (f + 1) ?_ ?_
 ·rw [hI]; exact ⟨[], s, .full, m, hs, hf, Nat.le_refl _, by simp; omega, id, rfl, rfl, rfl, rfl, .refl m, .full⟩
 intro W n g m' hrel hW
 rw [hI] at hrel
 obtain ⟨l, s1, o, mm, hs1, hn, hnf, hln, hkk, hr, f0, f3, rfl, htk, ho⟩ := hrel
 obtain ⟨n, rfl⟩ : ∃ k, n = k + 1 := ⟨n - 1, by omega⟩
 have hnb := htk.nb
 have hAm : a < mm.nb := by omega
 have hun2 : rEqs L (n + 1) d l s1 = if s1.k == 0 then (if !((s1.tk L).kind == 2) && !s1.is L wOpen && !s1.is L wSwitch && !s1.is L wAuto && !s1.is L wReset then (l, s1) else rEqs L n d (l ++ [(rEq L n d s1).1]) ((rEq L n d s1).2.want L wSemi)) else (l, s1) := by rw [rEqs]
 cases h1 : (s1.k == 0) with
 | false =>
  rw [h1, if_neg (by simp)] at hun2
  (repeat revert X); refine wE (And.intro tfPsR8 (And.intro f0 (And.intro f3 (And.intro hAm h1)))) ?_; repeat intro X hX
  refine wQ Tryz.results81 aEQ_t ?_
  exact leave_qstB hA htk rfl ⟨by rw [hr, hun2]; rfl, by rw [hr, hun2]⟩
 | true =>
  have k0 : s1.k = 0 := by simpa using h1
  have hd4 : 0 ≤ d ∧ d ≤ 64 := ⟨hd.1.1, hd.2 (hkk k0)⟩
  rw [h1, if_pos rfl] at hun2
  have b1 := (quL hL n).eq d s1 hs1 (by omega)
  have b2 := want_adv hL b1.ok wSemi
  have n0 := mu0 hs1 k0
  have n1 := mu_le b1
  have n2 := want_mu hL b1.ok wSemi
  have hfree := ho.free
  have q1 : l.length + 1 ≤ maxLen := by unfold maxLen; omega
  have q2 : (l.length + 1) * 224 ≤ 140737488355328 := by omega
  have q3 := qus_one16 l
  have hce := (IH n (by omega)).eq a
  (repeat revert X); refine wE (And.intro tfPsR8 (And.intro f0 (And.intro hAm h1))) ?_; repeat intro X hX
  refine callM (qtok_any hL a _ xA _ hs1 d) ?_
  rintro v m' ⟨rfl, rfl⟩
  obtain ⟨c2, g2⟩ : ∃ b, ((s1.tk L).kind == 2) = b := ⟨_, rfl⟩
  have g2n : ((s1.tk L).kind != 2) = !c2 := by rw [← g2]; rfl
  rw [g2] at hun2
  have fin : ∀ {X : Prop}, X → X := id
  refine wS (And.intro tfPsR8 f0) ?_
  cases c2 with
  | true =>
   simp only [Bool.not_true, Bool.false_and, Bool.false_eq_true, if_false] at hun2
   simp only [g2, Bool.not_true]
   refine wS aEQ_t ?_
   (repeat revert X); refine wE f0 ?_; repeat intro X hX
   refine callM (hce _ xA s1 hs1 k0 d hd4 (by omega)) ?_
   rintro v m' ⟨rfl, rfl⟩
   generalize rEq L n d s1 = c at *
   have hpv := Qu.pv_eq c.1
   unfold Qu.cs at hpv
   rw [hpv]
   refine wS tfPsR8 ?_
   (repeat revert X); refine wE f0 ?_; repeat intro X hX
   refine callM (qwant_any hL a _ xA _ b1.ok d wSemi) ?_
   rintro v m' rfl
   refine wS aEQ_t ?_
   (repeat (first | refine aReg ?_; simp -implicitDefEqProofs only [forall_eq, ↓slp, slb, ↓reduceIte, jA, jB, jC, jE, jF, tfPsR8, f3] | apply hX; clear hX X | apply And.intro; focus ((repeat' apply And.intro) <;> first | omega | assumption)))
   refine hW n _ _ (by omega) ?_
   rw [hI]
   exact ⟨l ++ [c.1], c.2.want L wSemi, .tok mm.nt, _, b2.ok, by omega, by omega, by simp; omega, fun hk => hkk k0, by rw [hr, hun2], f0, by rw [List.map_append, List.map_cons, List.map_nil, hpv]; rfl, rfl, htk.fresh ho, Mine.newB htk o 16⟩
  | false =>
   simp only [g2, Bool.not_false]
   refine wS aEQ_t ?_
   (repeat revert X); refine wE (And.intro tfPsR8 (And.intro f0 (And.intro f3 (And.intro hAm (And.intro hA (And.intro g2 g2n)))))) ?_; repeat intro X hX
   refine callM (qis_any hL a _ xA s1 hs1 d wOpen) ?_
   rintro v m' ⟨rfl, rfl⟩
   cases w_wOpen : s1.is L wOpen with
   | true =>
    simp only [w_wOpen, Bool.not_true, Bool.and_false, Bool.false_and, Bool.false_eq_true, if_false] at hun2
    try simp only [g2, Bool.not_false]
    refine wS (And.intro tfPsR8 @pB.eq_1) ?_
    (repeat revert X); refine wE f0 ?_; repeat intro X hX
    refine callM (hce _ xA s1 hs1 k0 d hd4 (by omega)) ?_
    rintro v m' ⟨rfl, rfl⟩
    generalize rEq L n d s1 = c at *
    have hpv := Qu.pv_eq c.1
    unfold Qu.cs at hpv
    rw [hpv]
    refine wS tfPsR8 ?_
    (repeat revert X); refine wE f0 ?_; repeat intro X hX
    refine callM (qwant_any hL a _ xA _ b1.ok d wSemi) ?_
    rintro v m' rfl
    refine wS aEQ_t ?_
    (repeat (first | refine aReg ?_; simp -implicitDefEqProofs only [forall_eq, ↓slp, slb, ↓reduceIte, jA, jB, jC, jE, jF, tfPsR8, f3] | apply hX; clear hX X | apply And.intro; focus ((repeat' apply And.intro) <;> first | omega | assumption)))
    refine hW n _ _ (by omega) ?_
    rw [hI]
    exact ⟨l ++ [c.1], c.2.want L wSemi, .tok mm.nt, _, b2.ok, by omega, by omega, by simp; omega, fun hk => hkk k0, by rw [hr, hun2], f0, by rw [List.map_append, List.map_cons, List.map_nil, hpv]; rfl, rfl, htk.fresh ho, Mine.newB htk o 16⟩
   | false =>
   try simp only [g2, Bool.not_false]
   refine wS (And.intro tfPsR8 (And.intro f0 @pB.eq_1)) ?_
   (repeat revert X); refine wE (And.intro tfPsR8 (And.intro f0 (And.intro f3 (And.intro hAm (And.intro hA (And.intro g2 (And.intro g2n @pB.eq_1))))))) ?_; repeat intro X hX
   refine callM (qis_any hL a _ xA s1 hs1 d wSwitch) ?_
   rintro v m' ⟨rfl, rfl⟩
   cases w_wSwitch : s1.is L wSwitch with
   | true =>
    simp only [w_wSwitch, Bool.not_true, Bool.and_false, Bool.false_and, Bool.false_eq_true, if_false] at hun2
    try simp only [g2, Bool.not_false]
    refine wS (And.intro tfPsR8 @pB.eq_1) ?_
    (repeat revert X); refine wE f0 ?_; repeat intro X hX
    refine callM (hce _ xA s1 hs1 k0 d hd4 (by omega)) ?_
    rintro v m' ⟨rfl, rfl⟩
    generalize rEq L n d s1 = c at *
    have hpv := Qu.pv_eq c.1
    unfold Qu.cs at hpv
    rw [hpv]
    refine wS tfPsR8 ?_
    (repeat revert X); refine wE f0 ?_; repeat intro X hX
    refine callM (qwant_any hL a _ xA _ b1.ok d wSemi) ?_
    rintro v m' rfl
    refine wS aEQ_t ?_
    (repeat (first | refine aReg ?_; simp -implicitDefEqProofs only [forall_eq, ↓slp, slb, ↓reduceIte, jA, jB, jC, jE, jF, tfPsR8, f3] | apply hX; clear hX X | apply And.intro; focus ((repeat' apply And.intro) <;> first | omega | assumption)))
    refine hW n _ _ (by omega) ?_
    rw [hI]
    exact ⟨l ++ [c.1], c.2.want L wSemi, .tok mm.nt, _, b2.ok, by omega, by omega, by simp; omega, fun hk => hkk k0, by rw [hr, hun2], f0, by rw [List.map_append, List.map_cons, List.map_nil, hpv]; rfl, rfl, htk.fresh ho, Mine.newB htk o 16⟩
   | false =>
   try simp only [g2, Bool.not_false]
   refine wS (And.intro tfPsR8 (And.intro f0 @pB.eq_1)) ?_
   (repeat revert X); refine wE (And.intro tfPsR8 (And.intro f0 (And.intro f3 (And.intro hAm (And.intro hA (And.intro g2 (And.intro g2n @pB.eq_1))))))) ?_; repeat intro X hX
   refine callM (qis_any hL a _ xA s1 hs1 d wAuto) ?_
   rintro v m' ⟨rfl, rfl⟩
   cases w_wAuto : s1.is L wAuto with
   | true =>
    simp only [w_wAuto, Bool.not_true, Bool.and_false, Bool.false_and, Bool.false_eq_true, if_false] at hun2
    try simp only [g2, Bool.not_false]
    refine wS (And.intro tfPsR8 @pB.eq_1) ?_
    (repeat revert X); refine wE f0 ?_; repeat intro X hX
    refine callM (hce _ xA s1 hs1 k0 d hd4 (by omega)) ?_
    rintro v m' ⟨rfl, rfl⟩
    generalize rEq L n d s1 = c at *
    have hpv := Qu.pv_eq c.1
    unfold Qu.cs at hpv
    rw [hpv]
    refine wS tfPsR8 ?_
    (repeat revert X); refine wE f0 ?_; repeat intro X hX
    refine callM (qwant_any hL a _ xA _ b1.ok d wSemi) ?_
    rintro v m' rfl
    refine wS aEQ_t ?_
    (repeat (first | refine aReg ?_; simp -implicitDefEqProofs only [forall_eq, ↓slp, slb, ↓reduceIte, jA, jB, jC, jE, jF, tfPsR8, f3] | apply hX; clear hX X | apply And.intro; focus ((repeat' apply And.intro) <;> first | omega | assumption)))
    refine hW n _ _ (by omega) ?_
    rw [hI]
    exact ⟨l ++ [c.1], c.2.want L wSemi, .tok mm.nt, _, b2.ok, by omega, by omega, by simp; omega, fun hk => hkk k0, by rw [hr, hun2], f0, by rw [List.map_append, List.map_cons, List.map_nil, hpv]; rfl, rfl, htk.fresh ho, Mine.newB htk o 16⟩
   | false =>
   try simp only [g2, Bool.not_false]
   refine wS (And.intro tfPsR8 (And.intro f0 @pB.eq_1)) ?_
   (repeat revert X); refine wE (And.intro tfPsR8 (And.intro f0 (And.intro f3 (And.intro hAm (And.intro hA (And.intro g2 (And.intro g2n @pB.eq_1))))))) ?_; repeat intro X hX
   refine callM (qis_any hL a _ xA s1 hs1 d wReset) ?_
   rintro v m' ⟨rfl, rfl⟩
   cases w_wReset : s1.is L wReset with
   | true =>
    simp only [w_wReset, Bool.not_true, Bool.and_false, Bool.false_and, Bool.false_eq_true, if_false] at hun2
    try simp only [g2, Bool.not_false]
    refine wS (And.intro tfPsR8 @pB.eq_1) ?_
    (repeat revert X); refine wE f0 ?_; repeat intro X hX
    refine callM (hce _ xA s1 hs1 k0 d hd4 (by omega)) ?_
    rintro v m' ⟨rfl, rfl⟩
    generalize rEq L n d s1 = c at *
    have hpv := Qu.pv_eq c.1
    unfold Qu.cs at hpv
    rw [hpv]
    refine wS tfPsR8 ?_
    (repeat revert X); refine wE f0 ?_; repeat intro X hX
    refine callM (qwant_any hL a _ xA _ b1.ok d wSemi) ?_
    rintro v m' rfl
    refine wS aEQ_t ?_
    (repeat (first | refine aReg ?_; simp -implicitDefEqProofs only [forall_eq, ↓slp, slb, ↓reduceIte, jA, jB, jC, jE, jF, tfPsR8, f3] | apply hX; clear hX X | apply And.intro; focus ((repeat' apply And.intro) <;> first | omega | assumption)))
    refine hW n _ _ (by omega) ?_
    rw [hI]
    exact ⟨l ++ [c.1], c.2.want L wSemi, .tok mm.nt, _, b2.ok, by omega, by omega, by simp; omega, fun hk => hkk k0, by rw [hr, hun2], f0, by rw [List.map_append, List.map_cons, List.map_nil, hpv]; rfl, rfl, htk.fresh ho, Mine.newB htk o 16⟩
   | false =>
   try simp only [g2, Bool.not_false]
   refine wS (And.intro tfPsR8 @pB.eq_1) ?_
   simp only [w_wOpen, w_wSwitch, w_wAuto, w_wReset, Bool.not_false, Bool.and_self, if_true] at hun2
   (repeat revert X); refine wE f3 ?_; repeat intro X hX
   refine wQ Tryz.results81 aEQ_t ?_
   exact leave_qstB hA htk rfl ⟨by rw [hr, hun2]; rfl, by rw [hr, hun2]⟩
end

def tfPsR9 := tfPsR8

theorem frz_q {L : List Tk} {a : Nat} {m : M} {s : PS} {d : Int} {f : F} {bs bs' : List (Option (List PV))} {j : Nat} {c : List PV} {xs : List PV} {sz : Nat} (hA : a < m.nb) (hj : bs[j]? = some (some c)) (hc : c = xs.flatMap PV.cells ∨ c.map PV.settle = xs.flatMap PV.cells ∨ ∃ r, c = xs.flatMap PV.cells ++ r ∧ ∀ y ∈ r, y.isTp = false) (hx : ∀ x ∈ xs, x.cells.length = sz ∧ x.ok = true) (hl : bs'.length = bs.length)
    (hb : ∀ (i : Nat) c', bs'[i]? = some (some c') → i ≠ j ∧ ∃ c0, bs[i]? = some (some c0) ∧ (c' = c0 ∨ c' = c0.map (PV.frz (m.nb + j) xs))) : GStep f (qst L a (m.ext bs) s d) f (qst L a (m.ext bs') s d) := by
 have e1 : ∀ bs : List (Option (List PV)), qst L a (m.ext bs) s d = (qst L a m s d).ext bs := fun bs => (qst_ext bs hA).symm
 rw [e1, e1]
 generalize hm2 : qst L a m s d = m2
 have hnb : m2.nb = m.nb := by rw [← hm2, qst_nb]
 have hg : ∀ (bs : List (Option (List PV))) k, (m2.ext bs).get k = if k < m.nb then m2.get k else (bs[k - m.nb]?).join := fun bs k => by
  split
  ·unfold M.get M.ext
   have : k < m2.boxes.length := by have : m2.boxes.length = m.nb := hnb; omega
   rw [List.getElem?_append_left this]
  ·have : k = m.nb + (k - m.nb) := by omega
   rw [this, ext_get hnb]
   simp
 refine .inr ⟨m.nb + j, xs, sz, c, by rw [ext_get hnb, hj]; rfl, hc, hx, fun _ => .inl rfl, rfl, by show (m2.boxes ++ bs').length = (m2.boxes ++ bs).length; simp [hl], fun k c' hk => ?_⟩
 rw [hg] at hk
 rw [hg]
 split at hk
 ·rename_i h
  exact ⟨by omega, .inl (by rw [if_pos h]; exact hk)⟩
 ·rename_i h
  rw [if_neg h]
  have hk2 : bs'[k - m.nb]? = some (some c') := by
   cases hq : bs'[k - m.nb]? with
   | none => rw [hq] at hk; simp at hk
   | some v => rw [hq] at hk; simp at hk; rw [hk]
  obtain ⟨h1, c0, h2, h3⟩ := hb _ _ hk2
  refine ⟨by omega, ?_⟩
  rcases h3 with rfl | h3
  ·exact .inl (by rw [h2]; rfl)
  ·exact .inr ⟨c0, by rw [h2]; rfl, h3⟩
section
variable {L : List Tk} (hL : TksOk L) (hR : RightC L) {f : Nat} (IH : ∀ g, g ≤ f → QBlC L g)
include hL hR IH
set_option maxHeartbeats 16000000 in
theorem qeq_step (a : Nat) (m : M) (hA : a < m.nb) (s : PS) (hs : s.ok L) (k0 : s.k = 0) (d : Int) (hd : 0 ≤ d ∧ d ≤ 64) (hf : mu L s + 1 ≤ f + 1) : ACalls Tryz.prog 102 [.bp a 0] (qst L a m s d) (fun v m' => v = (rEq L (f + 1) d s).1.pv ∧ m' = qst L a m (rEq L (f + 1) d s).2 d) := by
 have hsk : ∀ (s : PS) w, s.skp L w = if s.is L w then s.nx else s := fun _ _ => rfl
 have n0 := mu0 hs k0
 have nx : ∀ {w : Str}, s.is L w = true → Adv L s s.nx ∧ mu L s.nx + 16 ≤ mu L s := fun {w} hi => ⟨is_adv hL hs hi, mu_nx hL hs (is_of hi).1 (is_of hi).2.1⟩
 obtain ⟨t, ht⟩ : ∃ t, s.tk L = t := ⟨_, rfl⟩
 have hun : rEq L (f + 1) d s = (if s.is L wSwitch then
     (.mk 3 [] ⟨#[]⟩ [] false (eX L d s.nx).1 (rArms L f d false (eX L d s.nx).2).1 t.line t.col, (rArms L f d false (eX L d s.nx).2).2)
  else if s.is L wAuto then
   (.mk 4 [] ⟨#[]⟩ [] false z0 (rArms L f d true s.nx).1 t.line t.col, (rArms L f d true s.nx).2)
  else if s.is L wReset then
   (.mk 5 [] ⟨#[]⟩ [] false (eX L d ((rBlock L f d s.nx).2.want L wEvery)).1 [.mk ⟨#[]⟩ (rBlock L f d s.nx).1.1 (rBlock L f d s.nx).1.2 [] [] t.line t.col] t.line t.col, (eX L d ((rBlock L f d s.nx).2.want L wEvery)).2)
  else rRight L d (rLhs L s).1 t ((rLhs L s).2.want L wEq)) := by rw [rEq, ht]
 refine eN [2, 3, 39] Tryz.func102 ?_
 (repeat revert X); refine wE (And.intro tfPsR9 hA) ?_; repeat intro X hX
 refine callM (qtok_any hL a _ xA s hs d) ?_
 rintro v m' ⟨rfl, rfl⟩
 rw [ht]
 refine wS (And.intro tfPsR9 hA) ?_
 (repeat revert X); refine wE aEQ_t ?_; repeat intro X hX
 refine callM (qskip_any hL a _ xA s hs d wSwitch) ?_
 rintro v m' ⟨rfl, rfl⟩
 rw [hsk]
 cases h1 : s.is L wSwitch with
 | true =>
  obtain ⟨a1, m1⟩ := nx h1
  have a2 := (eX_adv hL (d := d) a1.ok).1
  have m2 := mu_le a2
  have hca := (IH f (Nat.le_refl _)).arms a
  rw [h1, if_pos rfl] at hun
  rw [if_pos rfl]
  refine wS @pB.eq_1 ?_
  (repeat revert X); refine wE (And.intro tfPsR9 hA) ?_; repeat intro X hX
  refine callM (qeX_any hL a _ xA _ a1.ok d hd) ?_
  rintro v m' ⟨rfl, rfl⟩
  generalize eX L d s.nx = e at *
  rw [show e.1.pv = .ag [.v (.int .u8 e.1.kind), .v (.int .u8 e.1.op), .v (.int .i32 e.1.n), .v (.string e.1.name), .sl .no (e.1.names.map pS), .sl .no (e.1.kids.map Ex.pv), .v (.int .i64 e.1.line), .v (.int .i64 e.1.col)] from Ex.pv_eq e.1]
  refine wS (And.intro tfPsR9 hA) ?_
  (repeat revert X); refine wE aEQ_t ?_; repeat intro X hX
  refine callM (hca _ xA _ a2.ok d hd false (by omega)) ?_
  rintro v m' ⟨rfl, rfl⟩
  generalize rArms L f d false e.2 = r at *
  refine wS (And.intro tfPsR9 hA) ?_
  (repeat revert X); refine wE (And.intro tfPsR9 hA) ?_; repeat intro X hX
  refine wQ Tryz.results102 (And.intro tfPsR9 hA) ?_
  exact leave_qst hA (.refl m) rfl ⟨by rw [hun, Qu.pv_eq]; rfl, by rw [hun]⟩
 | false =>
 rw [h1, if_neg (by simp)] at hun
 rw [if_neg (by simp)]
 refine wS @pB.eq_1 ?_
 (repeat revert X); refine wE aEQ_t ?_; repeat intro X hX
 refine callM (qskip_any hL a _ xA s hs d wAuto) ?_
 rintro v m' ⟨rfl, rfl⟩
 rw [hsk]
 cases h2 : s.is L wAuto with
 | true =>
  obtain ⟨a1, m1⟩ := nx h2
  have hca := (IH f (Nat.le_refl _)).arms a
  rw [h2, if_pos rfl] at hun
  rw [if_pos rfl]
  refine wS @pB.eq_1 ?_
  (repeat revert X); refine wE (And.intro tfPsR9 hA) ?_; repeat intro X hX
  refine callM (hca _ xA _ a1.ok d hd true (by omega)) ?_
  rintro v m' ⟨rfl, rfl⟩
  generalize rArms L f d true s.nx = r at *
  refine wS (And.intro tfPsR9 hA) ?_
  (repeat revert X); refine wE (And.intro tfPsR9 hA) ?_; repeat intro X hX
  refine wQ Tryz.results102 (And.intro tfPsR9 hA) ?_
  exact leave_qst hA (.refl m) rfl ⟨by rw [hun, Qu.pv_eq]; rfl, by rw [hun]⟩
 | false =>
 rw [h2, if_neg (by simp)] at hun
 rw [if_neg (by simp)]
 refine wS @pB.eq_1 ?_
 (repeat revert X); refine wE aEQ_t ?_; repeat intro X hX
 refine callM (qskip_any hL a _ xA s hs d wReset) ?_
 rintro v m' ⟨rfl, rfl⟩
 rw [hsk]
 cases h3 : s.is L wReset with
 | true =>
  obtain ⟨a1, m1⟩ := nx h3
  have a2 := (quL hL f).block d _ a1.ok (by omega)
  have a3 := want_adv hL a2.ok wEvery
  have hcb := (IH f (Nat.le_refl _)).block a
  rw [h3, if_pos rfl] at hun
  rw [if_pos rfl]
  refine wS @pB.eq_1 ?_
  (repeat revert X); refine wE (And.intro tfPsR9 hA) ?_; repeat intro X hX
  refine aDrwE (isQ1 L a m [.v (.int .u8 5), .sl .full [], .v (.string ⟨#[]⟩), .sl .full [], .v (.bool false), .v (.int .u8 0), .v (.int .u8 0), .v (.int .i32 0), .v (.string ⟨#[]⟩), .sl .full [], .sl .full [], .v (.int .i64 0), .v (.int .i64 0), .bs (m.nb + 2) 0 1, .v (.int .i64 t.line), .v (.int .i64 t.col)] d) (hne := List.cons_ne_nil _ _) rfl (by kernel_rfl) (by kernel_rfl) (isQ1_of rfl) ?_
  simp -implicitDefEqProofs only [↓slp, slb, ↓reduceIte, reduceCtorEq, jA, jB, jD, jF, tfPsR9, hA, isQ1_all, qst_gx1, List.dropLast_cons_cons, List.dropLast_singleton, List.getLast_cons_cons, List.getLast_singleton]
  refine callM (hcb _ xA _ a1.ok d hd (by omega)) ?_
  rintro v m' ⟨rfl, rfl⟩
  generalize rBlock L f d s.nx = r at *
  refine ⟨isQ1_of rfl, ?_⟩
  simp -implicitDefEqProofs only [↓slp, slb, ↓reduceIte, reduceCtorEq, jA, jB, jC, jE, jF, jH, jJ, tfPsR9, hA, List.flatMap_cons, List.flatMap_nil]
  (repeat revert X); refine wE aEQ_t ?_; repeat intro X hX
  refine callM (qwant_any hL a _ xA _ a2.ok d wEvery) ?_
  rintro v m' rfl
  refine wS aEQ_t ?_
  (repeat revert X); refine wE aEQ_t ?_; repeat intro X hX
  refine callM (qeX_any hL a _ xA _ a3.ok d hd) ?_
  rintro v m' ⟨rfl, rfl⟩
  generalize eX L d (r.2.want L wEvery) = e at *
  rw [show e.1.pv = .ag [.v (.int .u8 e.1.kind), .v (.int .u8 e.1.op), .v (.int .i32 e.1.n), .v (.string e.1.name), .sl .no (e.1.names.map pS), .sl .no (e.1.kids.map Ex.pv), .v (.int .i64 e.1.line), .v (.int .i64 e.1.col)] from Ex.pv_eq e.1]
  refine wS (And.intro tfPsR9 hA) ?_
  obtain ⟨arm, harm⟩ : ∃ x : Am, x = .mk ⟨#[]⟩ r.1.1 r.1.2 [] [] t.line t.col := ⟨_, rfl⟩
  rw [← harm] at hun
  have hfz : ∀ f' : F, GStep f' (qst L a (m.ext [some [.v (.int .u8 0), .sl .full [], .v (.string ⟨#[]⟩), .sl .full [], .v (.bool false), .v (.int .u8 0), .v (.int .u8 0), .v (.int .i32 0), .v (.string ⟨#[]⟩), .sl .full [], .sl .full [], .v (.int .i64 0), .v (.int .i64 0), .sl .full [], .v (.int .i64 0), .v (.int .i64 0)], some [.v (.int .u8 5), .sl .full [], .v (.string ⟨#[]⟩), .sl .full [], .v (.bool false), .v (.int .u8 e.1.kind), .v (.int .u8 e.1.op), .v (.int .i32 e.1.n), .v (.string e.1.name), .sl .no (e.1.names.map pS), .sl .no (e.1.kids.map Ex.pv), .v (.int .i64 e.1.line), .v (.int .i64 e.1.col), .bs (m.nb + 2) 0 1, .v (.int .i64 t.line), .v (.int .i64 t.col)], some [.v (.string ⟨#[]⟩), .sl .no (r.1.1.map Va.pv), .sl .no (r.1.2.map Qu.pv), .sl .full [], .sl .full [], .v (.int .i64 t.line), .v (.int .i64 t.col)]]) e.2 d) f' (qst L a (m.ext [some [.v (.int .u8 0), .sl .full [], .v (.string ⟨#[]⟩), .sl .full [], .v (.bool false), .v (.int .u8 0), .v (.int .u8 0), .v (.int .i32 0), .v (.string ⟨#[]⟩), .sl .full [], .sl .full [], .v (.int .i64 0), .v (.int .i64 0), .sl .full [], .v (.int .i64 0), .v (.int .i64 0)], some [.v (.int .u8 5), .sl .full [], .v (.string ⟨#[]⟩), .sl .full [], .v (.bool false), .v (.int .u8 e.1.kind), .v (.int .u8 e.1.op), .v (.int .i32 e.1.n), .v (.string e.1.name), .sl .no (e.1.names.map pS), .sl .no (e.1.kids.map Ex.pv), .v (.int .i64 e.1.line), .v (.int .i64 e.1.col), .sl .no [arm.pv], .v (.int .i64 t.line), .v (.int .i64 t.col)], none]) e.2 d) := by
   refine fun f' => frz_q (j := 2) (xs := [arm.pv]) (sz := 7) hA rfl (.inr (.inl ?_)) (fun x hx => ?_) rfl (fun i c' hi => ?_)
   ·rw [List.flatMap_cons, List.flatMap_nil, List.append_nil, Am.cells_pv, harm]; rfl
   ·obtain rfl : x = arm.pv := by simpa using hx
    exact ⟨by rw [Am.cells_pv]; rfl, by rw [Am.pv_eq]; rfl⟩
   ·match i, hi with
    | 0, hi => cases hi; exact ⟨by omega, _, rfl, .inl rfl⟩
    | 1, hi => cases hi; exact ⟨by omega, _, rfl, .inr (by simp [PV.frz])⟩
    | 2, hi => cases hi
    | n + 3, hi => cases hi
  (repeat (first | refine aSeq fun X hX => ?_ | (apply hX; clear hX X)))
  refine aRegG (hfz _) ?_
  refine wS (And.intro tfPsR9 hA) ?_
  (repeat revert X); refine wE aEQ_t ?_; repeat intro X hX
  refine wQ Tryz.results102 (And.intro tfPsR9 hA) ?_
  exact leave_qst hA (.refl m) rfl ⟨by rw [hun, Qu.pv_eq]; rfl, by rw [hun]⟩
 | false =>
 rw [h3, if_neg (by simp)] at hun
 rw [if_neg (by simp)]
 have a1 := lhs_adv hL hs
 have a2 := want_adv hL a1.ok wEq
 refine wS @pB.eq_1 ?_
 (repeat revert X); refine wE aEQ_t ?_; repeat intro X hX
 refine callM (qlhs_any hL a _ xA s hs d) ?_
 rintro v m' ⟨rfl, rfl⟩
 generalize rLhs L s = l at *
 refine wS (And.intro tfPsR9 hA) ?_
 (repeat revert X); refine wE aEQ_t ?_; repeat intro X hX
 refine callM (qwant_any hL a _ xA _ a1.ok d wEq) ?_
 rintro v m' rfl
 refine wS aEQ_t ?_
 (repeat revert X); refine wE aEQ_t ?_; repeat intro X hX
 refine callM (hR a (m.nb + 1) _ (by rw [ext_nb]; omega) (by rw [ext_nb]; simp) (by omega) _ a2.ok d hd l.1 t (ext_get (i := 1) rfl)) ?_
 rintro v m' ⟨oa, on, ok, harm, rfl⟩
 rw [ext_upd (i := 1) rfl]
 simp only [List.set_cons_succ, List.set_cons_zero]
 generalize rRight L d l.1 t (l.2.want L wEq) = r at *
 refine wS aEQ_t ?_
 (repeat revert X); refine wE (And.intro tfPsR9 hA) ?_; repeat intro X hX
 refine wQ Tryz.results102 (And.intro tfPsR9 hA) ?_
 exact leave_qst hA (.refl m) rfl ⟨by rw [hun, Qu.pv_eq]; unfold Qu.cs; rw [harm]; rfl, by rw [hun]⟩
omit hR in
set_option maxHeartbeats 16000000 in
theorem qarms_step (a : Nat) (m : M) (hA : a < m.nb) (s : PS) (hs : s.ok L) (d : Int) (hd : 0 ≤ d ∧ d ≤ 64) (st : Bool) (hf : mu L s + 2 ≤ f + 1) : ACalls Tryz.prog 119 [.bp a 0, pB st] (qst L a m s d) (fun v m' => v = .sl .no ((rArms L (f + 1) d st s).1.map Am.pv) ∧ m' = qst L a m (rArms L (f + 1) d st s).2 d) := by
 obtain ⟨r, hr0⟩ : ∃ r, rArmL L f d st [] s = r := ⟨_, rfl⟩
 have hun : rArms L (f + 1) d st s = (r.1, (if r.1.length == 0 then r.2.here L 2 else r.2).want L wEnd) := by rw [rArms, hr0]
 refine eN [5, 6] Tryz.func119 ?_
 (repeat revert X); refine wE tfPsR9 ?_; repeat intro X hX
 obtain ⟨I, hI⟩ : ∃ I : Nat → F → M → Prop, ∀ n g m', I n g m' = (∃ (l : List Am) (s1 : PS) (o : Own) (mm : M), s1.ok L ∧ mu L s1 + 1 ≤ n ∧ n ≤ f ∧ l.length ≤ 32 ∧ r = rArmL L n d st l s1 ∧ g 0 = .bp a 0 ∧ g 1 = pB st ∧ g 5 = .sl o (l.map Am.pv) ∧ m' = qst L a mm s1 d ∧ BaseR m mm ∧ Mine m mm o 7) := ⟨_, fun _ _ _ => rfl⟩
 refine aLoopN I f ?_ ?_
 ·rw [hI]; exact ⟨[], s, .full, m, hs, by omega, Nat.le_refl _, by simp, hr0.symm, rfl, rfl, rfl, rfl, .refl m, .full⟩
 clear hr0
 intro W n g m' hrel hW
 rw [hI] at hrel
 obtain ⟨l, s1, o, mm, hs1, hn, hnf, hl, hr, f0, f1, f5, rfl, htk, ho⟩ := hrel
 obtain ⟨n, rfl⟩ : ∃ k, n = k + 1 := ⟨n - 1, by omega⟩
 have hnb := htk.nb
 have hAm : a < mm.nb := by omega
 have hun2 : rArmL L (n + 1) d st l s1 = if s1.is L wBar then (if l.length == 32 then (l, s1.here L 3) else
     (if st then rArmL L n d st (l ++ [.mk (if st then rName L 3 (s1.want L wBar) else rCtor L (s1.want L wBar)).1 (rBlock L n d (if st then rName L 3 (s1.want L wBar) else rCtor L (s1.want L wBar)).2).1.1 (rBlock L n d (if st then rName L 3 (s1.want L wBar) else rCtor L (s1.want L wBar)).2).1.2 (rWays L d wUnless (rBlock L n d (if st then rName L 3 (s1.want L wBar) else rCtor L (s1.want L wBar)).2).2).1 (rWays L d wUntil (rWays L d wUnless (rBlock L n d (if st then rName L 3 (s1.want L wBar) else rCtor L (s1.want L wBar)).2).2).2).1 ((s1.want L wBar).tk L).line ((s1.want L wBar).tk L).col]) (rWays L d wUntil (rWays L d wUnless (rBlock L n d (if st then rName L 3 (s1.want L wBar) else rCtor L (s1.want L wBar)).2).2).2).2
     else rArmL L n d st (l ++ [.mk (if st then rName L 3 (s1.want L wBar) else rCtor L (s1.want L wBar)).1 (rBlock L n d (if st then rName L 3 (s1.want L wBar) else rCtor L (s1.want L wBar)).2).1.1 (rBlock L n d (if st then rName L 3 (s1.want L wBar) else rCtor L (s1.want L wBar)).2).1.2 [] [] ((s1.want L wBar).tk L).line ((s1.want L wBar).tk L).col]) (rBlock L n d (if st then rName L 3 (s1.want L wBar) else rCtor L (s1.want L wBar)).2).2)) else (l, s1) := by rw [rArmL]
 (repeat revert X); refine wE f0 ?_; repeat intro X hX
 refine callM (qis_any hL a _ xA s1 hs1 d wBar) ?_
 rintro v m' ⟨rfl, rfl⟩
 cases h1 : s1.is L wBar with
 | false =>
  simp only [h1, Bool.false_eq_true, ↓reduceIte] at hun2
  rw [hr, hun2] at hun
  obtain ⟨c6, g6⟩ : ∃ b, (l.length == 0) = b := ⟨_, rfl⟩
  have g6i : ((l.length : Int) == 0) = c6 := by rw [← g6]; cases hq : (l.length == 0) <;> simp at hq ⊢ <;> omega
  simp only [g6] at hun
  cases c6 with
  | true =>
   simp only [↓reduceIte] at hun
   have b1 := here_adv hL hs1 2
   refine wS @pB.eq_1 ?_
   (repeat revert X); refine wE (And.intro tfPsR9 (And.intro f0 (And.intro f5 g6i))) ?_; repeat intro X hX
   refine callM (qhere_any hL a _ xA s1 hs1 d 2) ?_
   rintro v m' rfl
   refine wS aEQ_t ?_
   (repeat revert X); refine wE f0 ?_; repeat intro X hX
   refine callM (qwant_any hL a _ xA _ b1.ok d wEnd) ?_
   rintro v m' rfl
   refine wS aEQ_t ?_
   (repeat revert X); refine wE f5 ?_; repeat intro X hX
   refine wQ Tryz.results119 aEQ_t ?_
   exact leave_qstB hA htk rfl ⟨by rw [hun]; rfl, by rw [hun]⟩
  | false =>
   simp only [Bool.false_eq_true, ↓reduceIte] at hun
   refine wS @pB.eq_1 ?_
   (repeat revert X); refine wE (And.intro tfPsR9 (And.intro f0 (And.intro f5 g6i))) ?_; repeat intro X hX
   refine callM (qwant_any hL a _ xA _ hs1 d wEnd) ?_
   rintro v m' rfl
   refine wS aEQ_t ?_
   (repeat revert X); refine wE f5 ?_; repeat intro X hX
   refine wQ Tryz.results119 aEQ_t ?_
   exact leave_qstB hA htk rfl ⟨by rw [hun]; rfl, by rw [hun]⟩
 | true =>
  simp only [h1, ↓reduceIte] at hun2
  obtain ⟨c7, g7⟩ : ∃ b, (l.length == 32) = b := ⟨_, rfl⟩
  have g7i : ((l.length : Int) == 32) = c7 := by rw [← g7]; cases hq : (l.length == 32) <;> simp at hq ⊢ <;> omega
  rw [g7] at hun2
  cases c7 with
  | true =>
   have hk32 : l.length = 32 := by simpa using g7
   have g8 : ((l.length : Int) == 0) = false := by rw [hk32]; rfl
   have g8n : (l.length == 0) = false := by rw [hk32]; rfl
   simp only [↓reduceIte] at hun2
   rw [hr, hun2] at hun
   simp only [g8n, Bool.false_eq_true, ↓reduceIte] at hun
   have b1 := here_adv hL hs1 3
   refine wS @pB.eq_1 ?_
   (repeat revert X); refine wE (And.intro tfPsR9 (And.intro f0 (And.intro f5 g7i))) ?_; repeat intro X hX
   refine callM (qhere_any hL a _ xA s1 hs1 d 3) ?_
   rintro v m' rfl
   refine wS aEQ_t ?_
   (repeat revert X); refine wE (And.intro tfPsR9 (And.intro f0 (And.intro f5 g8))) ?_; repeat intro X hX
   refine callM (qwant_any hL a _ xA _ b1.ok d wEnd) ?_
   rintro v m' rfl
   refine wS aEQ_t ?_
   (repeat revert X); refine wE f5 ?_; repeat intro X hX
   refine wQ Tryz.results119 aEQ_t ?_
   exact leave_qstB hA htk rfl ⟨by rw [hun]; rfl, by rw [hun]⟩
  | false =>
   simp only [Bool.false_eq_true, ↓reduceIte] at hun2
   have hk33 : l.length < 32 := by have : l.length ≠ 32 := by simpa using g7
                                   omega
   have hw : s1.want L wBar = s1.nx := by unfold PS.want; rw [if_pos h1]
   have b1 := is_adv hL hs1 h1
   have n1 := mu_nx hL hs1 (is_of h1).1 (is_of h1).2.1
   have n0 := mu0 hs1 (is_of h1).1
   rw [hw] at hun2
   have hcb := (IH n (by omega)).block a
   have hfree := ho.free
   have q1 : l.length + 1 ≤ maxLen := by unfold maxLen; omega
   have q2 : (l.length + 1) * 128 ≤ 140737488355328 := by omega
   have q3 := ams_one7 l
   refine wS @pB.eq_1 ?_
   (repeat revert X); refine wE (And.intro tfPsR9 (And.intro f0 (And.intro f5 g7i))) ?_; repeat intro X hX
   refine callM (qwant_any hL a _ xA s1 hs1 d wBar) ?_
   rintro v m' rfl
   rw [hw]
   refine wS aEQ_t ?_
   (repeat revert X); refine wE f0 ?_; repeat intro X hX
   refine callM (qtok_any hL a _ xA _ b1.ok d) ?_
   rintro v m' ⟨rfl, rfl⟩
   generalize s1.nx.tk L = t at *
   cases st with
   | true =>
    simp only [↓reduceIte] at hun2
    have b2 := name_adv hL b1.ok (kd := 3) (by decide)
    refine wS (And.intro tfPsR9 hAm) ?_
    (repeat revert X); refine wE (And.intro f0 (And.intro f1 @pB.eq_1)) ?_; repeat intro X hX
    refine callM (qname_any hL a _ xA _ b1.ok d 3) ?_
    rintro v m' ⟨rfl, rfl⟩
    generalize rName L 3 s1.nx = nm at *
    have n2 := mu_le b2
    have b3 := (quL hL n).block d _ b2.ok (by omega)
    refine wS (And.intro tfPsR9 hAm) ?_
    (repeat revert X); refine wE f0 ?_; repeat intro X hX
    refine callM (hcb _ xA _ b2.ok d hd (by omega)) ?_
    rintro v m' ⟨rfl, rfl⟩
    generalize rBlock L n d nm.2 = bk at *
    have b4 := ways_adv hL (d := d) (w := wUnless) b3.ok
    refine wS (And.intro tfPsR9 hAm) ?_
    (repeat revert X); refine wE (And.intro f0 (And.intro f1 @pB.eq_1)) ?_; repeat intro X hX
    refine callM (qways_any hL a _ xA _ b3.ok d hd wUnless) ?_
    rintro v m' ⟨rfl, rfl⟩
    generalize rWays L d wUnless bk.2 = u at *
    have b5 := ways_adv hL (d := d) (w := wUntil) b4.ok
    refine wS (And.intro tfPsR9 hAm) ?_
    (repeat revert X); refine wE f0 ?_; repeat intro X hX
    refine callM (qways_any hL a _ xA _ b4.ok d hd wUntil) ?_
    rintro v m' ⟨rfl, rfl⟩
    generalize rWays L d wUntil u.2 = w at *
    have n5 := mu_le (b3.trans (b4.trans b5))
    refine wS (And.intro tfPsR9 hAm) ?_
    (repeat (first | refine aReg ?_; simp -implicitDefEqProofs only [forall_eq, ↓slp, slb, ↓reduceIte, jA, jB, jC, jE, jF, tfPsR9, f5, hAm] | apply hX; clear hX X | apply And.intro; focus ((repeat' apply And.intro) <;> first | omega | assumption)))
    refine hW n _ _ (by omega) ?_
    rw [hI]
    exact ⟨l ++ [.mk nm.1 bk.1.1 bk.1.2 u.1 w.1 t.line t.col], w.2, .tok mm.nt, _, b5.ok, by omega, by omega, by simp; omega, by rw [hr, hun2], f0, f1, by rw [List.map_append, List.map_cons, List.map_nil, Am.pv_eq]; rfl, rfl, (htk.fresh ho).ext _, (Mine.newB htk o 7).ext _⟩
   | false =>
    simp only [Bool.false_eq_true, ↓reduceIte] at hun2
    have b2 := ctor_adv hL b1.ok
    refine wS (And.intro tfPsR9 hAm) ?_
    (repeat revert X); refine wE (And.intro f0 (And.intro f1 @pB.eq_1)) ?_; repeat intro X hX
    refine callM (qctor_any hL a _ xA _ b1.ok d) ?_
    rintro v m' ⟨rfl, rfl⟩
    generalize rCtor L s1.nx = nm at *
    have n2 := mu_le b2
    have b3 := (quL hL n).block d _ b2.ok (by omega)
    refine wS (And.intro tfPsR9 hAm) ?_
    (repeat revert X); refine wE f0 ?_; repeat intro X hX
    refine callM (hcb _ xA _ b2.ok d hd (by omega)) ?_
    rintro v m' ⟨rfl, rfl⟩
    generalize rBlock L n d nm.2 = bk at *
    have n5 := mu_le b3
    refine wS (And.intro tfPsR9 hAm) ?_
    (repeat (first | refine aSeq fun X hX => ?_ | refine aSkip ?_ | (first | apply aReg | apply aIf); simp -implicitDefEqProofs only [forall_eq, ↓slp, slb, ↓reduceIte, jA, jB, jC, jE, jF, tfPsR9, f1, f5, hAm, pB] | apply hX; clear hX X | apply And.intro; focus ((repeat' apply And.intro) <;> first | omega | assumption)))
    refine hW n _ _ (by omega) ?_
    rw [hI]
    exact ⟨l ++ [.mk nm.1 bk.1.1 bk.1.2 [] [] t.line t.col], bk.2, .tok mm.nt, _, b3.ok, by omega, by omega, by simp; omega, by rw [hr, hun2], f0, f1, by rw [List.map_append, List.map_cons, List.map_nil, Am.pv_eq]; rfl, rfl, (htk.fresh ho).ext _, (Mine.newB htk o 7).ext _⟩
end
theorem qblC {L : List Tk} (hL : TksOk L) (hR : RightC L) : ∀ f, ∀ g, g ≤ f → QBlC L g
 | 0, g, hg => by
  obtain rfl : g = 0 := by omega
  exact ⟨fun _ _ _ _ _ _ _ h => by omega, fun _ _ _ _ _ _ _ h => by omega, fun _ _ _ _ _ _ _ _ h => by omega, fun _ _ _ _ _ _ _ _ h => by omega⟩
 | f + 1, g, hg => by
  have IH := qblC hL hR f
  by_cases h : g ≤ f
  ·exact IH g h
  ·obtain rfl : g = f + 1 := by omega
   exact ⟨fun a m hA s hs d hd hf => qblock_step hL IH a m hA s hs d hd hf, fun a m hA s hs d hd hf => qeqs_step hL IH a m hA s hs d hd hf, fun a m hA s hs k0 d hd hf => qeq_step hL hR IH a m hA s hs k0 d hd hf, fun a m hA s hs d hd st hf => qarms_step hL IH a m hA s hs d hd st hf⟩

section
variable {P : Program} {mu : List Nat} {ops : Array Oper} {K : F → M → Prop}
def qOk (mu : List Nat) (ops : Array Oper) (todo : List Nat) (i : Nat) : Bool := match ops[i]? with
 | none => false
 | some oi => oi.guard.isNone && !isEff mu oi && Region.noSelect ops && todo.contains i && todo.all fun j => j == i || (match ops[j]? with
  | none => false
  | some oj => (edgesOf oj).contains i || oi.apart ops oj)
theorem aAll_q0 {i : Nat} {oi : Oper} {v : PV} (hoi : ops[i]? = some oi) (hg : oi.guard = none) (hsel : ∀ (j : Nat) (o : Oper) cs b, ops[j]? = some o → o.op ≠ .select cs b) : ∀ (fuel : Nat) (todo : List Nat) {f : F} {m : M}, i ∈ todo → (todo.filter (· != i)).length ≤ fuel → (∀ j ∈ todo, j ≠ i → ∀ oj, ops[j]? = some oj → i ∈ edgesOf oj ∨ oi.apart ops oj = true) →
    aQuiet P mu oi f (fun _ => True) v → aAll P mu ops K fuel (todo.filter (· != i)) (F.put f oi.dst v) m → aAll P mu ops K (fuel + 1) todo f m := by
 intro fuel
 induction fuel with
 | zero =>
  intro todo f m hit hlen hap hq h j hj
  by_cases hji : j = i
  ·subst hji
   simp only [hoi]
   exact .inr ⟨hg, aQuiet_op (S := fun _ => True) trivial hq h⟩
  ·exfalso
   have : j ∈ todo.filter (· != i) := by simp [hj, hji]
   have := List.length_pos_of_mem this
   omega
 | succ n ih =>
  intro todo f m hit hlen hap hq h j hj
  by_cases hji : j = i
  ·subst hji
   simp only [hoi]
   exact .inr ⟨hg, aQuiet_op (S := fun _ => True) trivial hq h⟩
  ·have hjt : j ∈ todo.filter (· != i) := by simp [hj, hji]
   have hj2 := h j hjt
   cases hoj : ops[j]? with
   | none => simp only [hoj] at hj2
   | some oj =>
    simp only [hoj] at hj2 ⊢
    rcases hj2 with ⟨k, hk, hkt⟩ | ⟨hgj, hx⟩
    ·exact .inl ⟨k, hk, (List.mem_filter.1 hkt).1⟩
    ·rcases hap j hj hji oj hoj with h1 | h1
     ·exact .inl ⟨i, h1, hit⟩
     ·obtain ⟨_, hdd, _⟩ := Oper.apart_spec h1
      refine .inr ⟨hgj, aOp_mono ((apart_op (fun cs b => hsel j oj cs b hoj) h1 f v m _).1 hx) fun u m' h2 => ?_⟩
      refine ih (todo.filter (· != j)) (by simp [hit, Ne.symm hji]) ?_ (fun k hk => hap k (List.mem_filter.1 hk).1) ((apart_quiet (fun cs b => hsel i oi cs b hoi) (apart_symm h1) f u).2 hq) ?_
      ·have e : (todo.filter (· != j)).filter (· != i) = (todo.filter (· != i)).filter (· != j) := by
         rw [List.filter_filter, List.filter_filter]
         congr 1
         funext x
         rw [Bool.and_comm]
       rw [e]
       have hp : ((todo.filter (· != i)).filter (· != j)).length < (todo.filter (· != i)).length := List.length_filter_lt_length_iff_exists.2 ⟨j, hjt, by simp⟩
       omega
      ·have e : (todo.filter (· != j)).filter (· != i) = (todo.filter (· != i)).filter (· != j) := by
         rw [List.filter_filter, List.filter_filter]
         congr 1
         funext x
         rw [Bool.and_comm]
       rw [e, F.put_comm f v u (fun d hd => hdd d hd)] at *
       exact h2
theorem aAll_q (i : Nat) {todo t : List Nat} {fuel : Nat} {oi : Oper} {f : F} {m : M} (hok : qOk mu ops todo i = true) (ht : todo.filter (· != i) = t) (hl : t.length = fuel) (ho : ops[i]? = some oi) (h : aQv P mu oi f m (fun _ => True) fun v => aAll P mu ops K fuel t (F.put f oi.dst v) m) : aAll P mu ops K (fuel + 1) todo f m := by
 unfold qOk at hok
 rw [ho] at hok
 simp only [Bool.and_eq_true, Option.isNone_iff_eq_none, Bool.not_eq_true', List.contains_iff_mem, List.all_eq_true, Bool.or_eq_true, beq_iff_eq] at hok
 obtain ⟨⟨⟨⟨hg, he⟩, hs⟩, hit⟩, hap⟩ := hok
 unfold aQv at h
 split at h
 ·rename_i p v m' hst
  obtain ⟨h1, h2, h3⟩ := h
  refine aAll_q0 ho hg (fun j o cs b hj => Region.noSelect_spec hs j o cs b hj) fuel todo hit (by rw [ht, hl]; exact Nat.le_refl _) (fun j hj hji oj hoj => ?_) (fun m2 _ => ⟨p, h1 m2 trivial, h2⟩) (by rw [ht]; exact h3)
  rcases hap j hj with h | h
  ·exact absurd h hji
  ·rw [hoj] at h
   simpa only [Bool.or_eq_true, List.contains_iff_mem] using h
 ·exact h.elim
end
end Go.Proofs.YtohgdopfjkjppaaGreatDoor
