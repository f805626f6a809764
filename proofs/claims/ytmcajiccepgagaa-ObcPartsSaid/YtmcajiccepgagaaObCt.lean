/-
  An instance of law 20's class: a step, what is kept; awake.
-/
import Derived.Test.YtmcajiccepgagaaObSt
import Derived.Test.YtmcajiccepgagaaObNum
set_option linter.unusedVariables false
set_option linter.unusedSimpArgs false
namespace Go.Proofs.Ytmcajiccepgagaa
open Nat renaming reduceEqDiff → jA, reduceAdd → jB, reduceMul → jC, reduceLT → jD, reduceLeDiff → jE, reduceBEq → jF, reduceBNe → jG
open Int renaming reduceLE → jH, reduceLT → jI, reduceToNat → jJ, reduceEq → jK
open Go
set_option linter.defProp false
def tfObCt := And.intro @tfA (And.intro @Ex.settle_pv (And.intro @Ex.pure_pv (And.intro @Ex.cells_pv (And.intro @Ex.cs.eq_1 (And.intro @On.pv.eq_1 (And.intro @Ty.pv.eq_1 (And.intro @Va.settle_pv (And.intro @Va.pure_pv (And.intro @Va.cells_pv @Va.cs.eq_1)))))))))
set_option maxRecDepth 100000
-- TYPES:
theorem leave_M0 {m : M} {v : PV} {R : PV → M → Prop} (hv : v.settle.pure = true) (hR : R v.settle M0) : ∃ v' m', Leave M0 m v v' m' ∧ R v' m' :=
  ⟨_, _, .plain v (by show m.boxes.take 0 = []; simp) (by show m.toks.take 0 = []; simp) hv, hR⟩
theorem step_any (n x a : Int) : ACalls Try.prog 11 [.bp 2 0, .sl .no [pJ' a]] (OM n x) (fun v m' => v = .tp [.sl .no [pJ' x], pI 0] ∧ m' = OM n (IntKind.i32.wrap (x + a))) :=
  ACalls.ranV (mus := mus) (hook := obHook noHook) (k := 300) (n := 3) (q := (.tp [.sl .no [pJ' x], pI 0], OM n (IntKind.i32.wrap (x + a)))) ok_mix (obHook_ok noHook_ok) (by kernel_rfl)
theorem kept_m (n x : Int) : ACalls Try.prog 15 [.bp 2 0, pS sM] (OM n x) (fun v m' => v = .tp [pJ' x, .v (.bool true)] ∧ m' = OM n x) :=
  ACalls.ranV (mus := mus) (hook := obHook noHook) (k := 300) (n := 3) (q := (.tp [pJ' x, .v (.bool true)], OM n x)) ok_mix (obHook_ok noHook_ok) (by kernel_rfl)
theorem kept_no (n x : Int) : ACalls Try.prog 15 [.bp 2 0, pS ⟨#[110, 111]⟩] (OM n x) (fun v m' => v = .tp [pJ' 0, .v (.bool false)] ∧ m' = OM n x) :=
  ACalls.ranV (mus := mus) (hook := obHook noHook) (k := 300) (n := 3) (q := (.tp [pJ' 0, .v (.bool false)], OM n x)) ok_mix (obHook_ok noHook_ok) (by kernel_rfl)
set_option maxHeartbeats 4000000 in
theorem awakeO (m : M) : ACalls Try.prog 6 [] m (fun v m' => v = .v (.bool true) ∧ m' = m) := by
  refine ACalls.closed (x := .bool true) (ACallsZ.mono (?_ : ACalls Try.prog 6 [] M0 (fun v _ => v = .v (.bool true))) (fun _ _ h => h) (fun _ _ h => h)) m ⟨rfl, rfl⟩
  refine ACalls.enter (mu := []) ok_mix Try.func6 rfl (by kernel_rfl) (by kernel_rfl) (by simp only [List.length_cons, List.length_nil, Try.ntmps6]; omega) ?_
  (repeat (first | refine aSeq fun X hX => ?_ | refine aBlk ?_ | refine aSkip ?_ | (first | refine aExit ?_ | refine aRet ?_); try simp only [slx, ↓reduceIte, Nat.reduceEqDiff, reduceCtorEq] | (first | refine aReg ?_ | refine aIf ?_); simp -implicitDefEqProofs only [forall_eq, ↓slp, slb, ↓reduceIte, reduceCtorEq, jA, jB, jC, jD, jE, jF, jG, jH, jI, jJ, jK, tfObCt]; try simp only [Ex.fold, Ex.foldcs, ← Va.pv.eq_1] | refine hX _ _ ?_; clear hX X | clear hX X; refine hX _ _ ?_; clear hX X | clear hX X; clear hX X; refine hX _ _ ?_; clear hX X | intro hlen; unfold maxLen at hlen | apply And.intro; focus (first | omega | assumption | (repeat' apply And.intro) <;> first | omega | assumption)))
  refine callE (counter_any 0 _) ?_
  simp -implicitDefEqProofs only [↓slp, slb, ↓reduceIte, reduceCtorEq, jA, jB, jC, jD, jE, jF, jG, jH, jI, jJ, jK, tfObCt]; try simp only [Ex.fold, Ex.foldcs, ← Va.pv.eq_1]
  (repeat (first | refine aSeq fun X hX => ?_ | refine aBlk ?_ | refine aSkip ?_ | (first | refine aExit ?_ | refine aRet ?_); try simp only [slx, ↓reduceIte, Nat.reduceEqDiff, reduceCtorEq] | (first | refine aReg ?_ | refine aIf ?_); simp -implicitDefEqProofs only [forall_eq, ↓slp, slb, ↓reduceIte, reduceCtorEq, jA, jB, jC, jD, jE, jF, jG, jH, jI, jJ, jK, tfObCt]; try simp only [Ex.fold, Ex.foldcs, ← Va.pv.eq_1] | refine hX _ _ ?_; clear hX X | clear hX X; refine hX _ _ ?_; clear hX X | clear hX X; clear hX X; refine hX _ _ ?_; clear hX X | intro hlen; unfold maxLen at hlen | apply And.intro; focus (first | omega | assumption | (repeat' apply And.intro) <;> first | omega | assumption)))
  refine ⟨⟨rfl, rfl⟩, ?_⟩
  refine callMS (new_any 0) rfl ?_
  rintro v m' ⟨rfl, rfl⟩
  simp -implicitDefEqProofs only [↓slp, slb, ↓reduceIte, reduceCtorEq, jA, jB, jC, jD, jE, jF, jG, jH, jI, jJ, jK, tfObCt, pI]; try simp only [Ex.fold, Ex.foldcs, ← Va.pv.eq_1]
  (repeat (first | refine aSeq fun X hX => ?_ | refine aBlk ?_ | refine aSkip ?_ | (first | refine aExit ?_ | refine aRet ?_); try simp only [slx, ↓reduceIte, Nat.reduceEqDiff, reduceCtorEq] | (first | refine aReg ?_ | refine aDrE ?_); simp -implicitDefEqProofs only [forall_eq, ↓slp, slb, ↓reduceIte, reduceCtorEq, jA, jB, jC, jD, jE, jF, jG, jH, jI, jJ, jK, tfObCt, pI]; try simp only [Ex.fold, Ex.foldcs, ← Va.pv.eq_1] | refine hX _ _ ?_; clear hX X | clear hX X; refine hX _ _ ?_; clear hX X | clear hX X; clear hX X; refine hX _ _ ?_; clear hX X | intro hlen; unfold maxLen at hlen | apply And.intro; focus (first | omega | assumption | (repeat' apply And.intro) <;> first | omega | assumption)))
  obtain ⟨I, hI⟩ : ∃ I : F → M → Prop, ∀ g m', I g m' = ∃ i : Int, (i = 0 ∨ i = 1 ∨ i = 2 ∨ i = 3) ∧ (g 1 = .bp 2 0 ∧ g 2 = pI 0 ∧ g 3 = pI i ∧ m' = OM 0 i) := ⟨_, fun _ _ => rfl⟩
  refine aLoop I (fun f m => 3 - numOf (f 3)) ?_ ?_
  · rw [hI]; exact ⟨0, by omega, rfl, rfl, rfl, rfl⟩
  intro g m' hrel
  rw [hI] at hrel
  obtain ⟨i, hi, g1, g2, g3, rfl⟩ := hrel
  by_cases h3 : i = 3
  · subst h3
    have d : decide ((3 : Int) < 3) = false := rfl
    (repeat (first | refine aSeq fun X hX => ?_ | refine aBlk ?_ | refine aSkip ?_ | (first | refine aExit ?_ | refine aRet ?_); try simp only [slx, ↓reduceIte, Nat.reduceEqDiff, reduceCtorEq] | (first | refine aReg ?_ | refine aDrE ?_); simp -implicitDefEqProofs only [forall_eq, ↓slp, slb, ↓reduceIte, reduceCtorEq, jA, jB, jC, jD, jE, jF, jG, jH, jI, jJ, jK, tfObCt, g1, g2, g3, pI, d]; try simp only [Ex.fold, Ex.foldcs, ← Va.pv.eq_1] | refine hX _ _ ?_; clear hX X | clear hX X; refine hX _ _ ?_; clear hX X | clear hX X; clear hX X; refine hX _ _ ?_; clear hX X | intro hlen; unfold maxLen at hlen | apply And.intro; focus (first | omega | assumption | (repeat' apply And.intro) <;> first | omega | assumption)))
    refine aIf ?_; simp -implicitDefEqProofs only [↓slp, slb, ↓reduceIte, reduceCtorEq, jA, jB, jC, jD, jE, jF, jG, jH, jI, jJ, jK]
    (repeat (first | refine aSeq fun X hX => ?_ | refine aBlk ?_ | refine aSkip ?_ | (first | refine aExit ?_ | refine aRet ?_); try simp only [slx, ↓reduceIte, Nat.reduceEqDiff, reduceCtorEq] | (first | refine aReg ?_ | refine aDrE ?_); simp -implicitDefEqProofs only [forall_eq, ↓slp, slb, ↓reduceIte, reduceCtorEq, jA, jB, jC, jD, jE, jF, jG, jH, jI, jJ, jK, tfObCt, g2, pI]; try simp only [Ex.fold, Ex.foldcs, ← Va.pv.eq_1] | refine hX _ _ ?_; clear hX X | clear hX X; refine hX _ _ ?_; clear hX X | clear hX X; clear hX X; refine hX _ _ ?_; clear hX X | intro hlen; unfold maxLen at hlen | apply And.intro; focus (first | omega | assumption | (repeat' apply And.intro) <;> first | omega | assumption)))
    simp only [aPost, Try.results6, aRes_n, aRes_t, aRes_c, pack_one, pack_two]
    simp -implicitDefEqProofs only [↓slp, slb, ↓reduceIte, reduceCtorEq, jA, jB, jC, jD, jE, jF, jG, jH, jI, jJ, jK, tfObCt]; try simp only [Ex.fold, Ex.foldcs, ← Va.pv.eq_1]
    exact leave_M0 rfl rfl
  have d : decide (i < 3) = true := by simp; omega
  have hw : IntKind.i32.wrap (i + 1) = i + 1 := IntWalk.i32_in _ (by omega)
  have hw2 : IntKind.i64.wrap (i + 1) = i + 1 := wrap64 (by omega)
  have hn : numOf (g 3) = i.toNat := by rw [g3]; rfl
  (repeat (first | refine aSeq fun X hX => ?_ | refine aBlk ?_ | refine aSkip ?_ | (first | refine aExit ?_ | refine aRet ?_); try simp only [slx, ↓reduceIte, Nat.reduceEqDiff, reduceCtorEq] | (first | refine aReg ?_ | refine aDrE ?_); simp -implicitDefEqProofs only [forall_eq, ↓slp, slb, ↓reduceIte, reduceCtorEq, jA, jB, jC, jD, jE, jF, jG, jH, jI, jJ, jK, tfObCt, g1, g2, g3, pI, d]; try simp only [Ex.fold, Ex.foldcs, ← Va.pv.eq_1] | refine hX _ _ ?_; clear hX X | clear hX X; refine hX _ _ ?_; clear hX X | clear hX X; clear hX X; refine hX _ _ ?_; clear hX X | intro hlen; unfold maxLen at hlen | apply And.intro; focus (first | omega | assumption | (repeat' apply And.intro) <;> first | omega | assumption)))
  refine aIf ?_; simp -implicitDefEqProofs only [↓slp, slb, ↓reduceIte, reduceCtorEq, jA, jB, jC, jD, jE, jF, jG, jH, jI, jJ, jK]
  (repeat (first | refine aSeq fun X hX => ?_ | refine aBlk ?_ | refine aSkip ?_ | (first | refine aExit ?_ | refine aRet ?_); try simp only [slx, ↓reduceIte, Nat.reduceEqDiff, reduceCtorEq] | (first | refine aReg ?_ | refine aDrE ?_); simp -implicitDefEqProofs only [forall_eq, ↓slp, slb, ↓reduceIte, reduceCtorEq, jA, jB, jC, jD, jE, jF, jG, jH, jI, jJ, jK, tfObCt, g1, g2, g3, pI]; try simp only [Ex.fold, Ex.foldcs, ← Va.pv.eq_1] | refine hX _ _ ?_; clear hX X | clear hX X; refine hX _ _ ?_; clear hX X | clear hX X; clear hX X; refine hX _ _ ?_; clear hX X | intro hlen; unfold maxLen at hlen | apply And.intro; focus (first | omega | assumption | (repeat' apply And.intro) <;> first | omega | assumption)))
  refine callMS (step_any 0 i 1) rfl ?_
  rintro v m' ⟨rfl, rfl⟩
  simp -implicitDefEqProofs only [↓slp, slb, ↓reduceIte, reduceCtorEq, jA, jB, jC, jD, jE, jF, jG, jH, jI, jJ, jK, tfObCt, hw]; try simp only [Ex.fold, Ex.foldcs, ← Va.pv.eq_1]
  have c1 : (((1 : Nat) : Int) == 1) = true := rfl
  have c2 : IntKind.i32.wrap i = i := IntWalk.i32_in _ (by omega)
  (repeat (first | refine aSeq fun X hX => ?_ | refine aBlk ?_ | refine aSkip ?_ | (first | refine aExit ?_ | refine aRet ?_); try simp only [slx, ↓reduceIte, Nat.reduceEqDiff, reduceCtorEq] | (first | refine aReg ?_ | refine aDrE ?_); simp -implicitDefEqProofs only [forall_eq, ↓slp, slb, ↓reduceIte, reduceCtorEq, jA, jB, jC, jD, jE, jF, jG, jH, jI, jJ, jK, tfObCt, g1, g2, g3, pI, c1, c2, hw2]; try simp only [Ex.fold, Ex.foldcs, ← Va.pv.eq_1] | refine hX _ _ ?_; clear hX X | clear hX X; refine hX _ _ ?_; clear hX X | clear hX X; clear hX X; refine hX _ _ ?_; clear hX X | intro hlen; unfold maxLen at hlen | apply And.intro; focus (first | omega | assumption | (repeat' apply And.intro) <;> first | omega | assumption)))
  refine aIf ?_; simp -implicitDefEqProofs only [↓slp, slb, ↓reduceIte, reduceCtorEq, jA, jB, jC, jD, jE, jF, jG, jH, jI, jJ, jK]
  (repeat (first | refine aSeq fun X hX => ?_ | refine aBlk ?_ | refine aSkip ?_ | (first | refine aExit ?_ | refine aRet ?_); try simp only [slx, ↓reduceIte, Nat.reduceEqDiff, reduceCtorEq] | (first | refine aReg ?_ | refine aDrE ?_); simp -implicitDefEqProofs only [forall_eq, ↓slp, slb, ↓reduceIte, reduceCtorEq, jA, jB, jC, jD, jE, jF, jG, jH, jI, jJ, jK, tfObCt, g3, pI, hw2]; try simp only [Ex.fold, Ex.foldcs, ← Va.pv.eq_1] | refine hX _ _ ?_; clear hX X | clear hX X; refine hX _ _ ?_; clear hX X | clear hX X; clear hX X; refine hX _ _ ?_; clear hX X | intro hlen; unfold maxLen at hlen | apply And.intro; focus (first | omega | assumption | (repeat' apply And.intro) <;> first | omega | assumption)))
  rw [hI]
  refine ⟨⟨i + 1, by omega, g1, g2, rfl, rfl⟩, ?_⟩
  show 3 - (i + 1).toNat < 3 - i.toNat
  omega
end Go.Proofs.Ytmcajiccepgagaa
