/-
  The law ObcCounts: what is kept, of any inputs.
-/
import Derived.Test.YtmcajiccepgagaaObCt
set_option linter.unusedVariables false
set_option linter.unusedSimpArgs false
namespace Go.Proofs.Ytmcajiccepgagaa
open Nat renaming reduceEqDiff → jA, reduceAdd → jB, reduceMul → jC, reduceLT → jD, reduceLeDiff → jE, reduceBEq → jF, reduceBNe → jG
open Int renaming reduceLE → jH, reduceLT → jI, reduceToNat → jJ, reduceEq → jK
open Go
set_option linter.defProp false
def tfObCo := And.intro @tfA (And.intro @Ex.settle_pv (And.intro @Ex.pure_pv (And.intro @Ex.cells_pv (And.intro @Ex.cs.eq_1 (And.intro @On.pv.eq_1 (And.intro @Ty.pv.eq_1 (And.intro @Va.settle_pv (And.intro @Va.pure_pv (And.intro @Va.cells_pv @Va.cs.eq_1)))))))))
set_option maxRecDepth 100000
-- TYPES:
theorem bin3 (a b : Int) : binN 3 a b = IntKind.i32.wrap (a + b) := by
  unfold binN
  rw [if_pos rfl, IntKind.wrap_i32]
  unfold RowKit.wrap32
  omega
set_option maxHeartbeats 4000000 in
theorem counts_main (n : Int) (xs : List Int) (k : Int) (hn : R32 n) (hx : ∀ x ∈ xs, R32 x) (hk : 0 ≤ k ∧ k ≤ 255) (hl : xs.length ≤ 100) :
    ACalls Try.prog 4 [pJ n, .sl .no (xs.map pJ), .v (.int .u8 k)] M0 (fun v m' => v = .v (.bool true)) := by
  have c1 : decide ((xs.length : Int) > 100) = false := by simp; omega
  have wk : IntKind.i64.wrap k = k := wrap64 (by omega)
  refine ACalls.enter (mu := []) ok_mix Try.func4 rfl (by kernel_rfl) (by kernel_rfl) (by simp only [List.length_cons, List.length_nil, Try.ntmps4]; omega) ?_
  (repeat (first | refine aSeq fun X hX => ?_ | refine aBlk ?_ | refine aSkip ?_ | (first | refine aExit ?_ | refine aRet ?_); try simp only [slx, ↓reduceIte, Nat.reduceEqDiff, reduceCtorEq] | (first | refine aReg ?_ | refine aDrE ?_); simp -implicitDefEqProofs only [forall_eq, ↓slp, slb, ↓reduceIte, reduceCtorEq, jA, jB, jC, jD, jE, jF, jG, jH, jI, jJ, jK, tfObCo, c1]; try simp only [Ex.fold, Ex.foldcs, ← Va.pv.eq_1] | refine hX _ _ ?_; clear hX X | clear hX X; refine hX _ _ ?_; clear hX X | clear hX X; clear hX X; refine hX _ _ ?_; clear hX X | intro hlen; unfold maxLen at hlen | apply And.intro; focus (first | omega | assumption | (repeat' apply And.intro) <;> first | omega | assumption)))
  refine callE (awakeO _) ?_
  simp -implicitDefEqProofs only [↓slp, slb, ↓reduceIte, reduceCtorEq, jA, jB, jC, jD, jE, jF, jG, jH, jI, jJ, jK, tfObCo, c1]; try simp only [Ex.fold, Ex.foldcs, ← Va.pv.eq_1]
  (repeat (first | refine aSeq fun X hX => ?_ | refine aBlk ?_ | refine aSkip ?_ | (first | refine aExit ?_ | refine aRet ?_); try simp only [slx, ↓reduceIte, Nat.reduceEqDiff, reduceCtorEq] | (first | refine aReg ?_ | refine aDrE ?_); simp -implicitDefEqProofs only [forall_eq, ↓slp, slb, ↓reduceIte, reduceCtorEq, jA, jB, jC, jD, jE, jF, jG, jH, jI, jJ, jK, tfObCo, c1]; try simp only [Ex.fold, Ex.foldcs, ← Va.pv.eq_1] | refine hX _ _ ?_; clear hX X | clear hX X; refine hX _ _ ?_; clear hX X | clear hX X; clear hX X; refine hX _ _ ?_; clear hX X | intro hlen; unfold maxLen at hlen | apply And.intro; focus (first | omega | assumption | (repeat' apply And.intro) <;> first | omega | assumption)))
  refine aIf ?_; simp -implicitDefEqProofs only [↓slp, slb, ↓reduceIte, reduceCtorEq, jA, jB, jC, jD, jE, jF, jG, jH, jI, jJ, jK]
  (repeat (first | refine aSeq fun X hX => ?_ | refine aBlk ?_ | refine aSkip ?_ | (first | refine aExit ?_ | refine aRet ?_); try simp only [slx, ↓reduceIte, Nat.reduceEqDiff, reduceCtorEq] | (first | refine aReg ?_ | refine aIf ?_); simp -implicitDefEqProofs only [forall_eq, ↓slp, slb, ↓reduceIte, reduceCtorEq, jA, jB, jC, jD, jE, jF, jG, jH, jI, jJ, jK, tfObCo]; try simp only [Ex.fold, Ex.foldcs, ← Va.pv.eq_1] | refine hX _ _ ?_; clear hX X | clear hX X; refine hX _ _ ?_; clear hX X | clear hX X; clear hX X; refine hX _ _ ?_; clear hX X | intro hlen; unfold maxLen at hlen | apply And.intro; focus (first | omega | assumption | (repeat' apply And.intro) <;> first | omega | assumption)))
  refine callE (counter_any n _) ?_
  simp -implicitDefEqProofs only [↓slp, slb, ↓reduceIte, reduceCtorEq, jA, jB, jC, jD, jE, jF, jG, jH, jI, jJ, jK, tfObCo]; try simp only [Ex.fold, Ex.foldcs, ← Va.pv.eq_1]
  (repeat (first | refine aSeq fun X hX => ?_ | refine aBlk ?_ | refine aSkip ?_ | (first | refine aExit ?_ | refine aRet ?_); try simp only [slx, ↓reduceIte, Nat.reduceEqDiff, reduceCtorEq] | (first | refine aReg ?_ | refine aIf ?_); simp -implicitDefEqProofs only [forall_eq, ↓slp, slb, ↓reduceIte, reduceCtorEq, jA, jB, jC, jD, jE, jF, jG, jH, jI, jJ, jK, tfObCo]; try simp only [Ex.fold, Ex.foldcs, ← Va.pv.eq_1] | refine hX _ _ ?_; clear hX X | clear hX X; refine hX _ _ ?_; clear hX X | clear hX X; clear hX X; refine hX _ _ ?_; clear hX X | intro hlen; unfold maxLen at hlen | apply And.intro; focus (first | omega | assumption | (repeat' apply And.intro) <;> first | omega | assumption)))
  refine ⟨⟨rfl, rfl⟩, ?_⟩
  refine callMS (new_any n) rfl ?_
  rintro v m' ⟨rfl, rfl⟩
  simp -implicitDefEqProofs only [↓slp, slb, ↓reduceIte, reduceCtorEq, jA, jB, jC, jD, jE, jF, jG, jH, jI, jJ, jK, tfObCo, pI]; try simp only [Ex.fold, Ex.foldcs, ← Va.pv.eq_1]
  (repeat (first | refine aSeq fun X hX => ?_ | refine aBlk ?_ | refine aSkip ?_ | (first | refine aExit ?_ | refine aRet ?_); try simp only [slx, ↓reduceIte, Nat.reduceEqDiff, reduceCtorEq] | (first | refine aReg ?_ | refine aDrE ?_); simp -implicitDefEqProofs only [forall_eq, ↓slp, slb, ↓reduceIte, reduceCtorEq, jA, jB, jC, jD, jE, jF, jG, jH, jI, jJ, jK, tfObCo, pI]; try simp only [Ex.fold, Ex.foldcs, ← Va.pv.eq_1] | refine hX _ _ ?_; clear hX X | clear hX X; refine hX _ _ ?_; clear hX X | clear hX X; clear hX X; refine hX _ _ ?_; clear hX X | intro hlen; unfold maxLen at hlen | apply And.intro; focus (first | omega | assumption | (repeat' apply And.intro) <;> first | omega | assumption)))
  refine aIf ?_; simp -implicitDefEqProofs only [↓slp, slb, ↓reduceIte, reduceCtorEq, jA, jB, jC, jD, jE, jF, jG, jH, jI, jJ, jK]
  (repeat (first | refine aSeq fun X hX => ?_ | refine aBlk ?_ | refine aSkip ?_ | (first | refine aExit ?_ | refine aRet ?_); try simp only [slx, ↓reduceIte, Nat.reduceEqDiff, reduceCtorEq] | (first | refine aReg ?_ | refine aDrE ?_); simp -implicitDefEqProofs only [forall_eq, ↓slp, slb, ↓reduceIte, reduceCtorEq, jA, jB, jC, jD, jE, jF, jG, jH, jI, jJ, jK, tfObCo, pI]; try simp only [Ex.fold, Ex.foldcs, ← Va.pv.eq_1] | refine hX _ _ ?_; clear hX X | clear hX X; refine hX _ _ ?_; clear hX X | clear hX X; clear hX X; refine hX _ _ ?_; clear hX X | intro hlen; unfold maxLen at hlen | apply And.intro; focus (first | omega | assumption | (repeat' apply And.intro) <;> first | omega | assumption)))
  obtain ⟨I, hI⟩ : ∃ I : F → M → Prop, ∀ g m', I g m' = ∃ (q : Nat) (y : Int), q ≤ xs.length ∧ R32 y ∧ (g 0 = pJ n ∧ g 1 = .sl .no (xs.map pJ) ∧ g 2 = .v (.int .u8 k) ∧ g 7 = .bp 2 0 ∧ g 9 = pJ y ∧ g 10 = pI q ∧ m' = OM n y) := ⟨_, fun _ _ => rfl⟩
  refine aLoop I (fun f m => xs.length - numOf (f 10)) ?_ ?_
  · rw [hI]; exact ⟨0, n, by omega, hn, rfl, rfl, rfl, rfl, rfl, rfl, rfl⟩
  intro g m' hrel
  rw [hI] at hrel
  obtain ⟨q, y, hq, hy, g0, g1, g2, g7, g9, g10, rfl⟩ := hrel
  cases d1 : decide ((q : Int) < (xs.length : Int)) with
  | false =>
    (repeat (first | refine aSeq fun X hX => ?_ | refine aBlk ?_ | refine aSkip ?_ | (first | refine aExit ?_ | refine aRet ?_); try simp only [slx, ↓reduceIte, Nat.reduceEqDiff, reduceCtorEq] | (first | refine aReg ?_ | refine aDrE ?_); simp -implicitDefEqProofs only [forall_eq, ↓slp, slb, ↓reduceIte, reduceCtorEq, jA, jB, jC, jD, jE, jF, jG, jH, jI, jJ, jK, tfObCo, g1, g10, pI, d1]; try simp only [Ex.fold, Ex.foldcs, ← Va.pv.eq_1] | refine hX _ _ ?_; clear hX X | clear hX X; refine hX _ _ ?_; clear hX X | clear hX X; clear hX X; refine hX _ _ ?_; clear hX X | intro hlen; unfold maxLen at hlen | apply And.intro; focus (first | omega | assumption | (repeat' apply And.intro) <;> first | omega | assumption)))
    refine aIf ?_; simp -implicitDefEqProofs only [↓slp, slb, ↓reduceIte, reduceCtorEq, jA, jB, jC, jD, jE, jF, jG, jH, jI, jJ, jK]
    (repeat (first | refine aSeq fun X hX => ?_ | refine aBlk ?_ | refine aSkip ?_ | (first | refine aExit ?_ | refine aRet ?_); try simp only [slx, ↓reduceIte, Nat.reduceEqDiff, reduceCtorEq] | (first | refine aReg ?_ | refine aDrE ?_); simp -implicitDefEqProofs only [forall_eq, ↓slp, slb, ↓reduceIte, reduceCtorEq, jA, jB, jC, jD, jE, jF, jG, jH, jI, jJ, jK, tfObCo, g7]; try simp only [Ex.fold, Ex.foldcs, ← Va.pv.eq_1] | refine hX _ _ ?_; clear hX X | clear hX X; refine hX _ _ ?_; clear hX X | clear hX X; clear hX X; refine hX _ _ ?_; clear hX X | intro hlen; unfold maxLen at hlen | apply And.intro; focus (first | omega | assumption | (repeat' apply And.intro) <;> first | omega | assumption)))
    refine callMS (kept_no n y) rfl ?_
    rintro v m' ⟨rfl, rfl⟩
    simp -implicitDefEqProofs only [↓slp, slb, ↓reduceIte, reduceCtorEq, jA, jB, jC, jD, jE, jF, jG, jH, jI, jJ, jK, tfObCo, g7]; try simp only [Ex.fold, Ex.foldcs, ← Va.pv.eq_1]
    (repeat (first | refine aSeq fun X hX => ?_ | refine aBlk ?_ | refine aSkip ?_ | (first | refine aExit ?_ | refine aRet ?_); try simp only [slx, ↓reduceIte, Nat.reduceEqDiff, reduceCtorEq] | (first | refine aReg ?_ | refine aDrE ?_); simp -implicitDefEqProofs only [forall_eq, ↓slp, slb, ↓reduceIte, reduceCtorEq, jA, jB, jC, jD, jE, jF, jG, jH, jI, jJ, jK, tfObCo]; try simp only [Ex.fold, Ex.foldcs, ← Va.pv.eq_1] | refine hX _ _ ?_; clear hX X | clear hX X; refine hX _ _ ?_; clear hX X | clear hX X; clear hX X; refine hX _ _ ?_; clear hX X | intro hlen; unfold maxLen at hlen | apply And.intro; focus (first | omega | assumption | (repeat' apply And.intro) <;> first | omega | assumption)))
    simp only [aPost, Try.results4, aRes_n, aRes_t, aRes_c, pack_one, pack_two]
    simp -implicitDefEqProofs only [↓slp, slb, ↓reduceIte, reduceCtorEq, jA, jB, jC, jD, jE, jF, jG, jH, jI, jJ, jK, tfObCo]; try simp only [Ex.fold, Ex.foldcs, ← Va.pv.eq_1]
    exact leave_M0 rfl rfl
  | true =>
    have hlt : q < xs.length := by simpa using d1
    have hqi : IntKind.i64.wrap ((q : Int) + 1) = ((q + 1 : Nat) : Int) := by rw [wrap64 (by omega)]; omega
    have hme : numOf (g 10) = q := by rw [g10]; exact Int.toNat_natCast q
    have gx : (xs.map pJ).getD q .junk = pJ xs[q] := by simp [hlt]
    have hxq := hx _ (List.getElem_mem hlt)
    generalize xs[q] = x at *
    (repeat (first | refine aSeq fun X hX => ?_ | refine aBlk ?_ | refine aSkip ?_ | (first | refine aExit ?_ | refine aRet ?_); try simp only [slx, ↓reduceIte, Nat.reduceEqDiff, reduceCtorEq] | (first | refine aReg ?_ | refine aDrE ?_); simp -implicitDefEqProofs only [forall_eq, ↓slp, slb, ↓reduceIte, reduceCtorEq, jA, jB, jC, jD, jE, jF, jG, jH, jI, jJ, jK, tfObCo, g1, g10, pI, d1]; try simp only [Ex.fold, Ex.foldcs, ← Va.pv.eq_1] | refine hX _ _ ?_; clear hX X | clear hX X; refine hX _ _ ?_; clear hX X | clear hX X; clear hX X; refine hX _ _ ?_; clear hX X | intro hlen; unfold maxLen at hlen | apply And.intro; focus (first | omega | assumption | (repeat' apply And.intro) <;> first | omega | assumption)))
    refine aIf ?_; simp -implicitDefEqProofs only [↓slp, slb, ↓reduceIte, reduceCtorEq, jA, jB, jC, jD, jE, jF, jG, jH, jI, jJ, jK]
    (repeat (first | refine aSeq fun X hX => ?_ | refine aBlk ?_ | refine aSkip ?_ | (first | refine aExit ?_ | refine aRet ?_); try simp only [slx, ↓reduceIte, Nat.reduceEqDiff, reduceCtorEq] | (first | refine aReg ?_ | refine aDrE ?_); simp -implicitDefEqProofs only [forall_eq, ↓slp, slb, ↓reduceIte, reduceCtorEq, jA, jB, jC, jD, jE, jF, jG, jH, jI, jJ, jK, tfObCo, g2, g10, pI, wk]; try simp only [Ex.fold, Ex.foldcs, ← Va.pv.eq_1] | refine hX _ _ ?_; clear hX X | clear hX X; refine hX _ _ ?_; clear hX X | clear hX X; clear hX X; refine hX _ _ ?_; clear hX X | intro hlen; unfold maxLen at hlen | apply And.intro; focus (first | omega | assumption | (repeat' apply And.intro) <;> first | omega | assumption)))
    have join : ∀ (z : Int) (g : F), R32 z → g 0 = pJ n → g 1 = .sl .no (xs.map pJ) → g 2 = .v (.int .u8 k) → g 7 = .bp 2 0 → g 9 = pJ z → g 10 = pI q → X g (OM n z) := by
      clear g0 g1 g2 g7 g9
      intro z g hz g0 g1 g2 g7 g9 g10'
      refine hX _ _ ?_
      clear hX X
      have hb := bin3 z x
      have hr : R32 (IntKind.i32.wrap (z + x)) := by rw [← hb]; exact binN_bd _ _ _ hz
      have hst := step_any n z x
      generalize IntKind.i32.wrap (z + x) = u at *
      (repeat (first | refine aSeq fun X hX => ?_ | refine aBlk ?_ | refine aSkip ?_ | (first | refine aExit ?_ | refine aRet ?_); try simp only [slx, ↓reduceIte, Nat.reduceEqDiff, reduceCtorEq] | (first | refine aReg ?_ | refine aDrE ?_); simp -implicitDefEqProofs only [forall_eq, ↓slp, slb, ↓reduceIte, reduceCtorEq, jA, jB, jC, jD, jE, jF, jG, jH, jI, jJ, jK, tfObCo, g7, g1, g10', pI, gx]; try simp only [Ex.fold, Ex.foldcs, ← Va.pv.eq_1] | refine hX _ _ ?_; clear hX X | clear hX X; refine hX _ _ ?_; clear hX X | clear hX X; clear hX X; refine hX _ _ ?_; clear hX X | intro hlen; unfold maxLen at hlen | apply And.intro; focus (first | omega | assumption | (repeat' apply And.intro) <;> first | omega | assumption)))
      refine callMS hst rfl ?_
      rintro v m' ⟨rfl, rfl⟩
      simp -implicitDefEqProofs only [↓slp, slb, ↓reduceIte, reduceCtorEq, jA, jB, jC, jD, jE, jF, jG, jH, jI, jJ, jK, tfObCo, g7]; try simp only [Ex.fold, Ex.foldcs, ← Va.pv.eq_1]
      (repeat (first | refine aSeq fun X hX => ?_ | refine aBlk ?_ | refine aSkip ?_ | (first | refine aExit ?_ | refine aRet ?_); try simp only [slx, ↓reduceIte, Nat.reduceEqDiff, reduceCtorEq] | (first | refine aReg ?_ | refine aDrE ?_); simp -implicitDefEqProofs only [forall_eq, ↓slp, slb, ↓reduceIte, reduceCtorEq, jA, jB, jC, jD, jE, jF, jG, jH, jI, jJ, jK, tfObCo, g7]; try simp only [Ex.fold, Ex.foldcs, ← Va.pv.eq_1] | refine hX _ _ ?_; clear hX X | clear hX X; refine hX _ _ ?_; clear hX X | clear hX X; clear hX X; refine hX _ _ ?_; clear hX X | intro hlen; unfold maxLen at hlen | apply And.intro; focus (first | omega | assumption | (repeat' apply And.intro) <;> first | omega | assumption)))
      refine callMS (kept_m n u) rfl ?_
      rintro v m' ⟨rfl, rfl⟩
      simp -implicitDefEqProofs only [↓slp, slb, ↓reduceIte, reduceCtorEq, jA, jB, jC, jD, jE, jF, jG, jH, jI, jJ, jK, tfObCo, g7]; try simp only [Ex.fold, Ex.foldcs, ← Va.pv.eq_1]
      (repeat (first | refine aSeq fun X hX => ?_ | refine aBlk ?_ | refine aSkip ?_ | (first | refine aExit ?_ | refine aRet ?_); try simp only [slx, ↓reduceIte, Nat.reduceEqDiff, reduceCtorEq] | (first | refine aReg ?_ | refine aDrE ?_); simp -implicitDefEqProofs only [forall_eq, ↓slp, slb, ↓reduceIte, reduceCtorEq, jA, jB, jC, jD, jE, jF, jG, jH, jI, jJ, jK, tfObCo, g9, pI]; try simp only [Ex.fold, Ex.foldcs, ← Va.pv.eq_1] | refine hX _ _ ?_; clear hX X | clear hX X; refine hX _ _ ?_; clear hX X | clear hX X; clear hX X; refine hX _ _ ?_; clear hX X | intro hlen; unfold maxLen at hlen | apply And.intro; focus (first | omega | assumption | (repeat' apply And.intro) <;> first | omega | assumption)))
      refine aIf ?_; simp -implicitDefEqProofs only [↓slp, slb, ↓reduceIte, reduceCtorEq, jA, jB, jC, jD, jE, jF, jG, jH, jI, jJ, jK]
      (repeat (first | refine aSeq fun X hX => ?_ | refine aBlk ?_ | refine aSkip ?_ | (first | refine aExit ?_ | refine aRet ?_); try simp only [slx, ↓reduceIte, Nat.reduceEqDiff, reduceCtorEq] | (first | refine aReg ?_ | refine aDrE ?_); simp -implicitDefEqProofs only [forall_eq, ↓slp, slb, ↓reduceIte, reduceCtorEq, jA, jB, jC, jD, jE, jF, jG, jH, jI, jJ, jK, tfObCo, g9, g1, g10', pI, gx]; try simp only [Ex.fold, Ex.foldcs, ← Va.pv.eq_1] | refine hX _ _ ?_; clear hX X | clear hX X; refine hX _ _ ?_; clear hX X | clear hX X; clear hX X; refine hX _ _ ?_; clear hX X | intro hlen; unfold maxLen at hlen | apply And.intro; focus (first | omega | assumption | (repeat' apply And.intro) <;> first | omega | assumption)))
      refine callMS (refBin_any 3 z x hz hxq _) rfl ?_
      rintro v m' ⟨rfl, rfl⟩
      simp -implicitDefEqProofs only [↓slp, slb, ↓reduceIte, reduceCtorEq, jA, jB, jC, jD, jE, jF, jG, jH, jI, jJ, jK, tfObCo, hb]; try simp only [Ex.fold, Ex.foldcs, ← Va.pv.eq_1]
      (repeat (first | refine aSeq fun X hX => ?_ | refine aBlk ?_ | refine aSkip ?_ | (first | refine aExit ?_ | refine aRet ?_); try simp only [slx, ↓reduceIte, Nat.reduceEqDiff, reduceCtorEq] | (first | refine aReg ?_ | refine aDrE ?_); simp -implicitDefEqProofs only [forall_eq, ↓slp, slb, ↓reduceIte, reduceCtorEq, jA, jB, jC, jD, jE, jF, jG, jH, jI, jJ, jK, tfObCo, hb]; try simp only [Ex.fold, Ex.foldcs, ← Va.pv.eq_1] | refine hX _ _ ?_; clear hX X | clear hX X; refine hX _ _ ?_; clear hX X | clear hX X; clear hX X; refine hX _ _ ?_; clear hX X | intro hlen; unfold maxLen at hlen | apply And.intro; focus (first | omega | assumption | (repeat' apply And.intro) <;> first | omega | assumption)))
      refine aIf ?_; simp -implicitDefEqProofs only [↓slp, slb, ↓reduceIte, reduceCtorEq, jA, jB, jC, jD, jE, jF, jG, jH, jI, jJ, jK]
      (repeat (first | refine aSeq fun X hX => ?_ | refine aBlk ?_ | refine aSkip ?_ | (first | refine aExit ?_ | refine aRet ?_); try simp only [slx, ↓reduceIte, Nat.reduceEqDiff, reduceCtorEq] | (first | refine aReg ?_ | refine aDrE ?_); simp -implicitDefEqProofs only [forall_eq, ↓slp, slb, ↓reduceIte, reduceCtorEq, jA, jB, jC, jD, jE, jF, jG, jH, jI, jJ, jK, tfObCo, g10', pI, hqi]; try simp only [Ex.fold, Ex.foldcs, ← Va.pv.eq_1] | refine hX _ _ ?_; clear hX X | clear hX X; refine hX _ _ ?_; clear hX X | clear hX X; clear hX X; refine hX _ _ ?_; clear hX X | intro hlen; unfold maxLen at hlen | apply And.intro; focus (first | omega | assumption | (repeat' apply And.intro) <;> first | omega | assumption)))
      rw [hI]
      refine ⟨⟨q + 1, u, hlt, hr, g0, g1, g2, g7, rfl, rfl, rfl⟩, ?_⟩
      rw [hme]
      show xs.length - (((q + 1 : Nat) : Int)).toNat < _
      omega
    by_cases hqk : (q : Int) = k
    · have hqb : ((q : Int) == k) = true := by simp [hqk]
      refine aIf ?_; simp -implicitDefEqProofs only [↓slp, slb, ↓reduceIte, reduceCtorEq, jA, jB, jC, jD, jE, jF, jG, jH, jI, jJ, jK, hqb]
      (repeat (first | refine aSeq fun X hX => ?_ | refine aBlk ?_ | refine aSkip ?_ | (first | refine aExit ?_ | refine aRet ?_); try simp only [slx, ↓reduceIte, Nat.reduceEqDiff, reduceCtorEq] | (first | refine aReg ?_ | refine aDrE ?_); simp -implicitDefEqProofs only [forall_eq, ↓slp, slb, ↓reduceIte, reduceCtorEq, jA, jB, jC, jD, jE, jF, jG, jH, jI, jJ, jK, tfObCo, g7]; try simp only [Ex.fold, Ex.foldcs, ← Va.pv.eq_1] | refine hX _ _ ?_; clear hX X | clear hX X; refine hX _ _ ?_; clear hX X | clear hX X; clear hX X; refine hX _ _ ?_; clear hX X | intro hlen; unfold maxLen at hlen | apply And.intro; focus (first | omega | assumption | (repeat' apply And.intro) <;> first | omega | assumption)))
      refine callMS (resetN n y) rfl ?_
      rintro v m' ⟨rfl, rfl⟩
      simp -implicitDefEqProofs only [↓slp, slb, ↓reduceIte, reduceCtorEq, jA, jB, jC, jD, jE, jF, jG, jH, jI, jJ, jK, tfObCo, g7]; try simp only [Ex.fold, Ex.foldcs, ← Va.pv.eq_1]
      (repeat (first | refine aSeq fun X hX => ?_ | refine aBlk ?_ | refine aSkip ?_ | (first | refine aExit ?_ | refine aRet ?_); try simp only [slx, ↓reduceIte, Nat.reduceEqDiff, reduceCtorEq] | (first | refine aReg ?_ | refine aDrE ?_); simp -implicitDefEqProofs only [forall_eq, ↓slp, slb, ↓reduceIte, reduceCtorEq, jA, jB, jC, jD, jE, jF, jG, jH, jI, jJ, jK, tfObCo, g0]; try simp only [Ex.fold, Ex.foldcs, ← Va.pv.eq_1] | refine hX _ _ ?_; clear hX X | clear hX X; refine hX _ _ ?_; clear hX X | clear hX X; clear hX X; refine hX _ _ ?_; clear hX X | intro hlen; unfold maxLen at hlen | apply And.intro; focus (first | omega | assumption | (repeat' apply And.intro) <;> first | omega | assumption)))
      exact join n _ hn g0 g1 g2 g7 rfl g10
    · have hqb : ((q : Int) == k) = false := by simp [hqk]
      refine aIf ?_; simp -implicitDefEqProofs only [↓slp, slb, ↓reduceIte, reduceCtorEq, jA, jB, jC, jD, jE, jF, jG, jH, jI, jJ, jK, hqb]
      exact join y _ hy g0 g1 g2 g7 g9 g10
/-- The law. -/
theorem counts_any (n : Int) (xs : List Int) (k : Int) (hn : R32 n) (hx : ∀ x ∈ xs, R32 x) (hk : 0 ≤ k ∧ k ≤ 255) :
    ACalls Try.prog 4 [pJ n, .sl .no (xs.map pJ), .v (.int .u8 k)] M0 (fun v m' => v = .v (.bool true)) := by
  cases c1 : decide ((xs.length : Int) > 100) with
  | true =>
    refine ACalls.enter (mu := []) ok_mix Try.func4 rfl (by kernel_rfl) (by kernel_rfl) (by simp only [List.length_cons, List.length_nil, Try.ntmps4]; omega) ?_
    (repeat (first | refine aSeq fun X hX => ?_ | refine aBlk ?_ | refine aSkip ?_ | (first | refine aExit ?_ | refine aRet ?_); try simp only [slx, ↓reduceIte, Nat.reduceEqDiff, reduceCtorEq] | (first | refine aReg ?_ | refine aDrE ?_); simp -implicitDefEqProofs only [forall_eq, ↓slp, slb, ↓reduceIte, reduceCtorEq, jA, jB, jC, jD, jE, jF, jG, jH, jI, jJ, jK, tfObCo, c1]; try simp only [Ex.fold, Ex.foldcs, ← Va.pv.eq_1] | refine hX _ _ ?_; clear hX X | clear hX X; refine hX _ _ ?_; clear hX X | clear hX X; clear hX X; refine hX _ _ ?_; clear hX X | intro hlen; unfold maxLen at hlen | apply And.intro; focus (first | omega | assumption | (repeat' apply And.intro) <;> first | omega | assumption)))
    refine callE (awakeO _) ?_
    simp -implicitDefEqProofs only [↓slp, slb, ↓reduceIte, reduceCtorEq, jA, jB, jC, jD, jE, jF, jG, jH, jI, jJ, jK, tfObCo, c1]; try simp only [Ex.fold, Ex.foldcs, ← Va.pv.eq_1]
    (repeat (first | refine aSeq fun X hX => ?_ | refine aBlk ?_ | refine aSkip ?_ | (first | refine aExit ?_ | refine aRet ?_); try simp only [slx, ↓reduceIte, Nat.reduceEqDiff, reduceCtorEq] | (first | refine aReg ?_ | refine aDrE ?_); simp -implicitDefEqProofs only [forall_eq, ↓slp, slb, ↓reduceIte, reduceCtorEq, jA, jB, jC, jD, jE, jF, jG, jH, jI, jJ, jK, tfObCo, c1]; try simp only [Ex.fold, Ex.foldcs, ← Va.pv.eq_1] | refine hX _ _ ?_; clear hX X | clear hX X; refine hX _ _ ?_; clear hX X | clear hX X; clear hX X; refine hX _ _ ?_; clear hX X | intro hlen; unfold maxLen at hlen | apply And.intro; focus (first | omega | assumption | (repeat' apply And.intro) <;> first | omega | assumption)))
    refine aIf ?_; simp -implicitDefEqProofs only [↓slp, slb, ↓reduceIte, reduceCtorEq, jA, jB, jC, jD, jE, jF, jG, jH, jI, jJ, jK]
    (repeat (first | refine aSeq fun X hX => ?_ | refine aBlk ?_ | refine aSkip ?_ | (first | refine aExit ?_ | refine aRet ?_); try simp only [slx, ↓reduceIte, Nat.reduceEqDiff, reduceCtorEq] | (first | refine aReg ?_ | refine aDrE ?_); simp -implicitDefEqProofs only [forall_eq, ↓slp, slb, ↓reduceIte, reduceCtorEq, jA, jB, jC, jD, jE, jF, jG, jH, jI, jJ, jK, tfObCo]; try simp only [Ex.fold, Ex.foldcs, ← Va.pv.eq_1] | refine hX _ _ ?_; clear hX X | clear hX X; refine hX _ _ ?_; clear hX X | clear hX X; clear hX X; refine hX _ _ ?_; clear hX X | intro hlen; unfold maxLen at hlen | apply And.intro; focus (first | omega | assumption | (repeat' apply And.intro) <;> first | omega | assumption)))
    refine callE (awakeO _) ?_
    simp -implicitDefEqProofs only [↓slp, slb, ↓reduceIte, reduceCtorEq, jA, jB, jC, jD, jE, jF, jG, jH, jI, jJ, jK, tfObCo]; try simp only [Ex.fold, Ex.foldcs, ← Va.pv.eq_1]
    (repeat (first | refine aSeq fun X hX => ?_ | refine aBlk ?_ | refine aSkip ?_ | (first | refine aExit ?_ | refine aRet ?_); try simp only [slx, ↓reduceIte, Nat.reduceEqDiff, reduceCtorEq] | (first | refine aReg ?_ | refine aDrE ?_); simp -implicitDefEqProofs only [forall_eq, ↓slp, slb, ↓reduceIte, reduceCtorEq, jA, jB, jC, jD, jE, jF, jG, jH, jI, jJ, jK, tfObCo]; try simp only [Ex.fold, Ex.foldcs, ← Va.pv.eq_1] | refine hX _ _ ?_; clear hX X | clear hX X; refine hX _ _ ?_; clear hX X | clear hX X; clear hX X; refine hX _ _ ?_; clear hX X | intro hlen; unfold maxLen at hlen | apply And.intro; focus (first | omega | assumption | (repeat' apply And.intro) <;> first | omega | assumption)))
    simp only [aPost, Try.results4, aRes_n, aRes_t, aRes_c, pack_one, pack_two]
    exact leave_same rfl rfl
  | false =>
    exact counts_main n xs k hn hx hk (by simp at c1; omega)
end Go.Proofs.Ytmcajiccepgagaa
