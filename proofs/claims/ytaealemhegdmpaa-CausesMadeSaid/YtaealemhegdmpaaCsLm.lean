/-
 The law CausesMade.
-/
-- halved
import Derived.Test.YtaealemhegdmpaaCgC
import Derived.Test.YtaealemhegdmpaaCgD
set_option linter.unusedVariables false
set_option linter.unusedSimpArgs false
namespace Go.Proofs.Ytaealemhegdmpaa
open Nat renaming reduceEqDiff → jA, reduceAdd → jB, reduceMul → jC, reduceLT → jD, reduceLeDiff → jE, reduceBEq → jF, reduceBNe → jG
open Int renaming reduceLE → jH, reduceLT → jI, reduceToNat → jJ, reduceEq → jK
open Go
set_option maxRecDepth 20000
set_option maxHeartbeats 4000000 in
theorem madeLaw_any (l : List Int) (hel : ∀ x ∈ l, 0 ≤ x ∧ x ≤ 255) :
    ACalls Try.prog 3 [.sl .no (l.map pU)] M0 (fun v m' => v = .v (.bool true)) := by
 refine ACalls.enter (mu := []) ok_mix Try.func3 rfl (by kernel_rfl) (by kernel_rfl) (by simp only [List.length_cons, List.length_nil, Try.ntmps3]; omega) ?_
 cases c1 : decide ((l.length : Int) > 400) with
 | true =>
  (repeat (first | refine aSeq fun X hX => ?_ | apply aBlk | refine aSkip ?_ | (first | refine aExit ?_ | refine aRet ?_); try simp only [slx, ↓reduceIte, jA, reduceCtorEq] | (first | apply aReg | refine aDrE ?_); simp -implicitDefEqProofs only [forall_eq, ↓slp, ↓reduceIte, reduceCtorEq, jA, jB, jC, jD, jE, jF, jG, jH, jI, jJ, jK, Y0, c1]; try simp only [fo] | apply hX; clear hX X | clear hX X; apply hX; clear hX X | clear hX X; clear hX X; apply hX; clear hX X | intro hlen; unfold maxLen at hlen | apply aI; · first | assumption | and_intros <;> first | omega | assumption))
  refine callE (awake_any _) ?_
  simp -implicitDefEqProofs only [↓slp, ↓reduceIte, reduceCtorEq, jA, jB, jC, jD, jE, jF, jG, jH, jI, jJ, jK, Y0, c1]; try simp only [fo]
  (repeat (first | refine aSeq fun X hX => ?_ | apply aBlk | refine aSkip ?_ | (first | refine aExit ?_ | refine aRet ?_); try simp only [slx, ↓reduceIte, jA, reduceCtorEq] | (first | apply aReg | refine aDrE ?_); simp -implicitDefEqProofs only [forall_eq, ↓slp, ↓reduceIte, reduceCtorEq, jA, jB, jC, jD, jE, jF, jG, jH, jI, jJ, jK, Y0, c1]; try simp only [fo] | apply hX; clear hX X | clear hX X; apply hX; clear hX X | clear hX X; clear hX X; apply hX; clear hX X | intro hlen; unfold maxLen at hlen | apply aI; · first | assumption | and_intros <;> first | omega | assumption))
  refine aIf ?_; simp -implicitDefEqProofs only [↓slp, slb, ↓reduceIte, reduceCtorEq, jA, jB, jC, jD, jE, jF, jG, jH, jI, jJ, jK]
  (repeat (first | refine aSeq fun X hX => ?_ | apply aBlk | refine aSkip ?_ | (first | refine aExit ?_ | refine aRet ?_); try simp only [slx, ↓reduceIte, jA, reduceCtorEq] | (first | apply aReg | refine aDrE ?_); simp -implicitDefEqProofs only [forall_eq, ↓slp, ↓reduceIte, reduceCtorEq, jA, jB, jC, jD, jE, jF, jG, jH, jI, jJ, jK, Y0]; try simp only [fo] | apply hX; clear hX X | clear hX X; apply hX; clear hX X | clear hX X; clear hX X; apply hX; clear hX X | intro hlen; unfold maxLen at hlen | apply aI; · first | assumption | and_intros <;> first | omega | assumption))
  refine callE (awake_any _) ?_
  simp -implicitDefEqProofs only [↓slp, ↓reduceIte, reduceCtorEq, jA, jB, jC, jD, jE, jF, jG, jH, jI, jJ, jK, Y0]; try simp only [fo]
  (repeat (first | refine aSeq fun X hX => ?_ | apply aBlk | refine aSkip ?_ | (first | refine aExit ?_ | refine aRet ?_); try simp only [slx, ↓reduceIte, jA, reduceCtorEq] | (first | apply aReg | refine aDrE ?_); simp -implicitDefEqProofs only [forall_eq, ↓slp, ↓reduceIte, reduceCtorEq, jA, jB, jC, jD, jE, jF, jG, jH, jI, jJ, jK, Y0]; try simp only [fo] | apply hX; clear hX X | clear hX X; apply hX; clear hX X | clear hX X; clear hX X; apply hX; clear hX X | intro hlen; unfold maxLen at hlen | apply aI; · first | assumption | and_intros <;> first | omega | assumption))
  simp only [aPost, Try.results3, aRes_n, aRes_t, aRes_c, pack_one, pack_two]
  exact leave_same rfl rfl
 | false =>
  (repeat (first | refine aSeq fun X hX => ?_ | apply aBlk | refine aSkip ?_ | (first | refine aExit ?_ | refine aRet ?_); try simp only [slx, ↓reduceIte, jA, reduceCtorEq] | (first | apply aReg | refine aDrE ?_); simp -implicitDefEqProofs only [forall_eq, ↓slp, ↓reduceIte, reduceCtorEq, jA, jB, jC, jD, jE, jF, jG, jH, jI, jJ, jK, Y0, c1]; try simp only [fo] | apply hX; clear hX X | clear hX X; apply hX; clear hX X | clear hX X; clear hX X; apply hX; clear hX X | intro hlen; unfold maxLen at hlen | apply aI; · first | assumption | and_intros <;> first | omega | assumption))
  refine callE (awake_any _) ?_
  simp -implicitDefEqProofs only [↓slp, ↓reduceIte, reduceCtorEq, jA, jB, jC, jD, jE, jF, jG, jH, jI, jJ, jK, Y0, c1]; try simp only [fo]
  (repeat (first | refine aSeq fun X hX => ?_ | apply aBlk | refine aSkip ?_ | (first | refine aExit ?_ | refine aRet ?_); try simp only [slx, ↓reduceIte, jA, reduceCtorEq] | (first | apply aReg | apply aIf); simp -implicitDefEqProofs only [forall_eq, ↓slp, ↓reduceIte, reduceCtorEq, jA, jB, jC, jD, jE, jF, jG, jH, jI, jJ, jK, Y0, c1]; try simp only [fo] | apply hX; clear hX X | clear hX X; apply hX; clear hX X | clear hX X; clear hX X; apply hX; clear hX X | intro hlen; unfold maxLen at hlen | apply aI; · first | assumption | and_intros <;> first | omega | assumption))
  refine callM (make_any l (by simp at c1; omega) hel _) ?_
  rintro v m' ⟨ns, rfl, _, hns, rfl⟩
  simp -implicitDefEqProofs only [↓slp, ↓reduceIte, reduceCtorEq, jA, jB, jC, jD, jE, jF, jG, jH, jI, jJ, jK, Y0]; try simp only [fo]
  refine callM (ccheck_any 3 ns [.ag colC] .no (fun n hn => (made_ok hns n hn).1) _) ?_
  rintro v m' ⟨r, rfl, hr, rfl⟩
  obtain rfl : r = none := by
   rcases hr with ⟨h, _⟩ | ⟨a, g, b, i, hi, hg, _, hb, _, _⟩
   ·exact h
   ·exfalso
    have hm : g ∈ ns.map (gOf 3) := by rw [hg]; simp
    obtain ⟨n, hn, rfl⟩ := List.mem_map.1 hm
    exact (made_ok hns n hn).2 i hb
  simp -implicitDefEqProofs only [↓slp, ↓reduceIte, reduceCtorEq, jA, jB, jC, jD, jE, jF, jG, jH, jI, jJ, jK, Y0, errV]; try simp only [fo]
  (repeat (first | refine aSeq fun X hX => ?_ | apply aBlk | refine aSkip ?_ | (first | refine aExit ?_ | refine aRet ?_); try simp only [slx, ↓reduceIte, jA, reduceCtorEq] | (first | apply aReg | apply aIf); simp -implicitDefEqProofs only [forall_eq, ↓slp, ↓reduceIte, reduceCtorEq, jA, jB, jC, jD, jE, jF, jG, jH, jI, jJ, jK, Y0, errV]; try simp only [fo] | apply hX; clear hX X | clear hX X; apply hX; clear hX X | clear hX X; clear hX X; apply hX; clear hX X | intro hlen; unfold maxLen at hlen | apply aI; · first | assumption | and_intros <;> first | omega | assumption))
  simp only [aPost, Try.results3, aRes_n, aRes_t, aRes_c, pack_one, pack_two]
  exact leave_same rfl rfl
end Go.Proofs.Ytaealemhegdmpaa
