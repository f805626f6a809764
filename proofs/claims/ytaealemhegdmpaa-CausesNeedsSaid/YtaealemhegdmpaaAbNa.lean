/-
 A list of names, one more.
-/
-- halved
import Derived.Test.YtaealemhegdmpaaNvA
set_option linter.unusedVariables false
set_option linter.unusedSimpArgs false
namespace Go.Proofs.Ytaealemhegdmpaa
open Nat renaming reduceEqDiff → jA, reduceAdd → jB, reduceMul → jC, reduceLT → jD, reduceLeDiff → jE, reduceBEq → jF, reduceBNe → jG
open Int renaming reduceLE → jH, reduceLT → jI, reduceToNat → jJ, reduceEq → jK
open Go
set_option maxRecDepth 20000
-- TNAMES: int; string; bool; []string


set_option maxRecDepth 20000 in
set_option maxHeartbeats 400000 in
theorem add_any (o : Own) (l : List Str) (s : Str) (m : M) (hf : o.free m 1) (hlen : l.length < 2 ^ 40) : ACalls Try.prog 80 [.sl o (l.map pS), pS s] m (fun v m' => v = .sl (.tok m.nt) ((addS l s).map pS) ∧ m' = (o.use m).fresh 1) := by
 refine ACalls.enter (mu := []) ok_mix Try.func80 rfl (by kernel_rfl) (by kernel_rfl) (by simp only [List.length_cons, List.length_nil, Try.ntmps80]; omega) ?_
 (repeat (first | refine aSeq fun X hX => ?_ | refine aReg ?_; simp -implicitDefEqProofs only [↓slp, ↓reduceIte, reduceCtorEq, jA, Y0] | apply hX; clear hX X))
 refine callE (contains_any _ _ _ _) ?_
 cases c1 : hasS l s with
 | true =>
  simp -implicitDefEqProofs only [slb, pB]
  (repeat (apply hX; clear hX X))
  refine aIf ?_; simp -implicitDefEqProofs only [slb, ↓reduceIte, reduceCtorEq]
  (repeat (first | refine aSeq fun X hX => ?_ | refine aRet ?_; try simp only [slx, ↓reduceIte, jA, reduceCtorEq] | refine aReg ?_; simp -implicitDefEqProofs only [↓slp, slb, ↓reduceIte, reduceCtorEq] | apply hX; clear hX X))
  simp only [aPost, Try.results80, aRes_n, aRes_t, aRes_c, pack_one, pack_two]
  have hv : addS l s = l := by simp [addS, c1]
  rw [hv]
  exact leave_app (o := o) (o0 := o) (xs := l.map pS) (.refl hf) (strs_one l) ⟨rfl, rfl⟩
 | false =>
  have h1 : l.length + 1 ≤ maxLen := by unfold maxLen; omega
  have h2 : (l.length + 1) * 16 ≤ 140737488355328 := by omega
  have h3 := strs_one l
  have h4 : ∀ x ∈ [pS s], x.cells.length = 1 := strs_one [s]
  simp -implicitDefEqProofs only [slb, pB]
  (repeat (apply hX; clear hX X))
  refine aIf ?_; simp -implicitDefEqProofs only [slb, ↓reduceIte]
  (repeat (first | refine aSeq fun X hX => ?_ | refine aSkip ?_ | refine aRet ?_ | refine aReg ?_; simp -implicitDefEqProofs only [forall_eq, ↓slp, ↓reduceIte, reduceCtorEq, jA, jB, jC, jE, Y0] | apply hX; clear hX X | apply And.intro; focus ((repeat' apply And.intro) <;> first | omega | assumption)))
  simp only [aPost, Try.results80, aRes_n, aRes_t, aRes_c, pack_one, pack_two]
  have hv : (addS l s).map pS = l.map pS ++ [PV.v (Value.string s)] := by simp [addS, c1]
  rw [hv]
  exact leave_app (o := .tok m.nt) (o0 := o) (xs := l.map pS ++ [PV.v (Value.string s)]) (App.step (.refl hf)) (by rw [← hv]; exact strs_one _) ⟨rfl, rfl⟩
end Go.Proofs.Ytaealemhegdmpaa
