/-
 Walks as lemmas: the step is the default argument of the last but one hypothesis.
-/
-- halved
import Derived.Test.YthhhnfjcaicjnaaGreatDoorAbKit
set_option linter.unusedVariables false
set_option linter.unusedSimpArgs false
namespace Go.Proofs.YthhhnfjcaicjnaaGreatDoor
open Go

theorem wS {φ A B : Prop} (f : φ) (b : B) (h : φ → B → A := by
    intro wf wb
    simp -implicitDefEqProofs only [↓slp, slb, ↓reduceIte, reduceCtorEq, jA, jB, jC, jD, jE, jF, jG, jH, jI, jJ, jK, wf]; try simp only [Ex.fold, Ex.foldcs, ← Va.pv.eq_1]
    exact wb) : A := h f b
theorem wR {φ A B : Prop} (f : φ) (b : B) (h : φ → B → A := by
    intro wf wb
    simp only [aPost, wf, aRes_n, aRes_t, aRes_c, pack_one, pack_two]
    exact wb) : A := h f b
theorem wQ {φ ψ A B : Prop} (f : φ) (g : ψ) (b : B) (h : φ → ψ → B → A := by
    intro wf wg wb
    simp only [aPost, wf, aRes_n, aRes_t, aRes_c, pack_one, pack_two]
    simp -implicitDefEqProofs only [↓slp, slb, ↓reduceIte, reduceCtorEq, jA, jB, jC, jD, jE, jF, jG, jH, jI, jJ, jK, wg]; try simp only [Ex.fold, Ex.foldcs, ← Va.pv.eq_1]
    exact wb) : A := h f g b
theorem wG {φ A B : Prop} (f : φ) (b : B) (h : φ → B → A := by
    intro wf wb
    simp -implicitDefEqProofs only [↓slp, slb, ↓reduceIte, reduceCtorEq, jA, jB, jC, jD, jE, jF, jG, jH, jI, jJ, jK, wf, List.getElem_toArray, List.getElem_cons_succ, List.getElem_cons_zero]; try simp only [Ex.fold, Ex.foldcs, ← Va.pv.eq_1]
    exact wb) : A := h f b
theorem xA {a : Nat} {m : M} (h : a < m.nb := by first | assumption | (rw [ext_nb]; omega)) : a < m.nb := h
theorem eN {P : Program} {g : FuncId} {fn : Func} {c : Code} {args : List PV} {m : M} {R : PV → M → Prop} (mu : List Nat) (hf : P.funcs[g]? = some fn) (h : aCode P mu noZ c (aPost P fn.results.toList m R) (F.args args) m) (hb : fn.body = some c := by exact rfl)
    (hm : P.follows .mixedOrders = true := by exact ok_mix) (hc : canCall P g = true := by kernel_rfl) (hbd : Go.Code.bd (.of fn.ntmps) c = true := by kernel_rfl) (hn : args.length ≤ fn.ntmps := by exact of_decide_eq_true (by kernel_rfl)) : ACalls P g args m R := ACalls.enter hm hf hb hc hbd hn h
theorem eZ {P : Program} {g : FuncId} {fn : Func} {c : Code} {args : List PV} {m : M} {R Z : PV → M → Prop} (mu : List Nat) (hf : P.funcs[g]? = some fn) (h : aCode P mu (LeaveZ m Z) c (aPost P fn.results.toList m R) (F.args args) m) (hb : fn.body = some c := by exact rfl)
    (hm : P.follows .mixedOrders = true := by exact ok_mix) (hc : canCall P g = true := by kernel_rfl) (hbd : Go.Code.bd (.of fn.ntmps) c = true := by kernel_rfl) (hn : args.length ≤ fn.ntmps := by exact of_decide_eq_true (by kernel_rfl)) : ACallsZ P g args m R Z := ACallsZ.enter hm hf hb hc hbd hn h
theorem vE {φ A B : Prop} (f : φ) (b : B) (h : φ → B → A := by
    intro wf wb
    (repeat (first | refine aSeq fun Y hY => ?_ | refine aBlk ?_ | refine aSkip ?_ | (first | refine aExit ?_ | refine aRet ?_); try simp only [slx, ↓reduceIte, Nat.reduceEqDiff, reduceCtorEq] | (first | apply aReg | apply aIf); simp -implicitDefEqProofs only [forall_eq, ↓slp, slb, ↓reduceIte, reduceCtorEq, jA, jB, jC, jD, jE, jF, jG, jH, jI, jJ, jK, wf]; try simp only [Ex.fold, Ex.foldcs, ← Va.pv.eq_1] | refine hY _ _ ?_; clear hY Y | clear hY Y; refine hY _ _ ?_; clear hY Y | apply hX; clear hX X | clear hX X; (first | apply hX; clear hX X | clear hX X; (first | apply hX; clear hX X | clear hX X; (first | apply hX; clear hX X | clear hX X; apply hX; clear hX X))) | intro hlen; unfold maxLen at hlen | apply And.intro; · first | assumption | and_intros <;> first | omega | assumption))
    repeat revert Y
    exact wb) : A := h f b
theorem wD {φ A B : Prop} (f : φ) (b : B) (h : φ → B → A := by
    intro wf wb; repeat intro X hX
    (repeat (first | refine aSeq fun X hX => ?_ | apply aBlk | refine aSkip ?_ | (first | refine aExit ?_ | refine aRet ?_); try simp only [slx, ↓reduceIte, Nat.reduceEqDiff, reduceCtorEq] | (first | apply aReg | refine aDrE ?_ | apply aIf); simp -implicitDefEqProofs only [forall_eq, ↓slp, slb, ↓reduceIte, reduceCtorEq, jA, jB, jC, jD, jE, jF, jG, jH, jI, jJ, jK, wf]; try simp only [Ex.fold, Ex.foldcs, ← Va.pv.eq_1] | apply hX; clear hX X | clear hX X; apply hX; clear hX X | clear hX X; clear hX X; apply hX; clear hX X | intro hlen; unfold maxLen at hlen | apply And.intro; · first | assumption | and_intros <;> first | omega | assumption))
    repeat revert X
    exact wb) : A := h f b
theorem wE {φ A B : Prop} (f : φ) (b : B) (h : φ → B → A := by
    intro wf wb; repeat intro X hX
    (repeat (first | refine aSeq fun X hX => ?_ | apply aBlk | refine aSkip ?_ | (first | refine aExit ?_ | refine aRet ?_); try simp only [slx, ↓reduceIte, Nat.reduceEqDiff, reduceCtorEq] | (first | apply aReg | apply aIf); simp -implicitDefEqProofs only [forall_eq, ↓slp, slb, ↓reduceIte, reduceCtorEq, jA, jB, jC, jD, jE, jF, jG, jH, jI, jJ, jK, wf]; try simp only [Ex.fold, Ex.foldcs, ← Va.pv.eq_1] | apply hX; clear hX X | clear hX X; apply hX; clear hX X | clear hX X; clear hX X; apply hX; clear hX X | intro hlen; unfold maxLen at hlen | apply And.intro; · first | assumption | and_intros <;> first | omega | assumption))
    repeat revert X
    exact wb) : A := h f b
theorem wW {φ A B : Prop} (f : φ) (b : B) (h : φ → B → A := by
    intro wf wb; repeat intro X hX
    (repeat (first | refine aSeq fun X hX => ?_ | apply aBlk | refine aSkip ?_ | (first | refine aExit ?_ | refine aRet ?_); try simp only [slx, ↓reduceIte, Nat.reduceEqDiff, reduceCtorEq] | (first | apply aReg | refine aDrE ?_); simp -implicitDefEqProofs only [forall_eq, ↓slp, slb, ↓reduceIte, reduceCtorEq, jA, jB, jC, jD, jE, jF, jG, jH, jI, jJ, jK, wf]; try simp only [Ex.fold, Ex.foldcs, ← Va.pv.eq_1] | apply hX; clear hX X | clear hX X; apply hX; clear hX X | clear hX X; clear hX X; apply hX; clear hX X | intro hlen; unfold maxLen at hlen | apply And.intro; · first | assumption | and_intros <;> first | omega | assumption))
    repeat revert X
    exact wb) : A := h f b
end Go.Proofs.YthhhnfjcaicjnaaGreatDoor
