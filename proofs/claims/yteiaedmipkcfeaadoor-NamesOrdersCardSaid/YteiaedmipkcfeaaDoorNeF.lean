/-
  Faults at a place: they are made, told, and end a look.
-/
import Derived.Test.YteiaedmipkcfeaaDoorAbKit
import Derived.Test.YteiaedmipkcfeaaDoorExA
import Derived.Test.YteiaedmipkcfeaaDoorAbCut
import Derived.Test.YteiaedmipkcfeaaDoorLvA
import Derived.Test.YteiaedmipkcfeaaDoorAbIs
import Derived.Test.YteiaedmipkcfeaaDoorAsA
import Derived.Test.YteiaedmipkcfeaaDoorRnA
set_option linter.unusedVariables false
set_option linter.unusedSimpArgs false
namespace Go.Proofs.YteiaedmipkcfeaaDoor
open Nat renaming reduceEqDiff → jA, reduceAdd → jB, reduceMul → jC, reduceLT → jD, reduceLeDiff → jE, reduceBEq → jF, reduceBNe → jG
open Int renaming reduceLE → jH, reduceLT → jI, reduceToNat → jJ, reduceEq → jK
open Go
set_option maxRecDepth 20000
-- TNAMES: int; uint8; string; bool; error; api.Kind; api.Pos; faults.At; *faults.At; names.stop; interface {}
set_option linter.defProp false
def tfNeF := And.intro @tfA (And.intro @Ex.settle_pv (And.intro @Ex.pure_pv (And.intro @Ex.cells_pv (And.intro @Ex.cs.eq_1 (And.intro @On.pv.eq_1 (And.intro @Ty.pv.eq_1 (And.intro @Va.settle_pv (And.intro @Va.pure_pv (And.intro @Va.cells_pv @Va.cs.eq_1)))))))))

/-- A kind, as an error. -/
abbrev pK (k : Int) : PV := .ifc 39 (.v (.int .i64 k))
/-- An At, as an error. -/
abbrev pA (l c : Int) (k : Int) : PV := .ifc 94 (.ep [.v (.int .i64 l), .v (.int .i64 c), .v (.string ⟨#[]⟩), .v (.bool false), pK k])
abbrev pP (l c : Int) : PV := .ag [.v (.int .i64 l), .v (.int .i64 c)]
/-- How a look ends. -/
abbrev pStop (l c k : Int) : PV := .ifc 69 (.ag [pA l c k])
def musW (g : Nat) : List Nat := match g with
  | 13 => [2, 3]
  | _ => []
theorem hookW_ok : CallOk Tryd.prog (asHook isHook) := asHook_ok isHook_ok
theorem where_at (l c k : Int) (m : M) : ACalls Tryd.prog 13 [pA l c k] m (fun v m' => v = pP l c ∧ m' = m) :=
  ACalls.ranP (mus := musW) (hook := asHook isHook) (k := 60) ok_mix hookW_ok (by kernel_rfl) (fun x hx => by simp at hx; subst hx; rfl) rfl m ⟨rfl, rfl⟩
theorem where_nil (m : M) : ACalls Tryd.prog 13 [.v .nilIface] m (fun v m' => v = pP 0 0 ∧ m' = m) :=
  ACalls.ranP (mus := musW) (hook := asHook isHook) (k := 60) ok_mix hookW_ok (by kernel_rfl) (fun x hx => by simp at hx; subst hx; rfl) rfl m ⟨rfl, rfl⟩
theorem kind_nil (m : M) : ACalls Tryd.prog 12 [.v .nilIface] m (fun v m' => v = pI 0 ∧ m' = m) :=
  ACalls.ranP (mus := musW) (hook := asHook isHook) (k := 60) ok_mix hookW_ok (by kernel_rfl) (fun x hx => by simp at hx; subst hx; rfl) rfl m ⟨rfl, rfl⟩
theorem kind_at4 (l c : Int) (m : M) : ACalls Tryd.prog 12 [pA l c 4] m (fun v m' => v = pI 4 ∧ m' = m) :=
  ACalls.ranP (mus := musW) (hook := asHook isHook) (k := 60) ok_mix hookW_ok (by kernel_rfl) (fun x hx => by simp at hx; subst hx; rfl) rfl m ⟨rfl, rfl⟩
theorem kind_at6 (l c : Int) (m : M) : ACalls Tryd.prog 12 [pA l c 6] m (fun v m' => v = pI 6 ∧ m' = m) :=
  ACalls.ranP (mus := musW) (hook := asHook isHook) (k := 60) ok_mix hookW_ok (by kernel_rfl) (fun x hx => by simp at hx; subst hx; rfl) rfl m ⟨rfl, rfl⟩
set_option maxHeartbeats 1000000 in
theorem fail_any (k l c : Int) (hk : (k == 0) = false) (m : M) : ACallsZ Tryd.prog 24 [.v (.int .i64 k), pP l c] m (fun _ _ => False) (fun v m' => v = pStop l c k ∧ m' = m) := by
  have hn : ∀ m, ACalls Tryd.prog 44 [.v (.int .i64 k), pP l c] m (fun v m' => v = pA l c k ∧ m' = m) := fun m => by
    refine ACalls.enter (mu := []) ok_mix Tryd.func44 rfl (by kernel_rfl) (by kernel_rfl) (by simp only [List.length_cons, List.length_nil, Tryd.ntmps44]; omega) ?_
    (repeat (first | refine aSeq fun X hX => ?_ | refine aBlk ?_ | refine aSkip ?_ | (first | refine aExit ?_ | refine aRet ?_); try simp only [slx, ↓reduceIte, Nat.reduceEqDiff, reduceCtorEq] | (first | refine aReg ?_ | refine aDrE ?_); simp -implicitDefEqProofs only [forall_eq, ↓slp, slb, ↓reduceIte, reduceCtorEq, jA, jB, jC, jD, jE, jF, jG, jH, jI, jJ, jK, tfNeF, hk]; try simp only [Ex.fold, Ex.foldcs, ← Va.pv.eq_1] | refine hX _ _ ?_; clear hX X | clear hX X; refine hX _ _ ?_; clear hX X | clear hX X; clear hX X; refine hX _ _ ?_; clear hX X | intro hlen; unfold maxLen at hlen | apply And.intro; focus (first | omega | assumption | (repeat' apply And.intro) <;> first | omega | assumption)))
    refine aIf ?_; simp -implicitDefEqProofs only [↓slp, slb, ↓reduceIte, reduceCtorEq, jA, jB, jC, jD, jE, jF, jG, jH, jI, jJ, jK, hk]
    (repeat (first | refine aSeq fun X hX => ?_ | refine aBlk ?_ | refine aSkip ?_ | (first | refine aExit ?_ | refine aRet ?_); try simp only [slx, ↓reduceIte, Nat.reduceEqDiff, reduceCtorEq] | (first | refine aReg ?_ | refine aDrE ?_); simp -implicitDefEqProofs only [forall_eq, ↓slp, slb, ↓reduceIte, reduceCtorEq, jA, jB, jC, jD, jE, jF, jG, jH, jI, jJ, jK, tfNeF, hk]; try simp only [Ex.fold, Ex.foldcs, ← Va.pv.eq_1] | refine hX _ _ ?_; clear hX X | clear hX X; refine hX _ _ ?_; clear hX X | clear hX X; clear hX X; refine hX _ _ ?_; clear hX X | intro hlen; unfold maxLen at hlen | apply And.intro; focus (first | omega | assumption | (repeat' apply And.intro) <;> first | omega | assumption)))
    simp only [aPost, Tryd.results44, aRes_n, aRes_t, aRes_c, pack_one, pack_two]
    exact leave_same rfl ⟨rfl, rfl⟩
  refine ACallsZ.enter (mu := []) ok_mix Tryd.func24 rfl (by kernel_rfl) (by kernel_rfl) (by simp only [List.length_cons, List.length_nil, Tryd.ntmps24]; omega) ?_
  (repeat (first | refine aSeq fun X hX => ?_ | refine aBlk ?_ | refine aSkip ?_ | (first | refine aExit ?_ | refine aRet ?_); try simp only [slx, ↓reduceIte, Nat.reduceEqDiff, reduceCtorEq] | (first | refine aReg ?_ | refine aDrE ?_); simp -implicitDefEqProofs only [forall_eq, ↓slp, slb, ↓reduceIte, reduceCtorEq, jA, jB, jC, jD, jE, jF, jG, jH, jI, jJ, jK, tfNeF]; try simp only [Ex.fold, Ex.foldcs, ← Va.pv.eq_1] | refine hX _ _ ?_; clear hX X | clear hX X; refine hX _ _ ?_; clear hX X | clear hX X; clear hX X; refine hX _ _ ?_; clear hX X | intro hlen; unfold maxLen at hlen | apply And.intro; focus (first | omega | assumption | (repeat' apply And.intro) <;> first | omega | assumption)))
  refine callE (hn _) ?_
  simp -implicitDefEqProofs only [↓slp, slb, ↓reduceIte, reduceCtorEq, jA, jB, jC, jD, jE, jF, jG, jH, jI, jJ, jK, tfNeF]; try simp only [Ex.fold, Ex.foldcs, ← Va.pv.eq_1]
  (repeat (first | refine aSeq fun X hX => ?_ | refine aBlk ?_ | refine aSkip ?_ | (first | refine aExit ?_ | refine aRet ?_); try simp only [slx, ↓reduceIte, Nat.reduceEqDiff, reduceCtorEq] | (first | refine aReg ?_ | refine aDrE ?_); simp -implicitDefEqProofs only [forall_eq, ↓slp, slb, ↓reduceIte, reduceCtorEq, jA, jB, jC, jD, jE, jF, jG, jH, jI, jJ, jK, tfNeF]; try simp only [Ex.fold, Ex.foldcs, ← Va.pv.eq_1] | refine hX _ _ ?_; clear hX X | clear hX X; refine hX _ _ ?_; clear hX X | clear hX X; clear hX X; refine hX _ _ ?_; clear hX X | intro hlen; unfold maxLen at hlen | apply And.intro; focus (first | omega | assumption | (repeat' apply And.intro) <;> first | omega | assumption)))
  have hu := Tryd.underlying69
  simp -implicitDefEqProofs only [↓slp, slb, ↓reduceIte, reduceCtorEq, jA, jB, jC, jD, jE, jF, jG, jH, jI, jJ, jK, tfNeF, hu]; try simp only [Ex.fold, Ex.foldcs, ← Va.pv.eq_1]
  refine leave_same ?_ ?_
  · rfl
  · exact ⟨rfl, rfl⟩
end Go.Proofs.YteiaedmipkcfeaaDoor
