/-
  Texts that belong together: TmY, TmX.
-/
import Derived.Test.YticdboelpgalpaaDoorTmZ
import Derived.Test.YticdboelpgalpaaDoorLvA
import Derived.Test.YticdboelpgalpaaDoorRnA
import Derived.Test.YticdboelpgalpaaDoorSlcX
import Derived.Test.YticdboelpgalpaaDoorMkH
/-
  Texts that belong together: TmW, TmE.
-/
/-
  types: the type of a name, of an operator; constructors; what has no state.
-/
set_option linter.unusedVariables false
set_option linter.unusedSimpArgs false
namespace Go.Proofs.YticdboelpgalpaaDoor
open Nat renaming reduceEqDiff → jA, reduceAdd → jB, reduceMul → jC, reduceLT → jD, reduceLeDiff → jE, reduceBEq → jF, reduceBNe → jG
open Int renaming reduceLE → jH, reduceLT → jI, reduceToNat → jJ, reduceEq → jK
open Go
set_option maxRecDepth 20000
set_option linter.defProp false
def tfTmW := And.intro @tfA (And.intro @Ex.settle_pv (And.intro @Ex.pure_pv (And.intro @Ex.cells_pv (And.intro @Ex.cs.eq_1 (And.intro @On.pv.eq_1 (And.intro @Ty.pv.eq_1 (And.intro @Va.settle_pv (And.intro @Va.pure_pv (And.intro @Va.cells_pv (And.intro @Va.cs.eq_1 (And.intro @Qu.settle_pv (And.intro @Qu.pure_pv (And.intro @Qu.cells_pv (And.intro @Qu.cs.eq_1 (And.intro @Am.settle_pv (And.intro @Am.pure_pv (And.intro @Am.cells_pv (And.intro @Am.cs.eq_1 (And.intro @Tr.settle_pv (And.intro @Tr.pure_pv (And.intro @Tr.cells_pv (And.intro @Tr.cs.eq_1 (And.intro @No.settle_pv (And.intro @No.pure_pv (And.intro @No.cells_pv (And.intro @No.cs.eq_1 @No.pv.eq_1))))))))))))))))))))))))))

abbrev unit (m : M) : PV → M → Prop := fun v m' => v = .tp [] ∧ m' = m
set_option maxHeartbeats 1000000 in
theorem of_ty {E : List Va} {s : Str} {t : Ty} (h : TyOf E s t) (m : M) : ACalls Tryd.prog 23 [.sl .no (E.map Va.pv), pS s] m (fun v m' => v = t.pv ∧ m' = m) := by
  obtain ⟨k, hk, hf, rfl⟩ := h
  have g0 := getD_map Va.pv E k hk
  have hx := fun m => findVar_any .no E s m
  rw [hf] at hx
  refine ACalls.enter (mu := [4]) ok_mix Tryd.func23 rfl (by kernel_rfl) (by kernel_rfl) (by simp only [List.length_cons, List.length_nil, Tryd.ntmps23]; omega) ?_
  (repeat (first | refine aSeq fun X hX => ?_ | refine aBlk ?_ | refine aSkip ?_ | (first | refine aExit ?_ | refine aRet ?_); try simp only [slx, ↓reduceIte, jA, reduceCtorEq] | (first | refine aReg ?_ | refine aDrE ?_ | refine aIf ?_); simp -implicitDefEqProofs only [forall_eq, ↓slp, slb, ↓reduceIte, reduceCtorEq, jA, jB, jC, jD, jE, jF, jG, jH, jI, jJ, jK, tfTmW]; try simp only [fo] | refine hX _ _ ?_; clear hX X | clear hX X; refine hX _ _ ?_; clear hX X | clear hX X; clear hX X; refine hX _ _ ?_; clear hX X | intro hlen; unfold maxLen at hlen | apply And.intro; focus (first | omega | assumption | (repeat' apply And.intro) <;> first | omega | assumption)))
  refine callE (hx _) ?_
  simp -implicitDefEqProofs only [↓slp, slb, ↓reduceIte, reduceCtorEq, jA, jB, jC, jD, jE, jF, jG, jH, jI, jJ, jK, tfTmW, pI, g0, hk]; try simp only [fo]
  (repeat (first | refine aSeq fun X hX => ?_ | refine aBlk ?_ | refine aSkip ?_ | (first | refine aExit ?_ | refine aRet ?_); try simp only [slx, ↓reduceIte, jA, reduceCtorEq] | (first | refine aReg ?_ | refine aDrE ?_ | refine aIf ?_); simp -implicitDefEqProofs only [forall_eq, ↓slp, slb, ↓reduceIte, reduceCtorEq, jA, jB, jC, jD, jE, jF, jG, jH, jI, jJ, jK, tfTmW, pI, g0, hk]; try simp only [fo] | refine hX _ _ ?_; clear hX X | clear hX X; refine hX _ _ ?_; clear hX X | clear hX X; clear hX X; refine hX _ _ ?_; clear hX X | intro hlen; unfold maxLen at hlen | apply And.intro; focus (first | omega | assumption | (repeat' apply And.intro) <;> first | omega | assumption)))
  simp only [aPost, Tryd.results23, aRes_n, aRes_t, aRes_c, pack_one, pack_two]
  simp -implicitDefEqProofs only [↓slp, slb, ↓reduceIte, reduceCtorEq, jA, jB, jC, jD, jE, jF, jG, jH, jI, jJ, jK, tfTmW]; try simp only [fo]
  exact leave_ext rfl ⟨rfl, rfl⟩
theorem types_run {o i r : Int} (h : opT o = some (i, r)) (m : M) : ACalls Tryd.prog 52 [.v (.int .u8 o)] m (fun v m' => v = .tp [.v (.int .u8 i), .v (.int .u8 r)] ∧ m' = m) := by
  have hr : ∀ (o i r : Int), eIs Tryd.prog (fun _ => []) noHook 60 52 [.v (.int .u8 o)] = some (.tp [.v (.int .u8 i), .v (.int .u8 r)]) → ACalls Tryd.prog 52 [.v (.int .u8 o)] m (fun v m' => v = .tp [.v (.int .u8 i), .v (.int .u8 r)] ∧ m' = m) := fun o i r h =>
    ACalls.ranP ok_mix noHook_ok h (fun x hx => by simp at hx; subst hx; rfl) rfl m ⟨rfl, rfl⟩
  unfold opT at h
  split at h
  · rename_i ho
    cases h
    rcases ho with rfl | rfl | rfl | rfl <;> exact hr _ _ _ (by kernel_rfl)
  · split at h
    · rename_i ho
      cases h
      have : o = 2 ∨ o = 3 ∨ o = 4 ∨ o = 5 ∨ o = 6 ∨ o = 7 := by omega
      rcases this with rfl | rfl | rfl | rfl | rfl | rfl <;> exact hr _ _ _ (by kernel_rfl)
    · split at h
      · rename_i ho
        cases h
        rcases ho with rfl | rfl <;> exact hr _ _ _ (by kernel_rfl)
      · split at h
        · rename_i ho
          cases h
          subst ho
          exact hr _ _ _ (by kernel_rfl)
        · cases h
set_option maxHeartbeats 1000000 in
theorem idxEn_any (g : FuncId) (c : PV) (m : M) (hf : ∀ m : M, ACalls Tryd.prog g [.ag colC, c] m (fun v m' => v = pB true ∧ m' = m)) :
    ACalls Tryd.prog 50 [.sl .no [.ag colC], .fn (.func g) [] [c]] m (fun v m' => v = pI 0 ∧ m' = m) := by
  unfold colC at hf ⊢
  refine ACalls.enter (mu := []) ok_mix Tryd.func50 rfl (by kernel_rfl) (by kernel_rfl) (by simp only [List.length_cons, List.length_nil, Tryd.ntmps50]; omega) ?_
  (repeat (first | refine aSeq fun X hX => ?_ | refine aBlk ?_ | refine aSkip ?_ | (first | refine aExit ?_ | refine aRet ?_); try simp only [slx, ↓reduceIte, jA, reduceCtorEq] | (first | refine aReg ?_ | refine aDrE ?_); simp -implicitDefEqProofs only [forall_eq, ↓slp, slb, ↓reduceIte, reduceCtorEq, jA, jB, jC, jD, jE, jF, jG, jH, jI, jJ, jK, tfTmW]; try simp only [fo] | refine hX _ _ ?_; clear hX X | clear hX X; refine hX _ _ ?_; clear hX X | clear hX X; clear hX X; refine hX _ _ ?_; clear hX X | intro hlen; unfold maxLen at hlen | apply And.intro; focus (first | omega | assumption | (repeat' apply And.intro) <;> first | omega | assumption)))
  obtain ⟨I, hI⟩ : ∃ I : F → M → Prop, ∀ f m', I f m' = (f 0 = .sl .no [.ag [.v (.string sCol), .sl .no [pS sRed, pS sGreen, pS sBlue], .v (.int .i64 0), .v (.int .i64 0)]] ∧ f 1 = .fn (.func g) [] [c] ∧ f 7 = pI 1 ∧ f 8 = pI 0 ∧ m' = m) := ⟨_, fun _ _ => rfl⟩
  refine aLoop I (fun f m => 0) ?_ ?_
  · rw [hI]; exact ⟨rfl, rfl, rfl, rfl, rfl⟩
  intro f m' hrel
  rw [hI] at hrel
  obtain ⟨h0, h1, h7, h8, rfl⟩ := hrel
  have c1 : decide ((0 : Int) < 1) = true := rfl
  (repeat (first | refine aSeq fun X hX => ?_ | refine aBlk ?_ | refine aSkip ?_ | (first | refine aExit ?_ | refine aRet ?_); try simp only [slx, ↓reduceIte, jA, reduceCtorEq] | (first | refine aReg ?_ | refine aIf ?_); simp -implicitDefEqProofs only [forall_eq, ↓slp, slb, ↓reduceIte, reduceCtorEq, jA, jB, jC, jD, jE, jF, jG, jH, jI, jJ, jK, tfTmW, h0, h1, h7, h8, pI, c1]; try simp only [fo] | refine hX _ _ ?_; clear hX X | clear hX X; refine hX _ _ ?_; clear hX X | clear hX X; clear hX X; refine hX _ _ ?_; clear hX X | intro hlen; unfold maxLen at hlen | apply And.intro; focus (first | omega | assumption | (repeat' apply And.intro) <;> first | omega | assumption)))
  refine callE (hf _) ?_
  simp -implicitDefEqProofs only [↓slp, slb, ↓reduceIte, reduceCtorEq, jA, jB, jC, jD, jE, jF, jG, jH, jI, jJ, jK, tfTmW, h0, h1, h7, h8, pI, pB]; try simp only [fo]
  (repeat (first | refine aSeq fun X hX => ?_ | refine aBlk ?_ | refine aSkip ?_ | (first | refine aExit ?_ | refine aRet ?_); try simp only [slx, ↓reduceIte, jA, reduceCtorEq] | (first | refine aReg ?_ | refine aIf ?_); simp -implicitDefEqProofs only [forall_eq, ↓slp, slb, ↓reduceIte, reduceCtorEq, jA, jB, jC, jD, jE, jF, jG, jH, jI, jJ, jK, tfTmW, h0, h1, h7, h8, pI]; try simp only [fo] | refine hX _ _ ?_; clear hX X | clear hX X; refine hX _ _ ?_; clear hX X | clear hX X; clear hX X; refine hX _ _ ?_; clear hX X | intro hlen; unfold maxLen at hlen | apply And.intro; focus (first | omega | assumption | (repeat' apply And.intro) <;> first | omega | assumption)))
  simp only [aPost, Tryd.results50, aRes_n, aRes_t, aRes_c, pack_one, pack_two]
  exact leave_same rfl ⟨rfl, rfl⟩
set_option maxHeartbeats 1000000 in
theorem findEnumC (m : M) : ACalls Tryd.prog 73 [.ag colC, .ep [pS sCol]] m (fun v m' => v = pB true ∧ m' = m) := by
  have e1 : (sCol.toList == sCol.toList) = true := by simp
  unfold colC
  refine ACalls.enter (mu := []) ok_mix Tryd.func73 rfl (by kernel_rfl) (by kernel_rfl) (by simp only [List.length_cons, List.length_nil, Tryd.ntmps73]; omega) ?_
  (repeat (first | refine aSeq fun X hX => ?_ | refine aBlk ?_ | refine aSkip ?_ | (first | refine aExit ?_ | refine aRet ?_); try simp only [slx, ↓reduceIte, jA, reduceCtorEq] | (first | refine aReg ?_ | refine aDrE ?_); simp -implicitDefEqProofs only [forall_eq, ↓slp, slb, ↓reduceIte, reduceCtorEq, jA, jB, jC, jD, jE, jF, jG, jH, jI, jJ, jK, tfTmW, pS, e1]; try simp only [fo] | refine hX _ _ ?_; clear hX X | clear hX X; refine hX _ _ ?_; clear hX X | clear hX X; clear hX X; refine hX _ _ ?_; clear hX X | intro hlen; unfold maxLen at hlen | apply And.intro; focus (first | omega | assumption | (repeat' apply And.intro) <;> first | omega | assumption)))
  simp only [aPost, Tryd.results73, aRes_n, aRes_t, aRes_c, pack_one, pack_two]
  exact leave_same rfl ⟨rfl, rfl⟩
set_option maxHeartbeats 1000000 in
theorem ctorEnumC {s : Str} (hs : s ∈ cols) (m : M) : ACalls Tryd.prog 51 [.ag colC, .ep [pS s]] m (fun v m' => v = pB true ∧ m' = m) := by
  have hx := fun m => contains_any .no cols s m
  rw [(hasS_iff s cols).2 hs] at hx
  simp only [cols, List.map_cons, List.map_nil] at hx
  unfold colC
  refine ACalls.enter (mu := []) ok_mix Tryd.func51 rfl (by kernel_rfl) (by kernel_rfl) (by simp only [List.length_cons, List.length_nil, Tryd.ntmps51]; omega) ?_
  (repeat (first | refine aSeq fun X hX => ?_ | refine aBlk ?_ | refine aSkip ?_ | (first | refine aExit ?_ | refine aRet ?_); try simp only [slx, ↓reduceIte, jA, reduceCtorEq] | (first | refine aReg ?_ | refine aDrE ?_); simp -implicitDefEqProofs only [forall_eq, ↓slp, slb, ↓reduceIte, reduceCtorEq, jA, jB, jC, jD, jE, jF, jG, jH, jI, jJ, jK, tfTmW, pS]; try simp only [fo] | refine hX _ _ ?_; clear hX X | clear hX X; refine hX _ _ ?_; clear hX X | clear hX X; clear hX X; refine hX _ _ ?_; clear hX X | intro hlen; unfold maxLen at hlen | apply And.intro; focus (first | omega | assumption | (repeat' apply And.intro) <;> first | omega | assumption)))
  refine callE (hx _) ?_
  simp -implicitDefEqProofs only [↓slp, slb, ↓reduceIte, reduceCtorEq, jA, jB, jC, jD, jE, jF, jG, jH, jI, jJ, jK, tfTmW, pB]; try simp only [fo]
  (repeat (first | refine aSeq fun X hX => ?_ | refine aBlk ?_ | refine aSkip ?_ | (first | refine aExit ?_ | refine aRet ?_); try simp only [slx, ↓reduceIte, jA, reduceCtorEq] | (first | refine aReg ?_ | refine aDrE ?_); simp -implicitDefEqProofs only [forall_eq, ↓slp, slb, ↓reduceIte, reduceCtorEq, jA, jB, jC, jD, jE, jF, jG, jH, jI, jJ, jK, tfTmW]; try simp only [fo] | refine hX _ _ ?_; clear hX X | clear hX X; refine hX _ _ ?_; clear hX X | clear hX X; clear hX X; refine hX _ _ ?_; clear hX X | intro hlen; unfold maxLen at hlen | apply And.intro; focus (first | omega | assumption | (repeat' apply And.intro) <;> first | omega | assumption)))
  simp only [aPost, Tryd.results51, aRes_n, aRes_t, aRes_c, pack_one, pack_two]
  exact leave_same rfl ⟨rfl, rfl⟩
set_option maxHeartbeats 1000000 in
theorem findEnum_C (m : M) : ACalls Tryd.prog 54 [.sl .no [.ag colC], pS sCol] m (fun v m' => v = pI 0 ∧ m' = m) := by
  have hx := fun m => idxEn_any 73 (.ep [pS sCol]) m findEnumC
  unfold colC at hx ⊢
  refine ACalls.enter (mu := []) ok_mix Tryd.func54 rfl (by kernel_rfl) (by kernel_rfl) (by simp only [List.length_cons, List.length_nil, Tryd.ntmps54]; omega) ?_
  (repeat (first | refine aSeq fun X hX => ?_ | refine aBlk ?_ | refine aSkip ?_ | (first | refine aExit ?_ | refine aRet ?_); try simp only [slx, ↓reduceIte, jA, reduceCtorEq] | (first | refine aReg ?_ | refine aDrE ?_); simp -implicitDefEqProofs only [forall_eq, ↓slp, slb, ↓reduceIte, reduceCtorEq, jA, jB, jC, jD, jE, jF, jG, jH, jI, jJ, jK, tfTmW, pS]; try simp only [fo] | refine hX _ _ ?_; clear hX X | clear hX X; refine hX _ _ ?_; clear hX X | clear hX X; clear hX X; refine hX _ _ ?_; clear hX X | intro hlen; unfold maxLen at hlen | apply And.intro; focus (first | omega | assumption | (repeat' apply And.intro) <;> first | omega | assumption)))
  refine callE (hx _) ?_
  simp -implicitDefEqProofs only [↓slp, slb, ↓reduceIte, reduceCtorEq, jA, jB, jC, jD, jE, jF, jG, jH, jI, jJ, jK, tfTmW, pI]; try simp only [fo]
  (repeat (first | refine aSeq fun X hX => ?_ | refine aBlk ?_ | refine aSkip ?_ | (first | refine aExit ?_ | refine aRet ?_); try simp only [slx, ↓reduceIte, jA, reduceCtorEq] | (first | refine aReg ?_ | refine aDrE ?_); simp -implicitDefEqProofs only [forall_eq, ↓slp, slb, ↓reduceIte, reduceCtorEq, jA, jB, jC, jD, jE, jF, jG, jH, jI, jJ, jK, tfTmW]; try simp only [fo] | refine hX _ _ ?_; clear hX X | clear hX X; refine hX _ _ ?_; clear hX X | clear hX X; clear hX X; refine hX _ _ ?_; clear hX X | intro hlen; unfold maxLen at hlen | apply And.intro; focus (first | omega | assumption | (repeat' apply And.intro) <;> first | omega | assumption)))
  simp only [aPost, Tryd.results54, aRes_n, aRes_t, aRes_c, pack_one, pack_two]
  exact leave_same rfl ⟨rfl, rfl⟩
set_option maxHeartbeats 1000000 in
theorem ctorEnum_C {s : Str} (hs : s ∈ cols) (m : M) : ACalls Tryd.prog 22 [.sl .no [.ag colC], pS s] m (fun v m' => v = pI 0 ∧ m' = m) := by
  have hx := fun m => idxEn_any 51 (.ep [pS s]) m (ctorEnumC hs)
  unfold colC at hx ⊢
  refine ACalls.enter (mu := []) ok_mix Tryd.func22 rfl (by kernel_rfl) (by kernel_rfl) (by simp only [List.length_cons, List.length_nil, Tryd.ntmps22]; omega) ?_
  (repeat (first | refine aSeq fun X hX => ?_ | refine aBlk ?_ | refine aSkip ?_ | (first | refine aExit ?_ | refine aRet ?_); try simp only [slx, ↓reduceIte, jA, reduceCtorEq] | (first | refine aReg ?_ | refine aDrE ?_); simp -implicitDefEqProofs only [forall_eq, ↓slp, slb, ↓reduceIte, reduceCtorEq, jA, jB, jC, jD, jE, jF, jG, jH, jI, jJ, jK, tfTmW, pS]; try simp only [fo] | refine hX _ _ ?_; clear hX X | clear hX X; refine hX _ _ ?_; clear hX X | clear hX X; clear hX X; refine hX _ _ ?_; clear hX X | intro hlen; unfold maxLen at hlen | apply And.intro; focus (first | omega | assumption | (repeat' apply And.intro) <;> first | omega | assumption)))
  refine callE (hx _) ?_
  simp -implicitDefEqProofs only [↓slp, slb, ↓reduceIte, reduceCtorEq, jA, jB, jC, jD, jE, jF, jG, jH, jI, jJ, jK, tfTmW, pI]; try simp only [fo]
  (repeat (first | refine aSeq fun X hX => ?_ | refine aBlk ?_ | refine aSkip ?_ | (first | refine aExit ?_ | refine aRet ?_); try simp only [slx, ↓reduceIte, jA, reduceCtorEq] | (first | refine aReg ?_ | refine aDrE ?_); simp -implicitDefEqProofs only [forall_eq, ↓slp, slb, ↓reduceIte, reduceCtorEq, jA, jB, jC, jD, jE, jF, jG, jH, jI, jJ, jK, tfTmW]; try simp only [fo] | refine hX _ _ ?_; clear hX X | clear hX X; refine hX _ _ ?_; clear hX X | clear hX X; clear hX X; refine hX _ _ ?_; clear hX X | intro hlen; unfold maxLen at hlen | apply And.intro; focus (first | omega | assumption | (repeat' apply And.intro) <;> first | omega | assumption)))
  simp only [aPost, Tryd.results22, aRes_n, aRes_t, aRes_c, pack_one, pack_two]
  exact leave_same rfl ⟨rfl, rfl⟩
set_option maxHeartbeats 1000000 in
theorem ctors_C (m : M) : ACalls Tryd.prog 26 [.sl .no [.ag colC], tyC.pv] m (fun v m' => v = .sl .no (cols.map pS) ∧ m' = m) := by
  have hx := fun m => findEnum_C m
  have c1 : ((3 : Int) == 1) = false := rfl
  have c3 : ((3 : Int) == 3) = true := rfl
  have c0 : decide ((0 : Int) ≥ 0) = true := rfl
  unfold colC at hx ⊢
  simp only [Ty.pv, tyC]
  refine ACalls.enter (mu := []) ok_mix Tryd.func26 rfl (by kernel_rfl) (by kernel_rfl) (by simp only [List.length_cons, List.length_nil, Tryd.ntmps26]; omega) ?_
  (repeat (first | refine aSeq fun X hX => ?_ | refine aBlk ?_ | refine aSkip ?_ | (first | refine aExit ?_ | refine aRet ?_); try simp only [slx, ↓reduceIte, jA, reduceCtorEq] | (first | refine aReg ?_ | refine aDrE ?_ | refine aIf ?_); simp -implicitDefEqProofs only [forall_eq, ↓slp, slb, ↓reduceIte, reduceCtorEq, jA, jB, jC, jD, jE, jF, jG, jH, jI, jJ, jK, tfTmW, c1, c3]; try simp only [fo] | refine hX _ _ ?_; clear hX X | clear hX X; refine hX _ _ ?_; clear hX X | clear hX X; clear hX X; refine hX _ _ ?_; clear hX X | intro hlen; unfold maxLen at hlen | apply And.intro; focus (first | omega | assumption | (repeat' apply And.intro) <;> first | omega | assumption)))
  refine callE (hx _) ?_
  simp -implicitDefEqProofs only [↓slp, slb, ↓reduceIte, reduceCtorEq, jA, jB, jC, jD, jE, jF, jG, jH, jI, jJ, jK, tfTmW, pI, c0]; try simp only [fo]
  (repeat (first | refine aSeq fun X hX => ?_ | refine aBlk ?_ | refine aSkip ?_ | (first | refine aExit ?_ | refine aRet ?_); try simp only [slx, ↓reduceIte, jA, reduceCtorEq] | (first | refine aReg ?_ | refine aDrE ?_ | refine aIf ?_); simp -implicitDefEqProofs only [forall_eq, ↓slp, slb, ↓reduceIte, reduceCtorEq, jA, jB, jC, jD, jE, jF, jG, jH, jI, jJ, jK, tfTmW, c0]; try simp only [fo] | refine hX _ _ ?_; clear hX X | clear hX X; refine hX _ _ ?_; clear hX X | clear hX X; clear hX X; refine hX _ _ ?_; clear hX X | intro hlen; unfold maxLen at hlen | apply And.intro; focus (first | omega | assumption | (repeat' apply And.intro) <;> first | omega | assumption)))
  simp only [aPost, Tryd.results26, aRes_n, aRes_t, aRes_c, pack_one, pack_two]
  exact leave_same rfl ⟨rfl, rfl⟩
set_option maxHeartbeats 1000000 in
theorem ctors_B (m : M) : ACalls Tryd.prog 26 [.sl .no [.ag colC], tyB.pv] m (fun v m' => v = .sl .no (([sFalse, sTrue] : List Str).map pS) ∧ m' = m) := by
  have c1 : ((1 : Int) == 1) = true := rfl
  unfold colC
  simp only [Ty.pv, tyB]
  refine ACalls.enter (mu := []) ok_mix Tryd.func26 rfl (by kernel_rfl) (by kernel_rfl) (by simp only [List.length_cons, List.length_nil, Tryd.ntmps26]; omega) ?_
  (repeat (first | refine aSeq fun X hX => ?_ | refine aBlk ?_ | refine aSkip ?_ | (first | refine aExit ?_ | refine aRet ?_); try simp only [slx, ↓reduceIte, jA, reduceCtorEq] | (first | refine aReg ?_ | refine aDrE ?_ | refine aIf ?_); simp -implicitDefEqProofs only [forall_eq, ↓slp, slb, ↓reduceIte, reduceCtorEq, jA, jB, jC, jD, jE, jF, jG, jH, jI, jJ, jK, tfTmW, c1]; try simp only [fo] | refine hX _ _ ?_; clear hX X | clear hX X; refine hX _ _ ?_; clear hX X | clear hX X; clear hX X; refine hX _ _ ?_; clear hX X | intro hlen; unfold maxLen at hlen | apply And.intro; focus (first | omega | assumption | (repeat' apply And.intro) <;> first | omega | assumption)))
  simp only [aPost, Tryd.results26, aRes_n, aRes_t, aRes_c, pack_one, pack_two]
  exact leave_same rfl ⟨rfl, rfl⟩
set_option maxHeartbeats 1000000 in
theorem idxEx_none (o : Own) (l : List Ex) (g : FuncId) (m : M) (hf : ∀ k (hk : k < l.length) (m : M), ACalls Tryd.prog g [l[k].pv] m (fun v m' => v = pB false ∧ m' = m)) :
    ACalls Tryd.prog 74 [.sl o (l.map Ex.pv), .fn (.func g) [] []] m (fun v m' => v = pI (-1) ∧ m' = m) := by
  refine ACalls.enter (mu := []) ok_mix Tryd.func74 rfl (by kernel_rfl) (by kernel_rfl) (by simp only [List.length_cons, List.length_nil, Tryd.ntmps74]; omega) ?_
  (repeat (first | refine aSeq fun X hX => ?_ | refine aBlk ?_ | refine aSkip ?_ | (first | refine aExit ?_ | refine aRet ?_); try simp only [slx, ↓reduceIte, jA, reduceCtorEq] | (first | refine aReg ?_ | refine aDrE ?_); simp -implicitDefEqProofs only [forall_eq, ↓slp, slb, ↓reduceIte, reduceCtorEq, jA, jB, jC, jD, jE, jF, jG, jH, jI, jJ, jK, tfTmW]; try simp only [fo] | refine hX _ _ ?_; clear hX X | clear hX X; refine hX _ _ ?_; clear hX X | clear hX X; clear hX X; refine hX _ _ ?_; clear hX X | intro hlen; unfold maxLen at hlen | apply And.intro; focus (first | omega | assumption | (repeat' apply And.intro) <;> first | omega | assumption)))
  obtain ⟨I, hI⟩ : ∃ I : F → M → Prop, ∀ f m', I f m' = (∃ k : Nat, k ≤ l.length ∧ f 0 = .sl o (l.map Ex.pv) ∧ f 1 = .fn (.func g) [] [] ∧ f 7 = pI l.length ∧ f 8 = pI k ∧ m' = m) := ⟨_, fun _ _ => rfl⟩
  refine aLoop I (fun f m => l.length - numOf (f 8)) ?_ ?_
  · rw [hI]; exact ⟨0, by omega, rfl, rfl, rfl, rfl, rfl⟩
  intro f m' hrel
  rw [hI] at hrel
  obtain ⟨k, hk, h0, h1, h7, h8, rfl⟩ := hrel
  cases c1 : decide ((k : Int) < (l.length : Int)) with
  | true =>
    have hlt : k < l.length := by simpa using c1
    have g0 := getD_map Ex.pv l k hlt
    have hi : IntKind.i64.wrap ((k : Int) + 1) = ((k + 1 : Nat) : Int) := by rw [wrap64 (by omega)]; omega
    have hme : numOf (f 8) = k := by rw [h8]; exact Int.toNat_natCast k
    (repeat (first | refine aSeq fun X hX => ?_ | refine aBlk ?_ | refine aSkip ?_ | (first | refine aExit ?_ | refine aRet ?_); try simp only [slx, ↓reduceIte, jA, reduceCtorEq] | (first | refine aReg ?_ | refine aIf ?_); simp -implicitDefEqProofs only [forall_eq, ↓slp, slb, ↓reduceIte, reduceCtorEq, jA, jB, jC, jD, jE, jF, jG, jH, jI, jJ, jK, tfTmW, h0, h1, h7, h8, pI, c1, g0]; try simp only [fo] | refine hX _ _ ?_; clear hX X | clear hX X; refine hX _ _ ?_; clear hX X | clear hX X; clear hX X; refine hX _ _ ?_; clear hX X | intro hlen; unfold maxLen at hlen | apply And.intro; focus (first | omega | assumption | (repeat' apply And.intro) <;> first | omega | assumption)))
    refine callE (hf k hlt _) ?_
    simp -implicitDefEqProofs only [↓slp, slb, ↓reduceIte, reduceCtorEq, jA, jB, jC, jD, jE, jF, jG, jH, jI, jJ, jK, tfTmW, pB]; try simp only [fo]
    (repeat (first | refine aSeq fun X hX => ?_ | refine aBlk ?_ | refine aSkip ?_ | (first | refine aExit ?_ | refine aRet ?_); try simp only [slx, ↓reduceIte, jA, reduceCtorEq] | (first | refine aReg ?_ | refine aIf ?_); simp -implicitDefEqProofs only [forall_eq, ↓slp, slb, ↓reduceIte, reduceCtorEq, jA, jB, jC, jD, jE, jF, jG, jH, jI, jJ, jK, tfTmW, h8, pI, hi]; try simp only [fo] | refine hX _ _ ?_; clear hX X | clear hX X; refine hX _ _ ?_; clear hX X | clear hX X; clear hX X; refine hX _ _ ?_; clear hX X | intro hlen; unfold maxLen at hlen | apply And.intro; focus (first | omega | assumption | (repeat' apply And.intro) <;> first | omega | assumption)))
    rw [hI]
    exact ⟨⟨k + 1, hlt, h0, h1, h7, rfl, rfl⟩, by omega⟩
  | false =>
    (repeat (first | refine aSeq fun X hX => ?_ | refine aBlk ?_ | refine aSkip ?_ | (first | refine aExit ?_ | refine aRet ?_); try simp only [slx, ↓reduceIte, jA, reduceCtorEq] | (first | refine aReg ?_ | refine aIf ?_); simp -implicitDefEqProofs only [forall_eq, ↓slp, slb, ↓reduceIte, reduceCtorEq, jA, jB, jC, jD, jE, jF, jG, jH, jI, jJ, jK, tfTmW, h0, h1, h7, h8, pI, c1]; try simp only [fo] | refine hX _ _ ?_; clear hX X | clear hX X; refine hX _ _ ?_; clear hX X | clear hX X; clear hX X; refine hX _ _ ?_; clear hX X | intro hlen; unfold maxLen at hlen | apply And.intro; focus (first | omega | assumption | (repeat' apply And.intro) <;> first | omega | assumption)))
    simp only [aPost, Tryd.results74, aRes_n, aRes_t, aRes_c, pack_one, pack_two]
    exact leave_same rfl ⟨rfl, rfl⟩
set_option maxHeartbeats 1000000 in
theorem conEx_none (o : Own) (l : List Ex) (g : FuncId) (m : M) (hf : ∀ k (hk : k < l.length) (m : M), ACalls Tryd.prog g [l[k].pv] m (fun v m' => v = pB false ∧ m' = m)) :
    ACalls Tryd.prog 55 [.sl o (l.map Ex.pv), .fn (.func g) [] []] m (fun v m' => v = pB false ∧ m' = m) := by
  have c0 : decide ((-1 : Int) ≥ 0) = false := rfl
  refine ACalls.enter (mu := []) ok_mix Tryd.func55 rfl (by kernel_rfl) (by kernel_rfl) (by simp only [List.length_cons, List.length_nil, Tryd.ntmps55]; omega) ?_
  (repeat (first | refine aSeq fun X hX => ?_ | refine aBlk ?_ | refine aSkip ?_ | (first | refine aExit ?_ | refine aRet ?_); try simp only [slx, ↓reduceIte, jA, reduceCtorEq] | (first | refine aReg ?_ | refine aDrE ?_); simp -implicitDefEqProofs only [forall_eq, ↓slp, slb, ↓reduceIte, reduceCtorEq, jA, jB, jC, jD, jE, jF, jG, jH, jI, jJ, jK, tfTmW]; try simp only [fo] | refine hX _ _ ?_; clear hX X | clear hX X; refine hX _ _ ?_; clear hX X | clear hX X; clear hX X; refine hX _ _ ?_; clear hX X | intro hlen; unfold maxLen at hlen | apply And.intro; focus (first | omega | assumption | (repeat' apply And.intro) <;> first | omega | assumption)))
  refine callE (idxEx_none _ l g _ hf) ?_
  simp -implicitDefEqProofs only [↓slp, slb, ↓reduceIte, reduceCtorEq, jA, jB, jC, jD, jE, jF, jG, jH, jI, jJ, jK, tfTmW, pI, c0]; try simp only [fo]
  (repeat (first | refine aSeq fun X hX => ?_ | refine aBlk ?_ | refine aSkip ?_ | (first | refine aExit ?_ | refine aRet ?_); try simp only [slx, ↓reduceIte, jA, reduceCtorEq] | (first | refine aReg ?_ | refine aDrE ?_); simp -implicitDefEqProofs only [forall_eq, ↓slp, slb, ↓reduceIte, reduceCtorEq, jA, jB, jC, jD, jE, jF, jG, jH, jI, jJ, jK, tfTmW, c0]; try simp only [fo] | refine hX _ _ ?_; clear hX X | clear hX X; refine hX _ _ ?_; clear hX X | clear hX X; clear hX X; refine hX _ _ ?_; clear hX X | intro hlen; unfold maxLen at hlen | apply And.intro; focus (first | omega | assumption | (repeat' apply And.intro) <;> first | omega | assumption)))
  simp only [aPost, Tryd.results55, aRes_n, aRes_t, aRes_c, pack_one, pack_two]
  exact leave_same rfl ⟨rfl, rfl⟩
def StC (e : Ex) : Prop := ∀ m : M, ACalls Tryd.prog 27 [e.pv] m (fun v m' => v = pB true ∧ m' = m)
set_option maxHeartbeats 1000000 in
theorem stC_clo {e : Ex} (h : StC e) (m : M) : ACalls Tryd.prog 56 [e.pv] m (fun v m' => v = pB false ∧ m' = m) := by
  refine ACalls.enter (mu := []) ok_mix Tryd.func56 rfl (by kernel_rfl) (by kernel_rfl) (by simp only [List.length_cons, List.length_nil, Tryd.ntmps56]; omega) ?_
  (repeat (first | refine aSeq fun X hX => ?_ | refine aBlk ?_ | refine aSkip ?_ | (first | refine aExit ?_ | refine aRet ?_); try simp only [slx, ↓reduceIte, jA, reduceCtorEq] | (first | refine aReg ?_ | refine aIf ?_); simp -implicitDefEqProofs only [forall_eq, ↓slp, slb, ↓reduceIte, reduceCtorEq, jA, jB, jC, jD, jE, jF, jG, jH, jI, jJ, jK, tfTmW]; try simp only [fo] | refine hX _ _ ?_; clear hX X | clear hX X; refine hX _ _ ?_; clear hX X | clear hX X; clear hX X; refine hX _ _ ?_; clear hX X | intro hlen; unfold maxLen at hlen | apply And.intro; focus (first | omega | assumption | (repeat' apply And.intro) <;> first | omega | assumption)))
  refine callE (h _) ?_
  simp -implicitDefEqProofs only [↓slp, slb, ↓reduceIte, reduceCtorEq, jA, jB, jC, jD, jE, jF, jG, jH, jI, jJ, jK, tfTmW, pB]; try simp only [fo]
  (repeat (first | refine aSeq fun X hX => ?_ | refine aBlk ?_ | refine aSkip ?_ | (first | refine aExit ?_ | refine aRet ?_); try simp only [slx, ↓reduceIte, jA, reduceCtorEq] | (first | refine aReg ?_ | refine aIf ?_); simp -implicitDefEqProofs only [forall_eq, ↓slp, slb, ↓reduceIte, reduceCtorEq, jA, jB, jC, jD, jE, jF, jG, jH, jI, jJ, jK, tfTmW]; try simp only [fo] | refine hX _ _ ?_; clear hX X | clear hX X; refine hX _ _ ?_; clear hX X | clear hX X; clear hX X; refine hX _ _ ?_; clear hX X | intro hlen; unfold maxLen at hlen | apply And.intro; focus (first | omega | assumption | (repeat' apply And.intro) <;> first | omega | assumption)))
  simp only [aPost, Tryd.results56, aRes_n, aRes_t, aRes_c, pack_one, pack_two]
  exact leave_same rfl ⟨rfl, rfl⟩
set_option maxHeartbeats 1000000 in
theorem st_step {e : Ex} (h : e.kind ≠ 9 ∧ e.kind ≠ 10 ∧ e.kind ≠ 11) (hk : ∀ i (h : i < e.kids.length), StC e.kids[i]) : StC e := by
  intro m
  have c9 : (e.kind == 9) = false := by simp [h.1]
  have c10 : (e.kind == 10) = false := by simp [h.2.1]
  have c11 : (e.kind == 11) = false := by simp [h.2.2]
  refine ACalls.enter (mu := []) ok_mix Tryd.func27 rfl (by kernel_rfl) (by kernel_rfl) (by simp only [List.length_cons, List.length_nil, Tryd.ntmps27]; omega) ?_
  (repeat (first | refine aSeq fun X hX => ?_ | refine aBlk ?_ | refine aSkip ?_ | (first | refine aExit ?_ | refine aRet ?_); try simp only [slx, ↓reduceIte, jA, reduceCtorEq] | (first | refine aReg ?_ | refine aDrE ?_ | refine aIf ?_); simp -implicitDefEqProofs only [forall_eq, ↓slp, slb, ↓reduceIte, reduceCtorEq, jA, jB, jC, jD, jE, jF, jG, jH, jI, jJ, jK, tfTmW, c9, c10, c11]; try simp only [fo] | refine hX _ _ ?_; clear hX X | clear hX X; refine hX _ _ ?_; clear hX X | clear hX X; clear hX X; refine hX _ _ ?_; clear hX X | intro hlen; unfold maxLen at hlen | apply And.intro; focus (first | omega | assumption | (repeat' apply And.intro) <;> first | omega | assumption)))
  refine callE (conEx_none _ e.kids _ _ (fun k hk' m => stC_clo (hk k hk') m)) ?_
  simp -implicitDefEqProofs only [↓slp, slb, ↓reduceIte, reduceCtorEq, jA, jB, jC, jD, jE, jF, jG, jH, jI, jJ, jK, tfTmW, pB]; try simp only [fo]
  (repeat (first | refine aSeq fun X hX => ?_ | refine aBlk ?_ | refine aSkip ?_ | (first | refine aExit ?_ | refine aRet ?_); try simp only [slx, ↓reduceIte, jA, reduceCtorEq] | (first | refine aReg ?_ | refine aDrE ?_ | refine aIf ?_); simp -implicitDefEqProofs only [forall_eq, ↓slp, slb, ↓reduceIte, reduceCtorEq, jA, jB, jC, jD, jE, jF, jG, jH, jI, jJ, jK, tfTmW]; try simp only [fo] | refine hX _ _ ?_; clear hX X | clear hX X; refine hX _ _ ?_; clear hX X | clear hX X; clear hX X; refine hX _ _ ?_; clear hX X | intro hlen; unfold maxLen at hlen | apply And.intro; focus (first | omega | assumption | (repeat' apply And.intro) <;> first | omega | assumption)))
  simp only [aPost, Tryd.results27, aRes_n, aRes_t, aRes_c, pack_one, pack_two]
  exact leave_same rfl ⟨rfl, rfl⟩
theorem st_any {e : Ex} (h : Stl e) : StC e := by
  induction h with
  | mk h _ ih => exact st_step h ih
end Go.Proofs.YticdboelpgalpaaDoor

/-
  types: operators, merges, expressions, ways.
-/
set_option linter.unusedVariables false
set_option linter.unusedSimpArgs false
namespace Go.Proofs.YticdboelpgalpaaDoor
open Nat renaming reduceEqDiff → jA, reduceAdd → jB, reduceMul → jC, reduceLT → jD, reduceLeDiff → jE, reduceBEq → jF, reduceBNe → jG
open Int renaming reduceLE → jH, reduceLT → jI, reduceToNat → jJ, reduceEq → jK
open Go
set_option maxRecDepth 20000
set_option linter.defProp false
def tfTmE := tfTmW

theorem ty_len (l : List Ty) : ∀ x ∈ l.map Ty.pv, x.cells.length = 2 := fun x hx => by
  obtain ⟨s, _, rfl⟩ := List.mem_map.1 hx; rfl
set_option maxHeartbeats 4000000 in
theorem operator_ty {e : Ex} {Ts : List Ty} {i o : Int} {u : Ty} (ho : opT e.op = some (i, o)) (hu : ∀ x ∈ Ts, x = u) (hi : i = 0 ∨ u.kind = i) (m : M) :
    ACalls Tryd.prog 24 [e.pv, .sl .no (Ts.map Ty.pv)] m (fun v m' => v = Ty.pv ⟨o, sE⟩ ∧ m' = m) := by
  have ht := types_run ho
  refine ACalls.enter (mu := [4]) ok_mix Tryd.func24 rfl (by kernel_rfl) (by kernel_rfl) (by simp only [List.length_cons, List.length_nil, Tryd.ntmps24]; omega) ?_
  (repeat (first | refine aSeq fun X hX => ?_ | refine aBlk ?_ | refine aSkip ?_ | (first | refine aExit ?_ | refine aRet ?_); try simp only [slx, ↓reduceIte, jA, reduceCtorEq] | (first | refine aReg ?_ | refine aIf ?_); simp -implicitDefEqProofs only [forall_eq, ↓slp, slb, ↓reduceIte, reduceCtorEq, jA, jB, jC, jD, jE, jF, jG, jH, jI, jJ, jK, tfTmE]; try simp only [fo] | refine hX _ _ ?_; clear hX X | clear hX X; refine hX _ _ ?_; clear hX X | clear hX X; clear hX X; refine hX _ _ ?_; clear hX X | intro hlen; unfold maxLen at hlen | apply And.intro; focus (first | omega | assumption | (repeat' apply And.intro) <;> first | omega | assumption)))
  refine callE (ht _) ?_
  simp -implicitDefEqProofs only [↓slp, slb, ↓reduceIte, reduceCtorEq, jA, jB, jC, jD, jE, jF, jG, jH, jI, jJ, jK, tfTmE]; try simp only [fo]
  (repeat (first | refine aSeq fun X hX => ?_ | refine aBlk ?_ | refine aSkip ?_ | (first | refine aExit ?_ | refine aRet ?_); try simp only [slx, ↓reduceIte, jA, reduceCtorEq] | (first | refine aReg ?_ | refine aIf ?_); simp -implicitDefEqProofs only [forall_eq, ↓slp, slb, ↓reduceIte, reduceCtorEq, jA, jB, jC, jD, jE, jF, jG, jH, jI, jJ, jK, tfTmE]; try simp only [fo] | refine hX _ _ ?_; clear hX X | clear hX X; refine hX _ _ ?_; clear hX X | clear hX X; clear hX X; refine hX _ _ ?_; clear hX X | intro hlen; unfold maxLen at hlen | apply And.intro; focus (first | omega | assumption | (repeat' apply And.intro) <;> first | omega | assumption)))
  obtain ⟨mc, hmc⟩ : ∃ mc, m.ext [some [PV.v (.int .u8 0), PV.v (.string ⟨#[]⟩)]] = mc := ⟨_, rfl⟩
  obtain ⟨I, hI⟩ : ∃ I : F → M → Prop, ∀ f m', I f m' = (∃ k : Nat, k ≤ Ts.length ∧ f 1 = .sl .no (Ts.map Ty.pv) ∧ f 2 = .ep e.cs ∧ f 4 = .bp m.nb 0 ∧ f 5 = .v (.int .u8 i) ∧ f 6 = .v (.int .u8 o) ∧ f 15 = .sl .no (Ts.map Ty.pv) ∧ f 16 = pI Ts.length ∧ f 17 = pI k ∧ m' = mc) := ⟨_, fun _ _ => rfl⟩
  refine aLoop I (fun f m => Ts.length - numOf (f 17)) ?_ ?_
  · rw [hI]; exact ⟨0, by omega, rfl, rfl, rfl, rfl, rfl, rfl, rfl, rfl, hmc⟩
  intro f m' hrel
  rw [hI] at hrel
  obtain ⟨k, hk, f1, f2, f4, f5, f6, f15, f16, f17, rfl⟩ := hrel
  cases c1 : decide ((k : Int) < (Ts.length : Int)) with
  | true =>
    have hlt : k < Ts.length := by simpa using c1
    have g0 := getD_map Ty.pv Ts k hlt
    have g1 := getD_map Ty.pv Ts 0 (by omega)
    rw [hu Ts[k] (List.getElem_mem hlt)] at g0
    rw [hu Ts[0] (List.getElem_mem (by omega))] at g1
    have hl0 : 0 < Ts.length := by omega
    have hin : IntKind.i64.wrap ((k : Int) + 1) = ((k + 1 : Nat) : Int) := by rw [wrap64 (by omega)]; omega
    have hme : numOf (f 17) = k := by rw [f17]; exact Int.toNat_natCast k
    have e1 : (u.name.toList == u.name.toList) = true := by simp
    have e2 : (u.kind == u.kind) = true := by simp
    have hII : I (f.put (some 17) (pI ((k + 1 : Nat) : Int))) m' → True := fun _ => trivial
    by_cases h0 : i = 0
    · subst h0
      have c2 : ((0 : Int) == 0) = true := rfl
      (repeat (first | refine aSeq fun X hX => ?_ | refine aBlk ?_ | refine aSkip ?_ | (first | refine aExit ?_ | refine aRet ?_); try simp only [slx, ↓reduceIte, jA, reduceCtorEq] | (first | refine aReg ?_ | refine aIf ?_); simp -implicitDefEqProofs only [forall_eq, ↓slp, slb, ↓reduceIte, reduceCtorEq, jA, jB, jC, jD, jE, jF, jG, jH, jI, jJ, jK, tfTmE, f1, f2, f4, f5, f6, f15, f16, f17, pI, c1, g0, g1]; try simp only [fo] | refine hX _ _ ?_; clear hX X | clear hX X; refine hX _ _ ?_; clear hX X | clear hX X; clear hX X; refine hX _ _ ?_; clear hX X | intro hlen; unfold maxLen at hlen | apply And.intro; focus (first | omega | assumption | (repeat' apply And.intro) <;> first | omega | assumption)))
      (repeat (first | refine aSeq fun X hX => ?_ | refine aBlk ?_ | refine aSkip ?_ | (first | refine aExit ?_ | refine aRet ?_); try simp only [slx, ↓reduceIte, jA, reduceCtorEq] | (first | refine aReg ?_ | refine aDrE ?_ | refine aIf ?_); simp -implicitDefEqProofs only [forall_eq, ↓slp, slb, ↓reduceIte, reduceCtorEq, jA, jB, jC, jD, jE, jF, jG, jH, jI, jJ, jK, tfTmE, f1, f2, f4, f5, f6, f15, f16, f17, pI, c1, g0, g1, c2, e1, e2, hl0, hin]; try simp only [fo] | refine hX _ _ ?_; clear hX X | clear hX X; refine hX _ _ ?_; clear hX X | clear hX X; clear hX X; refine hX _ _ ?_; clear hX X | intro hlen; unfold maxLen at hlen | apply And.intro; focus (first | omega | assumption | (repeat' apply And.intro) <;> first | omega | assumption)))
      rw [hI]
      exact ⟨⟨k + 1, hlt, f1, f2, f4, f5, f6, f15, f16, rfl, rfl⟩, by omega⟩
    · have c2 : (i == 0) = false := by simp [h0]
      have hk2 : u.kind = i := hi.resolve_left h0
      have c3 : (u.kind == i) = true := by simp [hk2]
      (repeat (first | refine aSeq fun X hX => ?_ | refine aBlk ?_ | refine aSkip ?_ | (first | refine aExit ?_ | refine aRet ?_); try simp only [slx, ↓reduceIte, jA, reduceCtorEq] | (first | refine aReg ?_ | refine aIf ?_); simp -implicitDefEqProofs only [forall_eq, ↓slp, slb, ↓reduceIte, reduceCtorEq, jA, jB, jC, jD, jE, jF, jG, jH, jI, jJ, jK, tfTmE, f1, f2, f4, f5, f6, f15, f16, f17, pI, c1, g0, g1]; try simp only [fo] | refine hX _ _ ?_; clear hX X | clear hX X; refine hX _ _ ?_; clear hX X | clear hX X; clear hX X; refine hX _ _ ?_; clear hX X | intro hlen; unfold maxLen at hlen | apply And.intro; focus (first | omega | assumption | (repeat' apply And.intro) <;> first | omega | assumption)))
      (repeat (first | refine aSeq fun X hX => ?_ | refine aBlk ?_ | refine aSkip ?_ | (first | refine aExit ?_ | refine aRet ?_); try simp only [slx, ↓reduceIte, jA, reduceCtorEq] | (first | refine aReg ?_ | refine aDrE ?_ | refine aIf ?_); simp -implicitDefEqProofs only [forall_eq, ↓slp, slb, ↓reduceIte, reduceCtorEq, jA, jB, jC, jD, jE, jF, jG, jH, jI, jJ, jK, tfTmE, f1, f2, f4, f5, f6, f15, f16, f17, pI, c1, g0, g1, c2, c3, e1, e2, hl0, hin]; try simp only [fo] | refine hX _ _ ?_; clear hX X | clear hX X; refine hX _ _ ?_; clear hX X | clear hX X; clear hX X; refine hX _ _ ?_; clear hX X | intro hlen; unfold maxLen at hlen | apply And.intro; focus (first | omega | assumption | (repeat' apply And.intro) <;> first | omega | assumption)))
      rw [hI]
      exact ⟨⟨k + 1, hlt, f1, f2, f4, f5, f6, f15, f16, rfl, rfl⟩, by omega⟩
  | false =>
    rw [← hmc]
    (repeat (first | refine aSeq fun X hX => ?_ | refine aBlk ?_ | refine aSkip ?_ | (first | refine aExit ?_ | refine aRet ?_); try simp only [slx, ↓reduceIte, jA, reduceCtorEq] | (first | refine aReg ?_ | refine aIf ?_); simp -implicitDefEqProofs only [forall_eq, ↓slp, slb, ↓reduceIte, reduceCtorEq, jA, jB, jC, jD, jE, jF, jG, jH, jI, jJ, jK, tfTmE, f1, f2, f4, f5, f6, f15, f16, f17, pI, c1]; try simp only [fo] | refine hX _ _ ?_; clear hX X | clear hX X; refine hX _ _ ?_; clear hX X | clear hX X; clear hX X; refine hX _ _ ?_; clear hX X | intro hlen; unfold maxLen at hlen | apply And.intro; focus (first | omega | assumption | (repeat' apply And.intro) <;> first | omega | assumption)))
    simp only [aPost, Tryd.results24, aRes_n, aRes_t, aRes_c, pack_one, pack_two]
    simp -implicitDefEqProofs only [↓slp, slb, ↓reduceIte, reduceCtorEq, jA, jB, jC, jD, jE, jF, jG, jH, jI, jJ, jK, tfTmE, f4]; try simp only [fo]
    exact leave_ext rfl ⟨rfl, rfl⟩
def lkP (ns : List No) : PV := .ep [.sl .no [.ag colC], .sl .no (ns.map No.pv)]
theorem sn_mk (k o n : Int) (nm : Str) (ns : List Str) (ks : List Ex) (ln cl : Int) : (Ex.mk k o n nm ns ks ln cl).pv = .ag [.v (.int .u8 k), .v (.int .u8 o), .v (.int .i32 n), .v (.string nm), .sl .no (ns.map pS), .sl .no (ks.map Ex.pv), .v (.int .i64 ln), .v (.int .i64 cl)] := by rw [Ex.pv_eq]; rfl
set_option maxHeartbeats 4000000 in
theorem merge_ty (ns : List No) {E : List Va} {kd o n : Int} {nm : Str} {ks : List Ex} {ln cl : Int} {t : Ty} (hty : TyOf E nm tyC) (m : M) :
    ACalls Tryd.prog 28 [lkP ns, .sl .no (E.map Va.pv), (Ex.mk kd o n nm [sGreen, sRed, sBlue] ks ln cl).pv, .sl .no [t.pv, t.pv, t.pv]] m (unit m) := by
  have hof := fun m => of_ty hty m
  have hct := fun m => ctors_C m
  have hc1 := fun m => contains_any .no cols sGreen m
  have hc2 := fun m => contains_any .no cols sRed m
  have hc3 := fun m => contains_any .no cols sBlue m
  have hd1 := fun m => contains_any .no [] sGreen m
  have hd2 := fun m => contains_any .no [sGreen] sRed m
  have hd3 := fun m => contains_any .no [sGreen, sRed] sBlue m
  rw [(hasS_iff _ _).2 (by simp)] at hc1 hc2 hc3
  rw [show hasS [] sGreen = false by rfl] at hd1
  rw [show hasS [sGreen] sRed = false by decide +kernel] at hd2
  rw [show hasS [sGreen, sRed] sBlue = false by decide +kernel] at hd3
  rw [sn_mk]
  unfold lkP
  unfold colC at hct ⊢
  simp only [tyC, Ty.pv, cols, List.map_cons, List.map_nil] at *
  have e1 : (t.name.toList == t.name.toList) = true := by simp
  have e2 : (t.kind == t.kind) = true := by simp
  refine ACalls.enter (mu := []) ok_mix Tryd.func28 rfl (by kernel_rfl) (by kernel_rfl) (by simp only [List.length_cons, List.length_nil, Tryd.ntmps28]; omega) ?_
  (repeat (first | refine aSeq fun X hX => ?_ | refine aBlk ?_ | refine aSkip ?_ | (first | refine aExit ?_ | refine aRet ?_); try simp only [slx, ↓reduceIte, jA, reduceCtorEq] | (first | refine aReg ?_ | refine aIf ?_); simp -implicitDefEqProofs only [forall_eq, ↓slp, slb, ↓reduceIte, reduceCtorEq, jA, jB, jC, jD, jE, jF, jG, jH, jI, jJ, jK, tfTmE]; try simp only [fo] | refine hX _ _ ?_; clear hX X | clear hX X; refine hX _ _ ?_; clear hX X | clear hX X; clear hX X; refine hX _ _ ?_; clear hX X | intro hlen; unfold maxLen at hlen | apply And.intro; focus (first | omega | assumption | (repeat' apply And.intro) <;> first | omega | assumption)))
  (repeat (first | refine aSeq fun X hX => ?_ | refine aBlk ?_ | refine aSkip ?_ | (first | refine aExit ?_ | refine aRet ?_); try simp only [slx, ↓reduceIte, jA, reduceCtorEq] | (first | refine aReg ?_ | refine aDrE ?_ | refine aIf ?_); simp -implicitDefEqProofs only [forall_eq, ↓slp, slb, ↓reduceIte, reduceCtorEq, jA, jB, jC, jD, jE, jF, jG, jH, jI, jJ, jK, tfTmE]; try simp only [fo] | refine hX _ _ ?_; clear hX X | clear hX X; refine hX _ _ ?_; clear hX X | clear hX X; clear hX X; refine hX _ _ ?_; clear hX X | intro hlen; unfold maxLen at hlen | apply And.intro; focus (first | omega | assumption | (repeat' apply And.intro) <;> first | omega | assumption)))
  refine callE (hof _) ?_
  simp -implicitDefEqProofs only [↓slp, slb, ↓reduceIte, reduceCtorEq, jA, jB, jC, jD, jE, jF, jG, jH, jI, jJ, jK, tfTmE]; try simp only [fo]
  refine callE (hct _) ?_
  simp -implicitDefEqProofs only [↓slp, slb, ↓reduceIte, reduceCtorEq, jA, jB, jC, jD, jE, jF, jG, jH, jI, jJ, jK, tfTmE]; try simp only [fo]
  (repeat (first | refine aSeq fun X hX => ?_ | refine aBlk ?_ | refine aSkip ?_ | (first | refine aExit ?_ | refine aRet ?_); try simp only [slx, ↓reduceIte, jA, reduceCtorEq] | (first | refine aReg ?_ | refine aDrE ?_ | refine aIf ?_); simp -implicitDefEqProofs only [forall_eq, ↓slp, slb, ↓reduceIte, reduceCtorEq, jA, jB, jC, jD, jE, jF, jG, jH, jI, jJ, jK, tfTmE]; try simp only [fo] | refine hX _ _ ?_; clear hX X | clear hX X; refine hX _ _ ?_; clear hX X | clear hX X; clear hX X; refine hX _ _ ?_; clear hX X | intro hlen; unfold maxLen at hlen | apply And.intro; focus (first | omega | assumption | (repeat' apply And.intro) <;> first | omega | assumption)))
  obtain ⟨I, hI⟩ : ∃ I : F → M → Prop, ∀ f m', I f m' = (∃ k : Nat, k ≤ 3 ∧ f 3 = .sl .no [.ag [.v (.int .u8 t.kind), .v (.string t.name)], .ag [.v (.int .u8 t.kind), .v (.string t.name)], .ag [.v (.int .u8 t.kind), .v (.string t.name)]] ∧ f 6 = .ep [.v (.int .u8 kd), .v (.int .u8 o), .v (.int .i32 n), .v (.string nm), .sl .no [pS sGreen, pS sRed, pS sBlue], .sl .no (ks.map Ex.pv), .v (.int .i64 ln), .v (.int .i64 cl)] ∧ f 8 = .sl .no [pS sRed, pS sGreen, pS sBlue] ∧ f 22 = .sl .no [pS sGreen, pS sRed, pS sBlue] ∧ f 23 = pI 3 ∧ f 24 = pI k ∧ m = m') := ⟨_, fun _ _ => rfl⟩
  refine aLoop I (fun f m => 3 - numOf (f 24)) ?_ ?_
  · rw [hI]; exact ⟨0, by omega, rfl, rfl, rfl, rfl, rfl, rfl, rfl⟩
  intro f m' hrel
  rw [hI] at hrel
  obtain ⟨k, hk, f3, f6, f8, f22, f23, f24, rfl⟩ := hrel
  by_cases hk3 : k = 3
  · subst hk3
    have c1 : decide (((3 : Nat) : Int) < 3) = false := rfl
    (repeat (first | refine aSeq fun X hX => ?_ | refine aBlk ?_ | refine aSkip ?_ | (first | refine aExit ?_ | refine aRet ?_); try simp only [slx, ↓reduceIte, jA, reduceCtorEq] | (first | refine aReg ?_ | refine aIf ?_); simp -implicitDefEqProofs only [forall_eq, ↓slp, slb, ↓reduceIte, reduceCtorEq, jA, jB, jC, jD, jE, jF, jG, jH, jI, jJ, jK, tfTmE, f3, f6, f8, f22, f23, f24, pI, c1]; try simp only [fo] | refine hX _ _ ?_; clear hX X | clear hX X; refine hX _ _ ?_; clear hX X | clear hX X; clear hX X; refine hX _ _ ?_; clear hX X | intro hlen; unfold maxLen at hlen | apply And.intro; focus (first | omega | assumption | (repeat' apply And.intro) <;> first | omega | assumption)))
    simp only [aPost, Tryd.results28, aRes_n, aRes_t, aRes_c, pack_one, pack_two]
    exact leave_same rfl ⟨rfl, rfl⟩
  · have : k = 0 ∨ k = 1 ∨ k = 2 := by omega
    rcases this with rfl | rfl | rfl
    · have hi : IntKind.i64.wrap (((0 : Nat) : Int) + 1) = ((0 + 1 : Nat) : Int) := by rw [wrap64 (by omega)]; omega
      have c1 : decide (((0 : Nat) : Int) < 3) = true := rfl
      have hme : numOf (f 24) = 0 := by rw [f24]; rfl
      (repeat (first | refine aSeq fun X hX => ?_ | refine aBlk ?_ | refine aSkip ?_ | (first | refine aExit ?_ | refine aRet ?_); try simp only [slx, ↓reduceIte, jA, reduceCtorEq] | (first | refine aReg ?_ | refine aIf ?_); simp -implicitDefEqProofs only [forall_eq, ↓slp, slb, ↓reduceIte, reduceCtorEq, jA, jB, jC, jD, jE, jF, jG, jH, jI, jJ, jK, tfTmE, f3, f6, f8, f22, f23, f24, pI, pS, c1]; try simp only [fo] | refine hX _ _ ?_; clear hX X | clear hX X; refine hX _ _ ?_; clear hX X | clear hX X; clear hX X; refine hX _ _ ?_; clear hX X | intro hlen; unfold maxLen at hlen | apply And.intro; focus (first | omega | assumption | (repeat' apply And.intro) <;> first | omega | assumption)))
      (repeat (first | refine aSeq fun X hX => ?_ | refine aBlk ?_ | refine aSkip ?_ | (first | refine aExit ?_ | refine aRet ?_); try simp only [slx, ↓reduceIte, jA, reduceCtorEq] | (first | refine aReg ?_ | refine aDrE ?_ | refine aIf ?_); simp -implicitDefEqProofs only [forall_eq, ↓slp, slb, ↓reduceIte, reduceCtorEq, jA, jB, jC, jD, jE, jF, jG, jH, jI, jJ, jK, tfTmE, f3, f6, f8, f22, f23, f24, pI, pS, c1]; try simp only [fo] | refine hX _ _ ?_; clear hX X | clear hX X; refine hX _ _ ?_; clear hX X | clear hX X; clear hX X; refine hX _ _ ?_; clear hX X | intro hlen; unfold maxLen at hlen | apply And.intro; focus (first | omega | assumption | (repeat' apply And.intro) <;> first | omega | assumption)))
      refine callE (hc1 _) ?_
      simp -implicitDefEqProofs only [↓slp, slb, ↓reduceIte, reduceCtorEq, jA, jB, jC, jD, jE, jF, jG, jH, jI, jJ, jK, tfTmE, pB, f3, f6, f8, f22, f23, f24, pI, pS, e1, e2]; try simp only [fo]

      refine ⟨⟨by omega, _, rfl, rfl⟩, callE (hd1 _) ?_⟩
      simp -implicitDefEqProofs only [↓slp, slb, ↓reduceIte, reduceCtorEq, jA, jB, jC, jD, jE, jF, jG, jH, jI, jJ, jK, tfTmE, pB, f3, f6, f8, f22, f23, f24, pI, pS, e1, e2]; try simp only [fo]
      (repeat (first | refine aSeq fun X hX => ?_ | refine aBlk ?_ | refine aSkip ?_ | (first | refine aExit ?_ | refine aRet ?_); try simp only [slx, ↓reduceIte, jA, reduceCtorEq] | (first | refine aReg ?_ | refine aDrE ?_ | refine aIf ?_); simp -implicitDefEqProofs only [forall_eq, ↓slp, slb, ↓reduceIte, reduceCtorEq, jA, jB, jC, jD, jE, jF, jG, jH, jI, jJ, jK, tfTmE, f3, f6, f8, f22, f23, f24, pI, pS, e1, e2, hi]; try simp only [fo] | refine hX _ _ ?_; clear hX X | clear hX X; refine hX _ _ ?_; clear hX X | clear hX X; clear hX X; refine hX _ _ ?_; clear hX X | intro hlen; unfold maxLen at hlen | apply And.intro; focus (first | omega | assumption | (repeat' apply And.intro) <;> first | omega | assumption)))
      rw [hI]
      exact ⟨0 + 1, by omega, f3, f6, f8, f22, f23, rfl, rfl⟩
    · have hi : IntKind.i64.wrap (((1 : Nat) : Int) + 1) = ((1 + 1 : Nat) : Int) := by rw [wrap64 (by omega)]; omega
      have c1 : decide (((1 : Nat) : Int) < 3) = true := rfl
      have hme : numOf (f 24) = 1 := by rw [f24]; rfl
      (repeat (first | refine aSeq fun X hX => ?_ | refine aBlk ?_ | refine aSkip ?_ | (first | refine aExit ?_ | refine aRet ?_); try simp only [slx, ↓reduceIte, jA, reduceCtorEq] | (first | refine aReg ?_ | refine aIf ?_); simp -implicitDefEqProofs only [forall_eq, ↓slp, slb, ↓reduceIte, reduceCtorEq, jA, jB, jC, jD, jE, jF, jG, jH, jI, jJ, jK, tfTmE, f3, f6, f8, f22, f23, f24, pI, pS, c1]; try simp only [fo] | refine hX _ _ ?_; clear hX X | clear hX X; refine hX _ _ ?_; clear hX X | clear hX X; clear hX X; refine hX _ _ ?_; clear hX X | intro hlen; unfold maxLen at hlen | apply And.intro; focus (first | omega | assumption | (repeat' apply And.intro) <;> first | omega | assumption)))
      (repeat (first | refine aSeq fun X hX => ?_ | refine aBlk ?_ | refine aSkip ?_ | (first | refine aExit ?_ | refine aRet ?_); try simp only [slx, ↓reduceIte, jA, reduceCtorEq] | (first | refine aReg ?_ | refine aDrE ?_ | refine aIf ?_); simp -implicitDefEqProofs only [forall_eq, ↓slp, slb, ↓reduceIte, reduceCtorEq, jA, jB, jC, jD, jE, jF, jG, jH, jI, jJ, jK, tfTmE, f3, f6, f8, f22, f23, f24, pI, pS, c1]; try simp only [fo] | refine hX _ _ ?_; clear hX X | clear hX X; refine hX _ _ ?_; clear hX X | clear hX X; clear hX X; refine hX _ _ ?_; clear hX X | intro hlen; unfold maxLen at hlen | apply And.intro; focus (first | omega | assumption | (repeat' apply And.intro) <;> first | omega | assumption)))
      refine callE (hc2 _) ?_
      simp -implicitDefEqProofs only [↓slp, slb, ↓reduceIte, reduceCtorEq, jA, jB, jC, jD, jE, jF, jG, jH, jI, jJ, jK, tfTmE, pB, f3, f6, f8, f22, f23, f24, pI, pS, e1, e2]; try simp only [fo]

      refine ⟨⟨by omega, _, rfl, rfl⟩, callE (hd2 _) ?_⟩
      simp -implicitDefEqProofs only [↓slp, slb, ↓reduceIte, reduceCtorEq, jA, jB, jC, jD, jE, jF, jG, jH, jI, jJ, jK, tfTmE, pB, f3, f6, f8, f22, f23, f24, pI, pS, e1, e2]; try simp only [fo]
      (repeat (first | refine aSeq fun X hX => ?_ | refine aBlk ?_ | refine aSkip ?_ | (first | refine aExit ?_ | refine aRet ?_); try simp only [slx, ↓reduceIte, jA, reduceCtorEq] | (first | refine aReg ?_ | refine aDrE ?_ | refine aIf ?_); simp -implicitDefEqProofs only [forall_eq, ↓slp, slb, ↓reduceIte, reduceCtorEq, jA, jB, jC, jD, jE, jF, jG, jH, jI, jJ, jK, tfTmE, f3, f6, f8, f22, f23, f24, pI, pS, e1, e2, hi]; try simp only [fo] | refine hX _ _ ?_; clear hX X | clear hX X; refine hX _ _ ?_; clear hX X | clear hX X; clear hX X; refine hX _ _ ?_; clear hX X | intro hlen; unfold maxLen at hlen | apply And.intro; focus (first | omega | assumption | (repeat' apply And.intro) <;> first | omega | assumption)))
      rw [hI]
      exact ⟨1 + 1, by omega, f3, f6, f8, f22, f23, rfl, rfl⟩
    · have hi : IntKind.i64.wrap (((2 : Nat) : Int) + 1) = ((2 + 1 : Nat) : Int) := by rw [wrap64 (by omega)]; omega
      have c1 : decide (((2 : Nat) : Int) < 3) = true := rfl
      have hme : numOf (f 24) = 2 := by rw [f24]; rfl
      (repeat (first | refine aSeq fun X hX => ?_ | refine aBlk ?_ | refine aSkip ?_ | (first | refine aExit ?_ | refine aRet ?_); try simp only [slx, ↓reduceIte, jA, reduceCtorEq] | (first | refine aReg ?_ | refine aIf ?_); simp -implicitDefEqProofs only [forall_eq, ↓slp, slb, ↓reduceIte, reduceCtorEq, jA, jB, jC, jD, jE, jF, jG, jH, jI, jJ, jK, tfTmE, f3, f6, f8, f22, f23, f24, pI, pS, c1]; try simp only [fo] | refine hX _ _ ?_; clear hX X | clear hX X; refine hX _ _ ?_; clear hX X | clear hX X; clear hX X; refine hX _ _ ?_; clear hX X | intro hlen; unfold maxLen at hlen | apply And.intro; focus (first | omega | assumption | (repeat' apply And.intro) <;> first | omega | assumption)))
      (repeat (first | refine aSeq fun X hX => ?_ | refine aBlk ?_ | refine aSkip ?_ | (first | refine aExit ?_ | refine aRet ?_); try simp only [slx, ↓reduceIte, jA, reduceCtorEq] | (first | refine aReg ?_ | refine aDrE ?_ | refine aIf ?_); simp -implicitDefEqProofs only [forall_eq, ↓slp, slb, ↓reduceIte, reduceCtorEq, jA, jB, jC, jD, jE, jF, jG, jH, jI, jJ, jK, tfTmE, f3, f6, f8, f22, f23, f24, pI, pS, c1]; try simp only [fo] | refine hX _ _ ?_; clear hX X | clear hX X; refine hX _ _ ?_; clear hX X | clear hX X; clear hX X; refine hX _ _ ?_; clear hX X | intro hlen; unfold maxLen at hlen | apply And.intro; focus (first | omega | assumption | (repeat' apply And.intro) <;> first | omega | assumption)))
      refine callE (hc3 _) ?_
      simp -implicitDefEqProofs only [↓slp, slb, ↓reduceIte, reduceCtorEq, jA, jB, jC, jD, jE, jF, jG, jH, jI, jJ, jK, tfTmE, pB, f3, f6, f8, f22, f23, f24, pI, pS, e1, e2]; try simp only [fo]

      refine ⟨⟨by omega, _, rfl, rfl⟩, callE (hd3 _) ?_⟩
      simp -implicitDefEqProofs only [↓slp, slb, ↓reduceIte, reduceCtorEq, jA, jB, jC, jD, jE, jF, jG, jH, jI, jJ, jK, tfTmE, pB, f3, f6, f8, f22, f23, f24, pI, pS, e1, e2]; try simp only [fo]
      (repeat (first | refine aSeq fun X hX => ?_ | refine aBlk ?_ | refine aSkip ?_ | (first | refine aExit ?_ | refine aRet ?_); try simp only [slx, ↓reduceIte, jA, reduceCtorEq] | (first | refine aReg ?_ | refine aDrE ?_ | refine aIf ?_); simp -implicitDefEqProofs only [forall_eq, ↓slp, slb, ↓reduceIte, reduceCtorEq, jA, jB, jC, jD, jE, jF, jG, jH, jI, jJ, jK, tfTmE, f3, f6, f8, f22, f23, f24, pI, pS, e1, e2, hi]; try simp only [fo] | refine hX _ _ ?_; clear hX X | clear hX X; refine hX _ _ ?_; clear hX X | clear hX X; clear hX X; refine hX _ _ ?_; clear hX X | intro hlen; unfold maxLen at hlen | apply And.intro; focus (first | omega | assumption | (repeat' apply And.intro) <;> first | omega | assumption)))
      rw [hI]
      exact ⟨2 + 1, by omega, f3, f6, f8, f22, f23, rfl, rfl⟩
theorem merge_e (ns : List No) {E : List Va} {e : Ex} {t : Ty} (hn : e.names = [sGreen, sRed, sBlue]) (hty : TyOf E e.name tyC) (m : M) :
    ACalls Tryd.prog 28 [lkP ns, .sl .no (E.map Va.pv), e.pv, .sl .no [t.pv, t.pv, t.pv]] m (unit m) := by
  cases e with
  | mk kd o n nm nms ks ln cl =>
    simp only [Ex.names] at hn
    subst hn
    exact merge_ty ns hty m
/-- The look at an expression answers its type. -/
def ExT (ns : List No) (E : List Va) (e : Ex) (t : Ty) : Prop := ∀ m : M, ACalls Tryd.prog 11 [lkP ns, .sl .no (E.map Va.pv), e.pv] m (fun v m' => v = t.pv ∧ m' = m)
end Go.Proofs.YticdboelpgalpaaDoor

/-
  types: an expression.
-/
set_option linter.unusedVariables false
set_option linter.unusedSimpArgs false
namespace Go.Proofs.YticdboelpgalpaaDoor
open Nat renaming reduceEqDiff → jA, reduceAdd → jB, reduceMul → jC, reduceLT → jD, reduceLeDiff → jE, reduceBEq → jF, reduceBNe → jG
open Int renaming reduceLE → jH, reduceLT → jI, reduceToNat → jJ, reduceEq → jK
open Go
set_option maxRecDepth 20000
set_option linter.defProp false
def tfTmX := tfTmW

set_option maxHeartbeats 16000000 in
theorem ex_step (ns : List No) (E : List Va) {e : Ex} {t : Ty} (Ts : List Ty) (hl : Ts.length = e.kids.length) (hb : Ts.length ≤ 3) (hks : ∀ i (h : i < e.kids.length) (h' : i < Ts.length), ExT ns E e.kids[i] Ts[i]) (hf : FinT E e Ts t) : ExT ns E e t := by
  intro m
  unfold ExT at hks
  unfold lkP colC at *
  refine ACalls.enter (mu := [6]) ok_mix Tryd.func11 rfl (by kernel_rfl) (by kernel_rfl) (by simp only [List.length_cons, List.length_nil, Tryd.ntmps11]; omega) ?_
  (repeat (first | refine aSeq fun X hX => ?_ | refine aBlk ?_ | refine aSkip ?_ | (first | refine aExit ?_ | refine aRet ?_); try simp only [slx, ↓reduceIte, jA, reduceCtorEq] | (first | refine aReg ?_ | refine aIf ?_); simp -implicitDefEqProofs only [forall_eq, ↓slp, slb, ↓reduceIte, reduceCtorEq, jA, jB, jC, jD, jE, jF, jG, jH, jI, jJ, jK, tfTmX]; try simp only [fo] | refine hX _ _ ?_; clear hX X | clear hX X; refine hX _ _ ?_; clear hX X | clear hX X; clear hX X; refine hX _ _ ?_; clear hX X | intro hlen; unfold maxLen at hlen | apply And.intro; focus (first | omega | assumption | (repeat' apply And.intro) <;> first | omega | assumption)))
  obtain ⟨I, hI⟩ : ∃ I : F → M → Prop, ∀ f m', I f m' = (∃ (k : Nat) (o : Own) (mm : M), k ≤ e.kids.length ∧ f 0 = .ep [.sl .no [.ag [.v (.string sCol), .sl .no [pS sRed, pS sGreen, pS sBlue], .v (.int .i64 0), .v (.int .i64 0)]], .sl .no (ns.map No.pv)] ∧ f 1 = .sl .no (E.map Va.pv) ∧ f 5 = .ep e.cs ∧ f 6 = .bp m.nb 0 ∧ f 7 = .sl o ((Ts.take k).map Ty.pv) ∧ f 11 = .sl .no (e.kids.map Ex.pv) ∧ f 12 = pI e.kids.length ∧ f 13 = pI k ∧ Toks m mm ∧ Mine m mm o 2 ∧ m' = mm.ext [some [.v (.int .u8 0), .v (.string ⟨#[]⟩)]]) := ⟨_, fun _ _ => rfl⟩
  refine aLoop I (fun f m => e.kids.length - numOf (f 13)) ?_ ?_
  · rw [hI]; exact ⟨0, .full, m, by omega, rfl, rfl, rfl, rfl, rfl, rfl, rfl, rfl, .refl _, .full, rfl⟩
  intro f m' hrel
  rw [hI] at hrel
  obtain ⟨k, o, mm, hk, f0, f1, f5, f6, f7, f11, f12, f13, htk, hmi, rfl⟩ := hrel
  have hnb := htk.nb
  cases c1 : decide ((k : Int) < (e.kids.length : Int)) with
  | true =>
    have hlt : k < e.kids.length := by simpa using c1
    have hlt' : k < Ts.length := by omega
    have g0 := getD_map Ex.pv e.kids k hlt
    have hi : IntKind.i64.wrap ((k : Int) + 1) = ((k + 1 : Nat) : Int) := by rw [wrap64 (by omega)]; omega
    have hme : numOf (f 13) = k := by rw [f13]; exact Int.toNat_natCast k
    have hx := hks k hlt hlt'
    have hst : (Ts.take (k + 1)).map Ty.pv = (Ts.take k).map Ty.pv ++ [Ts[k].pv] := by rw [List.take_succ_eq_append_getElem hlt', List.map_append]; rfl
    have htl := ty_len (Ts.take k)
    have hll : (Ts.take k).length = k := by rw [List.length_take, Nat.min_eq_left (by omega)]
    have hfr := hmi.free
    generalize hGL : Ts.take k = L at *
    have hmx : L.length + 1 ≤ maxLen := by unfold maxLen; omega
    (repeat (first | refine aSeq fun X hX => ?_ | refine aBlk ?_ | refine aSkip ?_ | (first | refine aExit ?_ | refine aRet ?_); try simp only [slx, ↓reduceIte, jA, reduceCtorEq] | (first | refine aReg ?_ | refine aIf ?_); simp -implicitDefEqProofs only [forall_eq, ↓slp, slb, ↓reduceIte, reduceCtorEq, jA, jB, jC, jD, jE, jF, jG, jH, jI, jJ, jK, tfTmX, f0, f1, f5, f6, f7, f11, f12, f13, pI, c1, g0, hnb]; try simp only [fo] | refine hX _ _ ?_; clear hX X | clear hX X; refine hX _ _ ?_; clear hX X | clear hX X; clear hX X; refine hX _ _ ?_; clear hX X | intro hlen; unfold maxLen at hlen | apply And.intro; focus (first | omega | assumption | (repeat' apply And.intro) <;> first | omega | assumption)))
    refine callE (hx _) ?_
    simp -implicitDefEqProofs only [↓slp, slb, ↓reduceIte, reduceCtorEq, jA, jB, jC, jD, jE, jF, jG, jH, jI, jJ, jK, tfTmX, f7, hnb]; try simp only [fo]
    refine ⟨⟨hfr, htl, hmx, by omega⟩, ?_⟩
    (repeat (first | refine aSeq fun X hX => ?_ | refine aBlk ?_ | refine aSkip ?_ | (first | refine aExit ?_ | refine aRet ?_); try simp only [slx, ↓reduceIte, jA, reduceCtorEq] | (first | refine aReg ?_ | refine aIf ?_); simp -implicitDefEqProofs only [forall_eq, ↓slp, slb, ↓reduceIte, reduceCtorEq, jA, jB, jC, jD, jE, jF, jG, jH, jI, jJ, jK, tfTmX, f13, pI, hi]; try simp only [fo] | refine hX _ _ ?_; clear hX X | clear hX X; refine hX _ _ ?_; clear hX X | clear hX X; clear hX X; refine hX _ _ ?_; clear hX X | intro hlen; unfold maxLen at hlen | apply And.intro; focus (first | omega | assumption | (repeat' apply And.intro) <;> first | omega | assumption)))
    rw [hI]
    exact ⟨⟨k + 1, .tok mm.nt, (o.use mm).fresh 2, hlt, f0, f1, f5, f6, by rw [hst]; rfl, f11, f12, rfl, htk.use hmi, Mine.new htk o 2, rfl⟩, by omega⟩
  | false =>
    have hk' : k = e.kids.length := by simp at c1; omega
    subst hk'
    rw [← hl, List.take_length] at f7
    have c0 : decide ((e.kids.length : Int) < (e.kids.length : Int)) = false := by simp
    clear c1
    rcases hf with ⟨hk, ht⟩ | ⟨hk, ht⟩ | ⟨hk, hc, ht⟩ | ⟨hk | hk, hty⟩ | ⟨hk | hk, i, r, u, ho, hu, hi, ht⟩ | ⟨hk, hT⟩ | ⟨hk | hk, hT⟩ | ⟨hk, hT⟩ | ⟨hk, hty, ⟨c, rn, hn, hc⟩, ⟨a, rk, hka, hst⟩, r, hT⟩ | ⟨hk, hty, hn, hT⟩
    · -- kind 1
      have c1 : (e.kind == 1) = true := by simp [hk]
      have c2 : (e.kind == 2) = false := by simp [hk]
      have c3 : (e.kind == 3) = false := by simp [hk]
      have c4 : (e.kind == 4) = false := by simp [hk]
      have c5 : (e.kind == 5) = false := by simp [hk]
      have c6 : (e.kind == 6) = false := by simp [hk]
      have c7 : (e.kind == 7) = false := by simp [hk]
      have c8 : (e.kind == 8) = false := by simp [hk]
      have c9 : (e.kind == 9) = false := by simp [hk]
      have c10 : (e.kind == 10) = false := by simp [hk]
      have c11 : (e.kind == 11) = false := by simp [hk]
      have c12 : (e.kind == 12) = false := by simp [hk]
      have c13 : (e.kind == 13) = false := by simp [hk]
      subst ht
      (repeat (first | refine aSeq fun X hX => ?_ | refine aBlk ?_ | refine aSkip ?_ | (first | refine aExit ?_ | refine aRet ?_); try simp only [slx, ↓reduceIte, jA, reduceCtorEq] | (first | refine aReg ?_ | refine aDrE ?_ | refine aIf ?_); simp -implicitDefEqProofs only [forall_eq, ↓slp, slb, ↓reduceIte, reduceCtorEq, jA, jB, jC, jD, jE, jF, jG, jH, jI, jJ, jK, tfTmX, f11, f12, f13, pI, c0, f0, f1, f5, f6, f7, hnb, c1, c2, c3, c4, c5, c6, c7, c8, c9, c10, c11, c12, c13]; try simp only [fo] | refine hX _ _ ?_; clear hX X | clear hX X; refine hX _ _ ?_; clear hX X | clear hX X; clear hX X; refine hX _ _ ?_; clear hX X | intro hlen; unfold maxLen at hlen | apply And.intro; focus (first | omega | assumption | (repeat' apply And.intro) <;> first | omega | assumption)))
      simp only [aPost, Tryd.results11, aRes_n, aRes_t, aRes_c, pack_one, pack_two]
      simp -implicitDefEqProofs only [↓slp, slb, ↓reduceIte, reduceCtorEq, jA, jB, jC, jD, jE, jF, jG, jH, jI, jJ, jK, tfTmX, f6, hnb]; try simp only [fo]
      exact leave_toks htk rfl ⟨rfl, rfl⟩
    · -- kind 2
      have c1 : (e.kind == 1) = false := by simp [hk]
      have c2 : (e.kind == 2) = true := by simp [hk]
      have c3 : (e.kind == 3) = false := by simp [hk]
      have c4 : (e.kind == 4) = false := by simp [hk]
      have c5 : (e.kind == 5) = false := by simp [hk]
      have c6 : (e.kind == 6) = false := by simp [hk]
      have c7 : (e.kind == 7) = false := by simp [hk]
      have c8 : (e.kind == 8) = false := by simp [hk]
      have c9 : (e.kind == 9) = false := by simp [hk]
      have c10 : (e.kind == 10) = false := by simp [hk]
      have c11 : (e.kind == 11) = false := by simp [hk]
      have c12 : (e.kind == 12) = false := by simp [hk]
      have c13 : (e.kind == 13) = false := by simp [hk]
      subst ht
      (repeat (first | refine aSeq fun X hX => ?_ | refine aBlk ?_ | refine aSkip ?_ | (first | refine aExit ?_ | refine aRet ?_); try simp only [slx, ↓reduceIte, jA, reduceCtorEq] | (first | refine aReg ?_ | refine aDrE ?_ | refine aIf ?_); simp -implicitDefEqProofs only [forall_eq, ↓slp, slb, ↓reduceIte, reduceCtorEq, jA, jB, jC, jD, jE, jF, jG, jH, jI, jJ, jK, tfTmX, f11, f12, f13, pI, c0, f0, f1, f5, f6, f7, hnb, c1, c2, c3, c4, c5, c6, c7, c8, c9, c10, c11, c12, c13]; try simp only [fo] | refine hX _ _ ?_; clear hX X | clear hX X; refine hX _ _ ?_; clear hX X | clear hX X; clear hX X; refine hX _ _ ?_; clear hX X | intro hlen; unfold maxLen at hlen | apply And.intro; focus (first | omega | assumption | (repeat' apply And.intro) <;> first | omega | assumption)))
      simp only [aPost, Tryd.results11, aRes_n, aRes_t, aRes_c, pack_one, pack_two]
      simp -implicitDefEqProofs only [↓slp, slb, ↓reduceIte, reduceCtorEq, jA, jB, jC, jD, jE, jF, jG, jH, jI, jJ, jK, tfTmX, f6, hnb]; try simp only [fo]
      exact leave_toks htk rfl ⟨rfl, rfl⟩
    · -- kind 3
      have c1 : (e.kind == 1) = false := by simp [hk]
      have c2 : (e.kind == 2) = false := by simp [hk]
      have c3 : (e.kind == 3) = true := by simp [hk]
      have c4 : (e.kind == 4) = false := by simp [hk]
      have c5 : (e.kind == 5) = false := by simp [hk]
      have c6 : (e.kind == 6) = false := by simp [hk]
      have c7 : (e.kind == 7) = false := by simp [hk]
      have c8 : (e.kind == 8) = false := by simp [hk]
      have c9 : (e.kind == 9) = false := by simp [hk]
      have c10 : (e.kind == 10) = false := by simp [hk]
      have c11 : (e.kind == 11) = false := by simp [hk]
      have c12 : (e.kind == 12) = false := by simp [hk]
      have c13 : (e.kind == 13) = false := by simp [hk]
      subst ht
      have hce := fun m => ctorEnum_C hc m
      unfold colC at hce
      (repeat (first | refine aSeq fun X hX => ?_ | refine aBlk ?_ | refine aSkip ?_ | (first | refine aExit ?_ | refine aRet ?_); try simp only [slx, ↓reduceIte, jA, reduceCtorEq] | (first | refine aReg ?_ | refine aIf ?_); simp -implicitDefEqProofs only [forall_eq, ↓slp, slb, ↓reduceIte, reduceCtorEq, jA, jB, jC, jD, jE, jF, jG, jH, jI, jJ, jK, tfTmX, f11, f12, f13, pI, c0, f0, f1, f5, f6, f7, hnb, c1, c2, c3, c4, c5, c6, c7, c8, c9, c10, c11, c12, c13]; try simp only [fo] | refine hX _ _ ?_; clear hX X | clear hX X; refine hX _ _ ?_; clear hX X | clear hX X; clear hX X; refine hX _ _ ?_; clear hX X | intro hlen; unfold maxLen at hlen | apply And.intro; focus (first | omega | assumption | (repeat' apply And.intro) <;> first | omega | assumption)))
      refine aDrw (fun _ => True) (by kernel_rfl) trivial ?_; simp -implicitDefEqProofs only [forall_eq, eq_self, ↓slp, slb, ↓reduceIte, reduceCtorEq, jA, jB, jC, jD, jE, jF, jG, jH, jI, jJ, jK, tfTmX, f11, f12, f13, pI, c0, f0, f1, f5, f6, f7, hnb, c1, c2, c3, c4, c5, c6, c7, c8, c9, c10, c11, c12, c13]; try simp only [fo]
      refine callM (hce _) ?_
      rintro v mq ⟨rfl, rfl⟩
      refine ⟨trivial, ?_⟩
      simp -implicitDefEqProofs only [↓slp, slb, ↓reduceIte, reduceCtorEq, jA, jB, jC, jD, jE, jF, jG, jH, jI, jJ, jK, tfTmX, f0, f1, f5, f6, f7, hnb, pI]; try simp only [fo]
      (repeat (first | refine aSeq fun X hX => ?_ | refine aBlk ?_ | refine aSkip ?_ | (first | refine aExit ?_ | refine aRet ?_); try simp only [slx, ↓reduceIte, jA, reduceCtorEq] | (first | refine aReg ?_ | refine aDrE ?_ | refine aIf ?_); simp -implicitDefEqProofs only [forall_eq, ↓slp, slb, ↓reduceIte, reduceCtorEq, jA, jB, jC, jD, jE, jF, jG, jH, jI, jJ, jK, tfTmX, f0, f1, f5, f6, f7, hnb, c1, c2, c3, c4, c5, c6, c7, c8, c9, c10, c11, c12, c13]; try simp only [fo] | refine hX _ _ ?_; clear hX X | clear hX X; refine hX _ _ ?_; clear hX X | clear hX X; clear hX X; refine hX _ _ ?_; clear hX X | intro hlen; unfold maxLen at hlen | apply And.intro; focus (first | omega | assumption | (repeat' apply And.intro) <;> first | omega | assumption)))
      simp only [aPost, Tryd.results11, aRes_n, aRes_t, aRes_c, pack_one, pack_two]
      simp -implicitDefEqProofs only [↓slp, slb, ↓reduceIte, reduceCtorEq, jA, jB, jC, jD, jE, jF, jG, jH, jI, jJ, jK, tfTmX, f6, hnb]; try simp only [fo]
      exact leave_toks htk rfl ⟨rfl, rfl⟩
    · -- kind 4
      have c1 : (e.kind == 1) = false := by simp [hk]
      have c2 : (e.kind == 2) = false := by simp [hk]
      have c3 : (e.kind == 3) = false := by simp [hk]
      have c4 : (e.kind == 4) = true := by simp [hk]
      have c5 : (e.kind == 5) = false := by simp [hk]
      have c6 : (e.kind == 6) = false := by simp [hk]
      have c7 : (e.kind == 7) = false := by simp [hk]
      have c8 : (e.kind == 8) = false := by simp [hk]
      have c9 : (e.kind == 9) = false := by simp [hk]
      have c10 : (e.kind == 10) = false := by simp [hk]
      have c11 : (e.kind == 11) = false := by simp [hk]
      have c12 : (e.kind == 12) = false := by simp [hk]
      have c13 : (e.kind == 13) = false := by simp [hk]
      have hov := fun m => of_ty hty m
      obtain ⟨k, hk2, hfk, hvt⟩ := hty
      have hfv := fun m => findVar_any .no E e.name m
      rw [hfk] at hfv
      have cneg : decide ((k : Int) < 0) = false := by simp
      (repeat (first | refine aSeq fun X hX => ?_ | refine aBlk ?_ | refine aSkip ?_ | (first | refine aExit ?_ | refine aRet ?_); try simp only [slx, ↓reduceIte, jA, reduceCtorEq] | (first | refine aReg ?_ | refine aDrE ?_ | refine aIf ?_); simp -implicitDefEqProofs only [forall_eq, ↓slp, slb, ↓reduceIte, reduceCtorEq, jA, jB, jC, jD, jE, jF, jG, jH, jI, jJ, jK, tfTmX, f11, f12, f13, pI, c0, f0, f1, f5, f6, f7, hnb, c1, c2, c3, c4, c5, c6, c7, c8, c9, c10, c11, c12, c13]; try simp only [fo] | refine hX _ _ ?_; clear hX X | clear hX X; refine hX _ _ ?_; clear hX X | clear hX X; clear hX X; refine hX _ _ ?_; clear hX X | intro hlen; unfold maxLen at hlen | apply And.intro; focus (first | omega | assumption | (repeat' apply And.intro) <;> first | omega | assumption)))
      refine callE (hfv _) ?_
      simp -implicitDefEqProofs only [↓slp, slb, ↓reduceIte, reduceCtorEq, jA, jB, jC, jD, jE, jF, jG, jH, jI, jJ, jK, tfTmX, f0, f1, f5, f6, f7, hnb, pI, cneg]; try simp only [fo]
      (repeat (first | refine aSeq fun X hX => ?_ | refine aBlk ?_ | refine aSkip ?_ | (first | refine aExit ?_ | refine aRet ?_); try simp only [slx, ↓reduceIte, jA, reduceCtorEq] | (first | refine aReg ?_ | refine aDrE ?_ | refine aIf ?_); simp -implicitDefEqProofs only [forall_eq, ↓slp, slb, ↓reduceIte, reduceCtorEq, jA, jB, jC, jD, jE, jF, jG, jH, jI, jJ, jK, tfTmX, f11, f12, f13, pI, c0, f0, f1, f5, f6, f7, hnb, c1, c2, c3, c4, c5, c6, c7, c8, c9, c10, c11, c12, c13, cneg]; try simp only [fo] | refine hX _ _ ?_; clear hX X | clear hX X; refine hX _ _ ?_; clear hX X | clear hX X; clear hX X; refine hX _ _ ?_; clear hX X | intro hlen; unfold maxLen at hlen | apply And.intro; focus (first | omega | assumption | (repeat' apply And.intro) <;> first | omega | assumption)))
      refine callE (hov _) ?_
      simp -implicitDefEqProofs only [↓slp, slb, ↓reduceIte, reduceCtorEq, jA, jB, jC, jD, jE, jF, jG, jH, jI, jJ, jK, tfTmX, f0, f1, f5, f6, f7, hnb]; try simp only [fo]
      (repeat (first | refine aSeq fun X hX => ?_ | refine aBlk ?_ | refine aSkip ?_ | (first | refine aExit ?_ | refine aRet ?_); try simp only [slx, ↓reduceIte, jA, reduceCtorEq] | (first | refine aReg ?_ | refine aDrE ?_ | refine aIf ?_); simp -implicitDefEqProofs only [forall_eq, ↓slp, slb, ↓reduceIte, reduceCtorEq, jA, jB, jC, jD, jE, jF, jG, jH, jI, jJ, jK, tfTmX, f0, f1, f5, f6, f7, hnb, c1, c2, c3, c4, c5, c6, c7, c8, c9, c10, c11, c12, c13]; try simp only [fo] | refine hX _ _ ?_; clear hX X | clear hX X; refine hX _ _ ?_; clear hX X | clear hX X; clear hX X; refine hX _ _ ?_; clear hX X | intro hlen; unfold maxLen at hlen | apply And.intro; focus (first | omega | assumption | (repeat' apply And.intro) <;> first | omega | assumption)))
      simp only [aPost, Tryd.results11, aRes_n, aRes_t, aRes_c, pack_one, pack_two]
      simp -implicitDefEqProofs only [↓slp, slb, ↓reduceIte, reduceCtorEq, jA, jB, jC, jD, jE, jF, jG, jH, jI, jJ, jK, tfTmX, f6, hnb]; try simp only [fo]
      exact leave_toks htk rfl ⟨rfl, rfl⟩
    · -- kind 5
      have c1 : (e.kind == 1) = false := by simp [hk]
      have c2 : (e.kind == 2) = false := by simp [hk]
      have c3 : (e.kind == 3) = false := by simp [hk]
      have c4 : (e.kind == 4) = false := by simp [hk]
      have c5 : (e.kind == 5) = true := by simp [hk]
      have c6 : (e.kind == 6) = false := by simp [hk]
      have c7 : (e.kind == 7) = false := by simp [hk]
      have c8 : (e.kind == 8) = false := by simp [hk]
      have c9 : (e.kind == 9) = false := by simp [hk]
      have c10 : (e.kind == 10) = false := by simp [hk]
      have c11 : (e.kind == 11) = false := by simp [hk]
      have c12 : (e.kind == 12) = false := by simp [hk]
      have c13 : (e.kind == 13) = false := by simp [hk]
      have hov := fun m => of_ty hty m
      obtain ⟨k, hk2, hfk, hvt⟩ := hty
      have hfv := fun m => findVar_any .no E e.name m
      rw [hfk] at hfv
      have cneg : decide ((k : Int) < 0) = false := by simp
      (repeat (first | refine aSeq fun X hX => ?_ | refine aBlk ?_ | refine aSkip ?_ | (first | refine aExit ?_ | refine aRet ?_); try simp only [slx, ↓reduceIte, jA, reduceCtorEq] | (first | refine aReg ?_ | refine aDrE ?_ | refine aIf ?_); simp -implicitDefEqProofs only [forall_eq, ↓slp, slb, ↓reduceIte, reduceCtorEq, jA, jB, jC, jD, jE, jF, jG, jH, jI, jJ, jK, tfTmX, f11, f12, f13, pI, c0, f0, f1, f5, f6, f7, hnb, c1, c2, c3, c4, c5, c6, c7, c8, c9, c10, c11, c12, c13]; try simp only [fo] | refine hX _ _ ?_; clear hX X | clear hX X; refine hX _ _ ?_; clear hX X | clear hX X; clear hX X; refine hX _ _ ?_; clear hX X | intro hlen; unfold maxLen at hlen | apply And.intro; focus (first | omega | assumption | (repeat' apply And.intro) <;> first | omega | assumption)))
      refine callE (hfv _) ?_
      simp -implicitDefEqProofs only [↓slp, slb, ↓reduceIte, reduceCtorEq, jA, jB, jC, jD, jE, jF, jG, jH, jI, jJ, jK, tfTmX, f0, f1, f5, f6, f7, hnb, pI, cneg]; try simp only [fo]
      (repeat (first | refine aSeq fun X hX => ?_ | refine aBlk ?_ | refine aSkip ?_ | (first | refine aExit ?_ | refine aRet ?_); try simp only [slx, ↓reduceIte, jA, reduceCtorEq] | (first | refine aReg ?_ | refine aDrE ?_ | refine aIf ?_); simp -implicitDefEqProofs only [forall_eq, ↓slp, slb, ↓reduceIte, reduceCtorEq, jA, jB, jC, jD, jE, jF, jG, jH, jI, jJ, jK, tfTmX, f11, f12, f13, pI, c0, f0, f1, f5, f6, f7, hnb, c1, c2, c3, c4, c5, c6, c7, c8, c9, c10, c11, c12, c13, cneg]; try simp only [fo] | refine hX _ _ ?_; clear hX X | clear hX X; refine hX _ _ ?_; clear hX X | clear hX X; clear hX X; refine hX _ _ ?_; clear hX X | intro hlen; unfold maxLen at hlen | apply And.intro; focus (first | omega | assumption | (repeat' apply And.intro) <;> first | omega | assumption)))
      refine callE (hov _) ?_
      simp -implicitDefEqProofs only [↓slp, slb, ↓reduceIte, reduceCtorEq, jA, jB, jC, jD, jE, jF, jG, jH, jI, jJ, jK, tfTmX, f0, f1, f5, f6, f7, hnb]; try simp only [fo]
      (repeat (first | refine aSeq fun X hX => ?_ | refine aBlk ?_ | refine aSkip ?_ | (first | refine aExit ?_ | refine aRet ?_); try simp only [slx, ↓reduceIte, jA, reduceCtorEq] | (first | refine aReg ?_ | refine aDrE ?_ | refine aIf ?_); simp -implicitDefEqProofs only [forall_eq, ↓slp, slb, ↓reduceIte, reduceCtorEq, jA, jB, jC, jD, jE, jF, jG, jH, jI, jJ, jK, tfTmX, f0, f1, f5, f6, f7, hnb, c1, c2, c3, c4, c5, c6, c7, c8, c9, c10, c11, c12, c13]; try simp only [fo] | refine hX _ _ ?_; clear hX X | clear hX X; refine hX _ _ ?_; clear hX X | clear hX X; clear hX X; refine hX _ _ ?_; clear hX X | intro hlen; unfold maxLen at hlen | apply And.intro; focus (first | omega | assumption | (repeat' apply And.intro) <;> first | omega | assumption)))
      simp only [aPost, Tryd.results11, aRes_n, aRes_t, aRes_c, pack_one, pack_two]
      simp -implicitDefEqProofs only [↓slp, slb, ↓reduceIte, reduceCtorEq, jA, jB, jC, jD, jE, jF, jG, jH, jI, jJ, jK, tfTmX, f6, hnb]; try simp only [fo]
      exact leave_toks htk rfl ⟨rfl, rfl⟩
    · -- kind 6
      have c1 : (e.kind == 1) = false := by simp [hk]
      have c2 : (e.kind == 2) = false := by simp [hk]
      have c3 : (e.kind == 3) = false := by simp [hk]
      have c4 : (e.kind == 4) = false := by simp [hk]
      have c5 : (e.kind == 5) = false := by simp [hk]
      have c6 : (e.kind == 6) = true := by simp [hk]
      have c7 : (e.kind == 7) = false := by simp [hk]
      have c8 : (e.kind == 8) = false := by simp [hk]
      have c9 : (e.kind == 9) = false := by simp [hk]
      have c10 : (e.kind == 10) = false := by simp [hk]
      have c11 : (e.kind == 11) = false := by simp [hk]
      have c12 : (e.kind == 12) = false := by simp [hk]
      have c13 : (e.kind == 13) = false := by simp [hk]
      subst ht
      have hop := fun m => operator_ty ho hu hi m
      (repeat (first | refine aSeq fun X hX => ?_ | refine aBlk ?_ | refine aSkip ?_ | (first | refine aExit ?_ | refine aRet ?_); try simp only [slx, ↓reduceIte, jA, reduceCtorEq] | (first | refine aReg ?_ | refine aDrE ?_ | refine aIf ?_); simp -implicitDefEqProofs only [forall_eq, ↓slp, slb, ↓reduceIte, reduceCtorEq, jA, jB, jC, jD, jE, jF, jG, jH, jI, jJ, jK, tfTmX, f11, f12, f13, pI, c0, f0, f1, f5, f6, f7, hnb, c1, c2, c3, c4, c5, c6, c7, c8, c9, c10, c11, c12, c13]; try simp only [fo] | refine hX _ _ ?_; clear hX X | clear hX X; refine hX _ _ ?_; clear hX X | clear hX X; clear hX X; refine hX _ _ ?_; clear hX X | intro hlen; unfold maxLen at hlen | apply And.intro; focus (first | omega | assumption | (repeat' apply And.intro) <;> first | omega | assumption)))
      refine callMS (hop _) (by simp only [List.map_cons, List.map_nil, PV.settle, PV.settles, Ex.settle_pv]) ?_
      rintro v mq ⟨rfl, rfl⟩
      simp -implicitDefEqProofs only [↓slp, slb, ↓reduceIte, reduceCtorEq, jA, jB, jC, jD, jE, jF, jG, jH, jI, jJ, jK, tfTmX, f0, f1, f5, f6, f7, hnb]; try simp only [fo]
      (repeat (first | refine aSeq fun X hX => ?_ | refine aBlk ?_ | refine aSkip ?_ | (first | refine aExit ?_ | refine aRet ?_); try simp only [slx, ↓reduceIte, jA, reduceCtorEq] | (first | refine aReg ?_ | refine aDrE ?_ | refine aIf ?_); simp -implicitDefEqProofs only [forall_eq, ↓slp, slb, ↓reduceIte, reduceCtorEq, jA, jB, jC, jD, jE, jF, jG, jH, jI, jJ, jK, tfTmX, f11, f12, f13, pI, c0, f0, f1, f5, f6, f7, hnb, c1, c2, c3, c4, c5, c6, c7, c8, c9, c10, c11, c12, c13]; try simp only [fo] | refine hX _ _ ?_; clear hX X | clear hX X; refine hX _ _ ?_; clear hX X | clear hX X; clear hX X; refine hX _ _ ?_; clear hX X | intro hlen; unfold maxLen at hlen | apply And.intro; focus (first | omega | assumption | (repeat' apply And.intro) <;> first | omega | assumption)))
      simp only [aPost, Tryd.results11, aRes_n, aRes_t, aRes_c, pack_one, pack_two]
      simp -implicitDefEqProofs only [↓slp, slb, ↓reduceIte, reduceCtorEq, jA, jB, jC, jD, jE, jF, jG, jH, jI, jJ, jK, tfTmX, f6, hnb]; try simp only [fo]
      exact leave_toks htk rfl ⟨rfl, rfl⟩
    · -- kind 7
      have c1 : (e.kind == 1) = false := by simp [hk]
      have c2 : (e.kind == 2) = false := by simp [hk]
      have c3 : (e.kind == 3) = false := by simp [hk]
      have c4 : (e.kind == 4) = false := by simp [hk]
      have c5 : (e.kind == 5) = false := by simp [hk]
      have c6 : (e.kind == 6) = false := by simp [hk]
      have c7 : (e.kind == 7) = true := by simp [hk]
      have c8 : (e.kind == 8) = false := by simp [hk]
      have c9 : (e.kind == 9) = false := by simp [hk]
      have c10 : (e.kind == 10) = false := by simp [hk]
      have c11 : (e.kind == 11) = false := by simp [hk]
      have c12 : (e.kind == 12) = false := by simp [hk]
      have c13 : (e.kind == 13) = false := by simp [hk]
      subst ht
      have hop := fun m => operator_ty ho hu hi m
      (repeat (first | refine aSeq fun X hX => ?_ | refine aBlk ?_ | refine aSkip ?_ | (first | refine aExit ?_ | refine aRet ?_); try simp only [slx, ↓reduceIte, jA, reduceCtorEq] | (first | refine aReg ?_ | refine aDrE ?_ | refine aIf ?_); simp -implicitDefEqProofs only [forall_eq, ↓slp, slb, ↓reduceIte, reduceCtorEq, jA, jB, jC, jD, jE, jF, jG, jH, jI, jJ, jK, tfTmX, f11, f12, f13, pI, c0, f0, f1, f5, f6, f7, hnb, c1, c2, c3, c4, c5, c6, c7, c8, c9, c10, c11, c12, c13]; try simp only [fo] | refine hX _ _ ?_; clear hX X | clear hX X; refine hX _ _ ?_; clear hX X | clear hX X; clear hX X; refine hX _ _ ?_; clear hX X | intro hlen; unfold maxLen at hlen | apply And.intro; focus (first | omega | assumption | (repeat' apply And.intro) <;> first | omega | assumption)))
      refine callMS (hop _) (by simp only [List.map_cons, List.map_nil, PV.settle, PV.settles, Ex.settle_pv]) ?_
      rintro v mq ⟨rfl, rfl⟩
      simp -implicitDefEqProofs only [↓slp, slb, ↓reduceIte, reduceCtorEq, jA, jB, jC, jD, jE, jF, jG, jH, jI, jJ, jK, tfTmX, f0, f1, f5, f6, f7, hnb]; try simp only [fo]
      (repeat (first | refine aSeq fun X hX => ?_ | refine aBlk ?_ | refine aSkip ?_ | (first | refine aExit ?_ | refine aRet ?_); try simp only [slx, ↓reduceIte, jA, reduceCtorEq] | (first | refine aReg ?_ | refine aDrE ?_ | refine aIf ?_); simp -implicitDefEqProofs only [forall_eq, ↓slp, slb, ↓reduceIte, reduceCtorEq, jA, jB, jC, jD, jE, jF, jG, jH, jI, jJ, jK, tfTmX, f11, f12, f13, pI, c0, f0, f1, f5, f6, f7, hnb, c1, c2, c3, c4, c5, c6, c7, c8, c9, c10, c11, c12, c13]; try simp only [fo] | refine hX _ _ ?_; clear hX X | clear hX X; refine hX _ _ ?_; clear hX X | clear hX X; clear hX X; refine hX _ _ ?_; clear hX X | intro hlen; unfold maxLen at hlen | apply And.intro; focus (first | omega | assumption | (repeat' apply And.intro) <;> first | omega | assumption)))
      simp only [aPost, Tryd.results11, aRes_n, aRes_t, aRes_c, pack_one, pack_two]
      simp -implicitDefEqProofs only [↓slp, slb, ↓reduceIte, reduceCtorEq, jA, jB, jC, jD, jE, jF, jG, jH, jI, jJ, jK, tfTmX, f6, hnb]; try simp only [fo]
      exact leave_toks htk rfl ⟨rfl, rfl⟩
    · -- kind 8
      have c1 : (e.kind == 1) = false := by simp [hk]
      have c2 : (e.kind == 2) = false := by simp [hk]
      have c3 : (e.kind == 3) = false := by simp [hk]
      have c4 : (e.kind == 4) = false := by simp [hk]
      have c5 : (e.kind == 5) = false := by simp [hk]
      have c6 : (e.kind == 6) = false := by simp [hk]
      have c7 : (e.kind == 7) = false := by simp [hk]
      have c8 : (e.kind == 8) = true := by simp [hk]
      have c9 : (e.kind == 9) = false := by simp [hk]
      have c10 : (e.kind == 10) = false := by simp [hk]
      have c11 : (e.kind == 11) = false := by simp [hk]
      have c12 : (e.kind == 12) = false := by simp [hk]
      have c13 : (e.kind == 13) = false := by simp [hk]
      subst hT
      have e1 : (t.name.toList == t.name.toList) = true := by simp
      have e2 : (t.kind == t.kind) = true := by simp
      (repeat (first | refine aSeq fun X hX => ?_ | refine aBlk ?_ | refine aSkip ?_ | (first | refine aExit ?_ | refine aRet ?_); try simp only [slx, ↓reduceIte, jA, reduceCtorEq] | (first | refine aReg ?_ | refine aDrE ?_ | refine aIf ?_); simp -implicitDefEqProofs only [forall_eq, ↓slp, slb, ↓reduceIte, reduceCtorEq, jA, jB, jC, jD, jE, jF, jG, jH, jI, jJ, jK, tfTmX, f11, f12, f13, pI, c0, f0, f1, f5, f6, f7, hnb, c1, c2, c3, c4, c5, c6, c7, c8, c9, c10, c11, c12, c13, tyB, List.map_cons, List.map_nil, Ty.pv, e1, e2]; try simp only [fo] | refine hX _ _ ?_; clear hX X | clear hX X; refine hX _ _ ?_; clear hX X | clear hX X; clear hX X; refine hX _ _ ?_; clear hX X | intro hlen; unfold maxLen at hlen | apply And.intro; focus (first | omega | assumption | (repeat' apply And.intro) <;> first | omega | assumption)))
      simp only [aPost, Tryd.results11, aRes_n, aRes_t, aRes_c, pack_one, pack_two]
      simp -implicitDefEqProofs only [↓slp, slb, ↓reduceIte, reduceCtorEq, jA, jB, jC, jD, jE, jF, jG, jH, jI, jJ, jK, tfTmX, f6, hnb]; try simp only [fo]
      exact leave_toks htk rfl ⟨rfl, rfl⟩
    · -- kind 9
      have c1 : (e.kind == 1) = false := by simp [hk]
      have c2 : (e.kind == 2) = false := by simp [hk]
      have c3 : (e.kind == 3) = false := by simp [hk]
      have c4 : (e.kind == 4) = false := by simp [hk]
      have c5 : (e.kind == 5) = false := by simp [hk]
      have c6 : (e.kind == 6) = false := by simp [hk]
      have c7 : (e.kind == 7) = false := by simp [hk]
      have c8 : (e.kind == 8) = false := by simp [hk]
      have c9 : (e.kind == 9) = true := by simp [hk]
      have c10 : (e.kind == 10) = false := by simp [hk]
      have c11 : (e.kind == 11) = false := by simp [hk]
      have c12 : (e.kind == 12) = false := by simp [hk]
      have c13 : (e.kind == 13) = false := by simp [hk]
      subst hT
      have e1 : (t.name.toList == t.name.toList) = true := by simp
      have e2 : (t.kind == t.kind) = true := by simp
      (repeat (first | refine aSeq fun X hX => ?_ | refine aBlk ?_ | refine aSkip ?_ | (first | refine aExit ?_ | refine aRet ?_); try simp only [slx, ↓reduceIte, jA, reduceCtorEq] | (first | refine aReg ?_ | refine aDrE ?_ | refine aIf ?_); simp -implicitDefEqProofs only [forall_eq, ↓slp, slb, ↓reduceIte, reduceCtorEq, jA, jB, jC, jD, jE, jF, jG, jH, jI, jJ, jK, tfTmX, f11, f12, f13, pI, c0, f0, f1, f5, f6, f7, hnb, c1, c2, c3, c4, c5, c6, c7, c8, c9, c10, c11, c12, c13, tyB, List.map_cons, List.map_nil, Ty.pv, e1, e2]; try simp only [fo] | refine hX _ _ ?_; clear hX X | clear hX X; refine hX _ _ ?_; clear hX X | clear hX X; clear hX X; refine hX _ _ ?_; clear hX X | intro hlen; unfold maxLen at hlen | apply And.intro; focus (first | omega | assumption | (repeat' apply And.intro) <;> first | omega | assumption)))
      simp only [aPost, Tryd.results11, aRes_n, aRes_t, aRes_c, pack_one, pack_two]
      simp -implicitDefEqProofs only [↓slp, slb, ↓reduceIte, reduceCtorEq, jA, jB, jC, jD, jE, jF, jG, jH, jI, jJ, jK, tfTmX, f6, hnb]; try simp only [fo]
      exact leave_toks htk rfl ⟨rfl, rfl⟩
    · -- kind 11
      have c1 : (e.kind == 1) = false := by simp [hk]
      have c2 : (e.kind == 2) = false := by simp [hk]
      have c3 : (e.kind == 3) = false := by simp [hk]
      have c4 : (e.kind == 4) = false := by simp [hk]
      have c5 : (e.kind == 5) = false := by simp [hk]
      have c6 : (e.kind == 6) = false := by simp [hk]
      have c7 : (e.kind == 7) = false := by simp [hk]
      have c8 : (e.kind == 8) = false := by simp [hk]
      have c9 : (e.kind == 9) = false := by simp [hk]
      have c10 : (e.kind == 10) = false := by simp [hk]
      have c11 : (e.kind == 11) = true := by simp [hk]
      have c12 : (e.kind == 12) = false := by simp [hk]
      have c13 : (e.kind == 13) = false := by simp [hk]
      subst hT
      have e1 : (t.name.toList == t.name.toList) = true := by simp
      have e2 : (t.kind == t.kind) = true := by simp
      (repeat (first | refine aSeq fun X hX => ?_ | refine aBlk ?_ | refine aSkip ?_ | (first | refine aExit ?_ | refine aRet ?_); try simp only [slx, ↓reduceIte, jA, reduceCtorEq] | (first | refine aReg ?_ | refine aDrE ?_ | refine aIf ?_); simp -implicitDefEqProofs only [forall_eq, ↓slp, slb, ↓reduceIte, reduceCtorEq, jA, jB, jC, jD, jE, jF, jG, jH, jI, jJ, jK, tfTmX, f11, f12, f13, pI, c0, f0, f1, f5, f6, f7, hnb, c1, c2, c3, c4, c5, c6, c7, c8, c9, c10, c11, c12, c13, tyB, List.map_cons, List.map_nil, Ty.pv, e1, e2]; try simp only [fo] | refine hX _ _ ?_; clear hX X | clear hX X; refine hX _ _ ?_; clear hX X | clear hX X; clear hX X; refine hX _ _ ?_; clear hX X | intro hlen; unfold maxLen at hlen | apply And.intro; focus (first | omega | assumption | (repeat' apply And.intro) <;> first | omega | assumption)))
      simp only [aPost, Tryd.results11, aRes_n, aRes_t, aRes_c, pack_one, pack_two]
      simp -implicitDefEqProofs only [↓slp, slb, ↓reduceIte, reduceCtorEq, jA, jB, jC, jD, jE, jF, jG, jH, jI, jJ, jK, tfTmX, f6, hnb]; try simp only [fo]
      exact leave_toks htk rfl ⟨rfl, rfl⟩
    · -- kind 10
      have c1 : (e.kind == 1) = false := by simp [hk]
      have c2 : (e.kind == 2) = false := by simp [hk]
      have c3 : (e.kind == 3) = false := by simp [hk]
      have c4 : (e.kind == 4) = false := by simp [hk]
      have c5 : (e.kind == 5) = false := by simp [hk]
      have c6 : (e.kind == 6) = false := by simp [hk]
      have c7 : (e.kind == 7) = false := by simp [hk]
      have c8 : (e.kind == 8) = false := by simp [hk]
      have c9 : (e.kind == 9) = false := by simp [hk]
      have c10 : (e.kind == 10) = true := by simp [hk]
      have c11 : (e.kind == 11) = false := by simp [hk]
      have c12 : (e.kind == 12) = false := by simp [hk]
      have c13 : (e.kind == 13) = false := by simp [hk]
      subst hT
      have e1 : (t.name.toList == t.name.toList) = true := by simp
      have e2 : (t.kind == t.kind) = true := by simp
      (repeat (first | refine aSeq fun X hX => ?_ | refine aBlk ?_ | refine aSkip ?_ | (first | refine aExit ?_ | refine aRet ?_); try simp only [slx, ↓reduceIte, jA, reduceCtorEq] | (first | refine aReg ?_ | refine aDrE ?_ | refine aIf ?_); simp -implicitDefEqProofs only [forall_eq, ↓slp, slb, ↓reduceIte, reduceCtorEq, jA, jB, jC, jD, jE, jF, jG, jH, jI, jJ, jK, tfTmX, f11, f12, f13, pI, c0, f0, f1, f5, f6, f7, hnb, c1, c2, c3, c4, c5, c6, c7, c8, c9, c10, c11, c12, c13, tyB, List.map_cons, List.map_nil, Ty.pv, e1, e2]; try simp only [fo] | refine hX _ _ ?_; clear hX X | clear hX X; refine hX _ _ ?_; clear hX X | clear hX X; clear hX X; refine hX _ _ ?_; clear hX X | intro hlen; unfold maxLen at hlen | apply And.intro; focus (first | omega | assumption | (repeat' apply And.intro) <;> first | omega | assumption)))
      simp only [aPost, Tryd.results11, aRes_n, aRes_t, aRes_c, pack_one, pack_two]
      simp -implicitDefEqProofs only [↓slp, slb, ↓reduceIte, reduceCtorEq, jA, jB, jC, jD, jE, jF, jG, jH, jI, jJ, jK, tfTmX, f6, hnb]; try simp only [fo]
      exact leave_toks htk rfl ⟨rfl, rfl⟩
    · -- kind 12
      have c1 : (e.kind == 1) = false := by simp [hk]
      have c2 : (e.kind == 2) = false := by simp [hk]
      have c3 : (e.kind == 3) = false := by simp [hk]
      have c4 : (e.kind == 4) = false := by simp [hk]
      have c5 : (e.kind == 5) = false := by simp [hk]
      have c6 : (e.kind == 6) = false := by simp [hk]
      have c7 : (e.kind == 7) = false := by simp [hk]
      have c8 : (e.kind == 8) = false := by simp [hk]
      have c9 : (e.kind == 9) = false := by simp [hk]
      have c10 : (e.kind == 10) = false := by simp [hk]
      have c11 : (e.kind == 11) = false := by simp [hk]
      have c12 : (e.kind == 12) = true := by simp [hk]
      have c13 : (e.kind == 13) = false := by simp [hk]
      subst hT
      have hov := fun m => of_ty hty m
      have hcs := fun m => ctors_C m
      have hcn := fun m => contains_any .no cols c m
      rw [(hasS_iff _ _).2 hc] at hcn
      have hsl := fun m => st_any hst m
      unfold colC at hcs
      obtain ⟨k, hk2, hfk, hvt⟩ := hty
      have hfv := fun m => findVar_any .no E e.name m
      rw [hfk] at hfv
      have cneg : decide ((k : Int) < 0) = false := by simp
      (repeat (first | refine aSeq fun X hX => ?_ | refine aBlk ?_ | refine aSkip ?_ | (first | refine aExit ?_ | refine aRet ?_); try simp only [slx, ↓reduceIte, jA, reduceCtorEq] | (first | refine aReg ?_ | refine aDrE ?_ | refine aIf ?_); simp -implicitDefEqProofs only [forall_eq, ↓slp, slb, ↓reduceIte, reduceCtorEq, jA, jB, jC, jD, jE, jF, jG, jH, jI, jJ, jK, tfTmX, f11, f12, f13, pI, c0, f0, f1, f5, f6, f7, hnb, c1, c2, c3, c4, c5, c6, c7, c8, c9, c10, c11, c12, c13]; try simp only [fo] | refine hX _ _ ?_; clear hX X | clear hX X; refine hX _ _ ?_; clear hX X | clear hX X; clear hX X; refine hX _ _ ?_; clear hX X | intro hlen; unfold maxLen at hlen | apply And.intro; focus (first | omega | assumption | (repeat' apply And.intro) <;> first | omega | assumption)))
      refine callE (hfv _) ?_
      simp -implicitDefEqProofs only [↓slp, slb, ↓reduceIte, reduceCtorEq, jA, jB, jC, jD, jE, jF, jG, jH, jI, jJ, jK, tfTmX, f0, f1, f5, f6, f7, hnb, pI, cneg]; try simp only [fo]
      (repeat (first | refine aSeq fun X hX => ?_ | refine aBlk ?_ | refine aSkip ?_ | (first | refine aExit ?_ | refine aRet ?_); try simp only [slx, ↓reduceIte, jA, reduceCtorEq] | (first | refine aReg ?_ | refine aDrE ?_ | refine aIf ?_); simp -implicitDefEqProofs only [forall_eq, ↓slp, slb, ↓reduceIte, reduceCtorEq, jA, jB, jC, jD, jE, jF, jG, jH, jI, jJ, jK, tfTmX, f11, f12, f13, pI, c0, f0, f1, f5, f6, f7, hnb, c1, c2, c3, c4, c5, c6, c7, c8, c9, c10, c11, c12, c13, cneg, hn, hka]; try simp only [fo] | refine hX _ _ ?_; clear hX X | clear hX X; refine hX _ _ ?_; clear hX X | clear hX X; clear hX X; refine hX _ _ ?_; clear hX X | intro hlen; unfold maxLen at hlen | apply And.intro; focus (first | omega | assumption | (repeat' apply And.intro) <;> first | omega | assumption)))
      refine callE (hov _) ?_
      simp -implicitDefEqProofs only [↓slp, slb, ↓reduceIte, reduceCtorEq, jA, jB, jC, jD, jE, jF, jG, jH, jI, jJ, jK, tfTmX, f0, f1, f5, f6, f7, hnb, hn, hka, List.map_cons]; try simp only [fo]
      refine callE (hcs _) ?_
      simp -implicitDefEqProofs only [↓slp, slb, ↓reduceIte, reduceCtorEq, jA, jB, jC, jD, jE, jF, jG, jH, jI, jJ, jK, tfTmX, f0, f1, f5, f6, f7, hnb, hn, hka, List.map_cons]; try simp only [fo]
      refine callE (hcn _) ?_
      simp -implicitDefEqProofs only [↓slp, slb, ↓reduceIte, reduceCtorEq, jA, jB, jC, jD, jE, jF, jG, jH, jI, jJ, jK, tfTmX, f0, f1, f5, f6, f7, hnb, pB, hn, hka, List.map_cons]; try simp only [fo]
      refine callE (hsl _) ?_
      simp -implicitDefEqProofs only [↓slp, slb, ↓reduceIte, reduceCtorEq, jA, jB, jC, jD, jE, jF, jG, jH, jI, jJ, jK, tfTmX, f0, f1, f5, f6, f7, hnb, pB]; try simp only [fo]
      (repeat (first | refine aSeq fun X hX => ?_ | refine aBlk ?_ | refine aSkip ?_ | (first | refine aExit ?_ | refine aRet ?_); try simp only [slx, ↓reduceIte, jA, reduceCtorEq] | (first | refine aReg ?_ | refine aDrE ?_ | refine aIf ?_); simp -implicitDefEqProofs only [forall_eq, ↓slp, slb, ↓reduceIte, reduceCtorEq, jA, jB, jC, jD, jE, jF, jG, jH, jI, jJ, jK, tfTmX, f0, f1, f5, f6, f7, hnb, c1, c2, c3, c4, c5, c6, c7, c8, c9, c10, c11, c12, c13, List.map_cons]; try simp only [fo] | refine hX _ _ ?_; clear hX X | clear hX X; refine hX _ _ ?_; clear hX X | clear hX X; clear hX X; refine hX _ _ ?_; clear hX X | intro hlen; unfold maxLen at hlen | apply And.intro; focus (first | omega | assumption | (repeat' apply And.intro) <;> first | omega | assumption)))
      simp only [aPost, Tryd.results11, aRes_n, aRes_t, aRes_c, pack_one, pack_two]
      simp -implicitDefEqProofs only [↓slp, slb, ↓reduceIte, reduceCtorEq, jA, jB, jC, jD, jE, jF, jG, jH, jI, jJ, jK, tfTmX, f6, hnb]; try simp only [fo]
      exact leave_toks htk rfl ⟨rfl, rfl⟩
    · -- kind 13
      have c1 : (e.kind == 1) = false := by simp [hk]
      have c2 : (e.kind == 2) = false := by simp [hk]
      have c3 : (e.kind == 3) = false := by simp [hk]
      have c4 : (e.kind == 4) = false := by simp [hk]
      have c5 : (e.kind == 5) = false := by simp [hk]
      have c6 : (e.kind == 6) = false := by simp [hk]
      have c7 : (e.kind == 7) = false := by simp [hk]
      have c8 : (e.kind == 8) = false := by simp [hk]
      have c9 : (e.kind == 9) = false := by simp [hk]
      have c10 : (e.kind == 10) = false := by simp [hk]
      have c11 : (e.kind == 11) = false := by simp [hk]
      have c12 : (e.kind == 12) = false := by simp [hk]
      have c13 : (e.kind == 13) = true := by simp [hk]
      subst hT
      have hmg := fun m => merge_e ns (t := t) hn hty m
      unfold lkP colC at hmg
      simp only [Ty.pv] at hmg
      obtain ⟨k, hk2, hfk, hvt⟩ := hty
      have hfv := fun m => findVar_any .no E e.name m
      rw [hfk] at hfv
      have cneg : decide ((k : Int) < 0) = false := by simp
      (repeat (first | refine aSeq fun X hX => ?_ | refine aBlk ?_ | refine aSkip ?_ | (first | refine aExit ?_ | refine aRet ?_); try simp only [slx, ↓reduceIte, jA, reduceCtorEq] | (first | refine aReg ?_ | refine aDrE ?_ | refine aIf ?_); simp -implicitDefEqProofs only [forall_eq, ↓slp, slb, ↓reduceIte, reduceCtorEq, jA, jB, jC, jD, jE, jF, jG, jH, jI, jJ, jK, tfTmX, f11, f12, f13, pI, c0, f0, f1, f5, f6, f7, hnb, c1, c2, c3, c4, c5, c6, c7, c8, c9, c10, c11, c12, c13]; try simp only [fo] | refine hX _ _ ?_; clear hX X | clear hX X; refine hX _ _ ?_; clear hX X | clear hX X; clear hX X; refine hX _ _ ?_; clear hX X | intro hlen; unfold maxLen at hlen | apply And.intro; focus (first | omega | assumption | (repeat' apply And.intro) <;> first | omega | assumption)))
      refine callE (hfv _) ?_
      simp -implicitDefEqProofs only [↓slp, slb, ↓reduceIte, reduceCtorEq, jA, jB, jC, jD, jE, jF, jG, jH, jI, jJ, jK, tfTmX, f0, f1, f5, f6, f7, hnb, pI, cneg]; try simp only [fo]
      (repeat (first | refine aSeq fun X hX => ?_ | refine aBlk ?_ | refine aSkip ?_ | (first | refine aExit ?_ | refine aRet ?_); try simp only [slx, ↓reduceIte, jA, reduceCtorEq] | (first | refine aReg ?_ | refine aDrE ?_ | refine aIf ?_); simp -implicitDefEqProofs only [forall_eq, ↓slp, slb, ↓reduceIte, reduceCtorEq, jA, jB, jC, jD, jE, jF, jG, jH, jI, jJ, jK, tfTmX, f11, f12, f13, pI, c0, f0, f1, f5, f6, f7, hnb, c1, c2, c3, c4, c5, c6, c7, c8, c9, c10, c11, c12, c13, cneg, List.map_cons, List.map_nil, Ty.pv]; try simp only [fo] | refine hX _ _ ?_; clear hX X | clear hX X; refine hX _ _ ?_; clear hX X | clear hX X; clear hX X; refine hX _ _ ?_; clear hX X | intro hlen; unfold maxLen at hlen | apply And.intro; focus (first | omega | assumption | (repeat' apply And.intro) <;> first | omega | assumption)))
      refine callMS (hmg _) (by simp only [List.map_cons, List.map_nil, PV.settle, PV.settles, Ex.settle_pv]) ?_
      rintro v mq ⟨rfl, rfl⟩
      simp -implicitDefEqProofs only [↓slp, slb, ↓reduceIte, reduceCtorEq, jA, jB, jC, jD, jE, jF, jG, jH, jI, jJ, jK, tfTmX, f0, f1, f5, f6, f7, hnb]; try simp only [fo]
      (repeat (first | refine aSeq fun X hX => ?_ | refine aBlk ?_ | refine aSkip ?_ | (first | refine aExit ?_ | refine aRet ?_); try simp only [slx, ↓reduceIte, jA, reduceCtorEq] | (first | refine aReg ?_ | refine aDrE ?_ | refine aIf ?_); simp -implicitDefEqProofs only [forall_eq, ↓slp, slb, ↓reduceIte, reduceCtorEq, jA, jB, jC, jD, jE, jF, jG, jH, jI, jJ, jK, tfTmX, f0, f1, f5, f6, f7, hnb, c1, c2, c3, c4, c5, c6, c7, c8, c9, c10, c11, c12, c13, List.map_cons, List.map_nil, Ty.pv]; try simp only [fo] | refine hX _ _ ?_; clear hX X | clear hX X; refine hX _ _ ?_; clear hX X | clear hX X; clear hX X; refine hX _ _ ?_; clear hX X | intro hlen; unfold maxLen at hlen | apply And.intro; focus (first | omega | assumption | (repeat' apply And.intro) <;> first | omega | assumption)))
      simp only [aPost, Tryd.results11, aRes_n, aRes_t, aRes_c, pack_one, pack_two]
      simp -implicitDefEqProofs only [↓slp, slb, ↓reduceIte, reduceCtorEq, jA, jB, jC, jD, jE, jF, jG, jH, jI, jJ, jK, tfTmX, f6, hnb]; try simp only [fo]
      exact leave_toks htk rfl ⟨rfl, rfl⟩
theorem ex_any (ns : List No) {E : List Va} {e : Ex} {t : Ty} (h : HasT E e t) : ExT ns E e t := by
  induction h with
  | mk Ts hl hb _ hf ih => exact ex_step ns E Ts hl hb ih hf
set_option maxHeartbeats 2000000 in
theorem typed_any (ns : List No) {E : List Va} {e : Ex} {t : Ty} (h : HasT E e t) (m : M) : ACalls Tryd.prog 64 [lkP ns, .sl .no (E.map Va.pv), e.pv, t.pv] m (unit m) := by
  have hx := ex_any ns h
  unfold ExT at hx
  unfold lkP colC at *
  simp only [Ty.pv] at *
  have e1 : (t.name.toList == t.name.toList) = true := by simp
  have e2 : (t.kind == t.kind) = true := by simp
  refine ACalls.enter (mu := []) ok_mix Tryd.func64 rfl (by kernel_rfl) (by kernel_rfl) (by simp only [List.length_cons, List.length_nil, Tryd.ntmps64]; omega) ?_
  (repeat (first | refine aSeq fun X hX => ?_ | refine aBlk ?_ | refine aSkip ?_ | (first | refine aExit ?_ | refine aRet ?_); try simp only [slx, ↓reduceIte, jA, reduceCtorEq] | (first | refine aReg ?_ | refine aDrE ?_ | refine aIf ?_); simp -implicitDefEqProofs only [forall_eq, ↓slp, slb, ↓reduceIte, reduceCtorEq, jA, jB, jC, jD, jE, jF, jG, jH, jI, jJ, jK, tfTmX]; try simp only [fo] | refine hX _ _ ?_; clear hX X | clear hX X; refine hX _ _ ?_; clear hX X | clear hX X; clear hX X; refine hX _ _ ?_; clear hX X | intro hlen; unfold maxLen at hlen | apply And.intro; focus (first | omega | assumption | (repeat' apply And.intro) <;> first | omega | assumption)))
  refine callE (hx _) ?_
  simp -implicitDefEqProofs only [↓slp, slb, ↓reduceIte, reduceCtorEq, jA, jB, jC, jD, jE, jF, jG, jH, jI, jJ, jK, tfTmX, e1, e2]; try simp only [fo]
  (repeat (first | refine aSeq fun X hX => ?_ | refine aBlk ?_ | refine aSkip ?_ | (first | refine aExit ?_ | refine aRet ?_); try simp only [slx, ↓reduceIte, jA, reduceCtorEq] | (first | refine aReg ?_ | refine aDrE ?_ | refine aIf ?_); simp -implicitDefEqProofs only [forall_eq, ↓slp, slb, ↓reduceIte, reduceCtorEq, jA, jB, jC, jD, jE, jF, jG, jH, jI, jJ, jK, tfTmX, e1, e2]; try simp only [fo] | refine hX _ _ ?_; clear hX X | clear hX X; refine hX _ _ ?_; clear hX X | clear hX X; clear hX X; refine hX _ _ ?_; clear hX X | intro hlen; unfold maxLen at hlen | apply And.intro; focus (first | omega | assumption | (repeat' apply And.intro) <;> first | omega | assumption)))
  simp only [aPost, Tryd.results64, aRes_n, aRes_t, aRes_c, pack_one, pack_two]
  exact leave_same rfl ⟨rfl, rfl⟩
set_option maxHeartbeats 2000000 in
theorem ways_ty (ns : List No) {E : List Va} (l : List Tr) (hl : WyT E l) (m : M) : ACalls Tryd.prog 66 [lkP ns, .sl .no (E.map Va.pv), .sl .no (l.map Tr.pv)] m (unit m) := by
  have ht := fun (k : Nat) (h : k < l.length) => typed_any ns (hl l[k] (List.getElem_mem h)).1
  have hs := fun (k : Nat) (h : k < l.length) => st_any (hl l[k] (List.getElem_mem h)).2
  unfold lkP colC at *
  simp only [Ty.pv, tyB] at ht
  refine ACalls.enter (mu := []) ok_mix Tryd.func66 rfl (by kernel_rfl) (by kernel_rfl) (by simp only [List.length_cons, List.length_nil, Tryd.ntmps66]; omega) ?_
  (repeat (first | refine aSeq fun X hX => ?_ | refine aBlk ?_ | refine aSkip ?_ | (first | refine aExit ?_ | refine aRet ?_); try simp only [slx, ↓reduceIte, jA, reduceCtorEq] | (first | refine aReg ?_ | refine aIf ?_); simp -implicitDefEqProofs only [forall_eq, ↓slp, slb, ↓reduceIte, reduceCtorEq, jA, jB, jC, jD, jE, jF, jG, jH, jI, jJ, jK, tfTmX]; try simp only [fo] | refine hX _ _ ?_; clear hX X | clear hX X; refine hX _ _ ?_; clear hX X | clear hX X; clear hX X; refine hX _ _ ?_; clear hX X | intro hlen; unfold maxLen at hlen | apply And.intro; focus (first | omega | assumption | (repeat' apply And.intro) <;> first | omega | assumption)))
  obtain ⟨I, hI⟩ : ∃ I : F → M → Prop, ∀ f m', I f m' = (∃ k : Nat, k ≤ l.length ∧ f 0 = .ep [.sl .no [.ag [.v (.string sCol), .sl .no [pS sRed, pS sGreen, pS sBlue], .v (.int .i64 0), .v (.int .i64 0)]], .sl .no (ns.map No.pv)] ∧ f 1 = .sl .no (E.map Va.pv) ∧ f 8 = .sl .no (l.map Tr.pv) ∧ f 9 = pI l.length ∧ f 10 = pI k ∧ m = m') := ⟨_, fun _ _ => rfl⟩
  refine aLoop I (fun f m => l.length - numOf (f 10)) ?_ ?_
  · rw [hI]; exact ⟨0, by omega, rfl, rfl, rfl, rfl, rfl, rfl⟩
  intro f m' hrel
  rw [hI] at hrel
  obtain ⟨k, hk, f0, f1, f8, f9, f10, rfl⟩ := hrel
  cases c1 : decide ((k : Int) < (l.length : Int)) with
  | true =>
    have hlt : k < l.length := by simpa using c1
    have g0 := getD_map Tr.pv l k hlt
    have hi : IntKind.i64.wrap ((k : Int) + 1) = ((k + 1 : Nat) : Int) := by rw [wrap64 (by omega)]; omega
    have hme : numOf (f 10) = k := by rw [f10]; exact Int.toNat_natCast k
    (repeat (first | refine aSeq fun X hX => ?_ | refine aBlk ?_ | refine aSkip ?_ | (first | refine aExit ?_ | refine aRet ?_); try simp only [slx, ↓reduceIte, jA, reduceCtorEq] | (first | refine aReg ?_ | refine aIf ?_); simp -implicitDefEqProofs only [forall_eq, ↓slp, slb, ↓reduceIte, reduceCtorEq, jA, jB, jC, jD, jE, jF, jG, jH, jI, jJ, jK, tfTmX, f0, f1, f8, f9, f10, pI, c1, g0]; try simp only [fo] | refine hX _ _ ?_; clear hX X | clear hX X; refine hX _ _ ?_; clear hX X | clear hX X; clear hX X; refine hX _ _ ?_; clear hX X | intro hlen; unfold maxLen at hlen | apply And.intro; focus (first | omega | assumption | (repeat' apply And.intro) <;> first | omega | assumption)))
    refine callMS (ht k hlt _) (by simp only [List.map_cons, List.map_nil, PV.settle, PV.settles, Ex.settle_pv]) ?_
    rintro v m' ⟨rfl, rfl⟩
    simp -implicitDefEqProofs only [↓slp, slb, ↓reduceIte, reduceCtorEq, jA, jB, jC, jD, jE, jF, jG, jH, jI, jJ, jK, tfTmX]; try simp only [fo]
    (repeat (first | refine aSeq fun X hX => ?_ | refine aBlk ?_ | refine aSkip ?_ | (first | refine aExit ?_ | refine aRet ?_); try simp only [slx, ↓reduceIte, jA, reduceCtorEq] | (first | refine aReg ?_ | refine aIf ?_); simp -implicitDefEqProofs only [forall_eq, ↓slp, slb, ↓reduceIte, reduceCtorEq, jA, jB, jC, jD, jE, jF, jG, jH, jI, jJ, jK, tfTmX]; try simp only [fo] | refine hX _ _ ?_; clear hX X | clear hX X; refine hX _ _ ?_; clear hX X | clear hX X; clear hX X; refine hX _ _ ?_; clear hX X | intro hlen; unfold maxLen at hlen | apply And.intro; focus (first | omega | assumption | (repeat' apply And.intro) <;> first | omega | assumption)))
    refine callMS (hs k hlt _) (by simp only [List.map_cons, List.map_nil, PV.settle, PV.settles, Ex.settle_pv]) ?_
    rintro v m' ⟨rfl, rfl⟩
    simp -implicitDefEqProofs only [↓slp, slb, ↓reduceIte, reduceCtorEq, jA, jB, jC, jD, jE, jF, jG, jH, jI, jJ, jK, tfTmX, pB]; try simp only [fo]
    (repeat (first | refine aSeq fun X hX => ?_ | refine aBlk ?_ | refine aSkip ?_ | (first | refine aExit ?_ | refine aRet ?_); try simp only [slx, ↓reduceIte, jA, reduceCtorEq] | (first | refine aReg ?_ | refine aIf ?_); simp -implicitDefEqProofs only [forall_eq, ↓slp, slb, ↓reduceIte, reduceCtorEq, jA, jB, jC, jD, jE, jF, jG, jH, jI, jJ, jK, tfTmX, f10, pI, hi]; try simp only [fo] | refine hX _ _ ?_; clear hX X | clear hX X; refine hX _ _ ?_; clear hX X | clear hX X; clear hX X; refine hX _ _ ?_; clear hX X | intro hlen; unfold maxLen at hlen | apply And.intro; focus (first | omega | assumption | (repeat' apply And.intro) <;> first | omega | assumption)))
    rw [hI]
    exact ⟨⟨k + 1, hlt, f0, f1, f8, f9, rfl, rfl⟩, by omega⟩
  | false =>
    (repeat (first | refine aSeq fun X hX => ?_ | refine aBlk ?_ | refine aSkip ?_ | (first | refine aExit ?_ | refine aRet ?_); try simp only [slx, ↓reduceIte, jA, reduceCtorEq] | (first | refine aReg ?_ | refine aIf ?_); simp -implicitDefEqProofs only [forall_eq, ↓slp, slb, ↓reduceIte, reduceCtorEq, jA, jB, jC, jD, jE, jF, jG, jH, jI, jJ, jK, tfTmX, f8, f9, f10, pI, c1]; try simp only [fo] | refine hX _ _ ?_; clear hX X | clear hX X; refine hX _ _ ?_; clear hX X | clear hX X; clear hX X; refine hX _ _ ?_; clear hX X | intro hlen; unfold maxLen at hlen | apply And.intro; focus (first | omega | assumption | (repeat' apply And.intro) <;> first | omega | assumption)))
    simp only [aPost, Tryd.results66, aRes_n, aRes_t, aRes_c, pack_one, pack_two]
    exact leave_same rfl ⟨rfl, rfl⟩
end Go.Proofs.YticdboelpgalpaaDoor
