/-
  Expressions of clite compared.
-/
import Derived.Test.YtepjjgnkhcjpcaaCeEx
import Derived.Test.YtepjjgnkhcjpcaaAbKit
import Derived.Test.YtepjjgnkhcjpcaaAbT
set_option linter.unusedVariables false
set_option linter.unusedSimpArgs false
namespace Go.Proofs.Ytepjjgnkhcjpcaa
open Go
set_option linter.defProp false
def tfCe1 := And.intro @td_3 (And.intro @zv_3 (And.intro @Try.underlying3 (And.intro @td_4 (And.intro @zv_4 (And.intro @Try.underlying4 (And.intro @td_5 (And.intro @zv_5 (And.intro @Try.underlying5 (And.intro @td_9 (And.intro @zv_9 (And.intro @Try.underlying9 (And.intro @td_21 (And.intro @zv_21 (And.intro @Try.underlying21 (And.intro @td_41 (And.intro @zv_41 (And.intro @tel_41 (And.intro @Try.underlying41 (And.intro @td_43 (And.intro @zv_43 (And.intro @tf_43 (And.intro @Ex.settle_pv (And.intro @Ex.pure_pv (And.intro @Ex.cells_pv (And.intro @Ex.cs.eq_1 (And.intro @On.pv.eq_1 (And.intro @Ty.pv.eq_1 (And.intro @Va.settle_pv (And.intro @Va.pure_pv (And.intro @Va.cells_pv (And.intro @Va.cs.eq_1 (And.intro @CE.settle_pv (And.intro @CE.pure_pv (And.intro @CE.cells_pv @CE.cs.eq_1))))))))))))))))))))))))))))))))))
-- TYPES: 3 4 5 9 21
-- TNAMES: []clite.Expr; clite.Expr
-- EXX: CE.settle_pv, CE.pure_pv, CE.cells_pv, CE.cs

set_option maxRecDepth 20000 in
set_option maxHeartbeats 400000 in
theorem eqFuncCE_any (o o' : Own) (l r : List CE) (m : M) (hf : ∀ k (hk : k < l.length) (hk' : k < r.length) (m : M), ACalls Try.prog 21 [CE.pv l[k], CE.pv r[k]] m (fun v m' => v = pB (CE.same l[k] r[k]) ∧ m' = m)) :
    ACalls Try.prog 37 [.sl o (l.map CE.pv), .sl o' (r.map CE.pv), .fn (.func 21) [] []] m (fun v m' => v = pB (sameL CE.same l r) ∧ m' = m) := by
  refine ACalls.enter (mu := []) ok_mix Try.func37 rfl (by kernel_rfl) (by kernel_rfl) (by simp only [List.length_cons, List.length_nil, Try.ntmps37]; omega) ?_
  (repeat (first | (refine aSeq (fun X hX => ?_)) | (refine aBlk ?_) | (refine aSkip ?_) | ((first | refine aReg ?_ | refine aDrw (fun m2 => m2 = _) (by kernel_rfl) rfl ?_); simp -implicitDefEqProofs only [forall_eq, ↓slp, slb, ↓reduceIte, reduceCtorEq, Nat.reduceEqDiff, Nat.reduceAdd, Nat.reduceMul, Nat.reduceLT, Nat.reduceLeDiff, Nat.reduceBEq, Nat.reduceBNe, Int.reduceLE, Int.reduceLT, Int.reduceToNat, Int.reduceEq, tfCe1]; try simp only [Ex.fold, Ex.foldcs, ← Va.pv.eq_1]) | (refine aExit ?_; simp only [slx, ↓reduceIte, Nat.reduceEqDiff, reduceCtorEq]) | (refine aRet ?_; try simp only [slx, ↓reduceIte, Nat.reduceEqDiff, reduceCtorEq]) | (refine hX _ _ ?_; clear hX X) | (clear hX X; refine hX _ _ ?_; clear hX X) | (clear hX X; clear hX X; refine hX _ _ ?_; clear hX X) | (intro hlen; unfold maxLen at hlen) | (apply And.intro; (focus (first | omega | assumption | (repeat' apply And.intro) <;> first | omega | assumption)))))
  refine aIf ?_; simp -implicitDefEqProofs only [↓slp, slb, ↓reduceIte, reduceCtorEq, Nat.reduceEqDiff, Nat.reduceAdd, Nat.reduceMul, Nat.reduceLT, Nat.reduceLeDiff, Nat.reduceBEq, Nat.reduceBNe, Int.reduceLE, Int.reduceLT, Int.reduceToNat, Int.reduceEq]; refine ⟨fun hb => ?_, fun hb => ?_⟩
  · (repeat (first | (refine aSeq (fun X hX => ?_)) | (refine aBlk ?_) | (refine aSkip ?_) | ((first | refine aReg ?_ | refine aDrw (fun m2 => m2 = _) (by kernel_rfl) rfl ?_); simp -implicitDefEqProofs only [forall_eq, ↓slp, slb, ↓reduceIte, reduceCtorEq, Nat.reduceEqDiff, Nat.reduceAdd, Nat.reduceMul, Nat.reduceLT, Nat.reduceLeDiff, Nat.reduceBEq, Nat.reduceBNe, Int.reduceLE, Int.reduceLT, Int.reduceToNat, Int.reduceEq, tfCe1]; try simp only [Ex.fold, Ex.foldcs, ← Va.pv.eq_1]) | (refine aExit ?_; simp only [slx, ↓reduceIte, Nat.reduceEqDiff, reduceCtorEq]) | (refine aRet ?_; try simp only [slx, ↓reduceIte, Nat.reduceEqDiff, reduceCtorEq]) | (refine hX _ _ ?_; clear hX X) | (clear hX X; refine hX _ _ ?_; clear hX X) | (clear hX X; clear hX X; refine hX _ _ ?_; clear hX X) | (intro hlen; unfold maxLen at hlen) | (apply And.intro; (focus (first | omega | assumption | (repeat' apply And.intro) <;> first | omega | assumption)))))
    simp only [aPost, Try.results37, aRes_n, aRes_t, aRes_c, pack_one, pack_two]
    refine leave_same rfl ⟨?_, rfl⟩
    rw [sameL_ne (by simp at hb; omega)]; rfl
  have hl : l.length = r.length := by simp at hb; omega
  (repeat (first | (refine aSeq (fun X hX => ?_)) | (refine aBlk ?_) | (refine aSkip ?_) | ((first | refine aReg ?_ | refine aDrw (fun m2 => m2 = _) (by kernel_rfl) rfl ?_); simp -implicitDefEqProofs only [forall_eq, ↓slp, slb, ↓reduceIte, reduceCtorEq, Nat.reduceEqDiff, Nat.reduceAdd, Nat.reduceMul, Nat.reduceLT, Nat.reduceLeDiff, Nat.reduceBEq, Nat.reduceBNe, Int.reduceLE, Int.reduceLT, Int.reduceToNat, Int.reduceEq, tfCe1]; try simp only [Ex.fold, Ex.foldcs, ← Va.pv.eq_1]) | (refine aExit ?_; simp only [slx, ↓reduceIte, Nat.reduceEqDiff, reduceCtorEq]) | (refine aRet ?_; try simp only [slx, ↓reduceIte, Nat.reduceEqDiff, reduceCtorEq]) | (refine hX _ _ ?_; clear hX X) | (clear hX X; refine hX _ _ ?_; clear hX X) | (clear hX X; clear hX X; refine hX _ _ ?_; clear hX X) | (intro hlen; unfold maxLen at hlen) | (apply And.intro; (focus (first | omega | assumption | (repeat' apply And.intro) <;> first | omega | assumption)))))
  obtain ⟨I, hI⟩ : ∃ I : F → M → Prop, ∀ f m', I f m' = (∃ k : Nat, k ≤ l.length ∧ f 1 = .sl o' (r.map CE.pv) ∧ f 2 = .fn (.func 21) [] [] ∧ f 15 = .sl o (l.map CE.pv) ∧ f 16 = pI l.length ∧ f 17 = pI k ∧ sameL CE.same l r = sameL CE.same (l.drop k) (r.drop k) ∧ m' = m) := ⟨_, fun _ _ => rfl⟩
  refine aLoop I (fun f m => l.length - numOf (f 17)) ?_ ?_
  · rw [hI]; exact ⟨0, by omega, rfl, rfl, rfl, rfl, rfl, rfl, rfl⟩
  intro f m' hrel
  rw [hI] at hrel
  obtain ⟨k, hk, h1, h2, h15, h16, h17, hs, rfl⟩ := hrel
  (repeat (first | (refine aSeq (fun X hX => ?_)) | (refine aBlk ?_) | (refine aSkip ?_) | ((first | refine aReg ?_ | refine aDrw (fun m2 => m2 = _) (by kernel_rfl) rfl ?_); simp -implicitDefEqProofs only [forall_eq, ↓slp, slb, ↓reduceIte, reduceCtorEq, Nat.reduceEqDiff, Nat.reduceAdd, Nat.reduceMul, Nat.reduceLT, Nat.reduceLeDiff, Nat.reduceBEq, Nat.reduceBNe, Int.reduceLE, Int.reduceLT, Int.reduceToNat, Int.reduceEq, tfCe1, h1, h2, h15, h16, h17, pI]; try simp only [Ex.fold, Ex.foldcs, ← Va.pv.eq_1]) | (refine aExit ?_; simp only [slx, ↓reduceIte, Nat.reduceEqDiff, reduceCtorEq]) | (refine aRet ?_; try simp only [slx, ↓reduceIte, Nat.reduceEqDiff, reduceCtorEq]) | (refine hX _ _ ?_; clear hX X) | (clear hX X; refine hX _ _ ?_; clear hX X) | (clear hX X; clear hX X; refine hX _ _ ?_; clear hX X) | (intro hlen; unfold maxLen at hlen) | (apply And.intro; (focus (first | omega | assumption | (repeat' apply And.intro) <;> first | omega | assumption)))))
  refine aIf ?_; simp -implicitDefEqProofs only [↓slp, slb, ↓reduceIte, reduceCtorEq, Nat.reduceEqDiff, Nat.reduceAdd, Nat.reduceMul, Nat.reduceLT, Nat.reduceLeDiff, Nat.reduceBEq, Nat.reduceBNe, Int.reduceLE, Int.reduceLT, Int.reduceToNat, Int.reduceEq]; refine ⟨fun hb => ?_, fun hb => ?_⟩
  · have hlt : k < l.length := by simpa using hb
    have hlt' : k < r.length := by omega
    have g0 := getD_map CE.pv l k hlt
    have g1 := getD_map CE.pv r k hlt'
    have hi : IntKind.i64.wrap ((k : Int) + 1) = ((k + 1 : Nat) : Int) := by rw [wrap64 (by omega)]; omega
    have hd := sameL_drop (R := CE.same) hlt hlt'
    (repeat (first | (refine aSeq (fun X hX => ?_)) | (refine aBlk ?_) | (refine aSkip ?_) | ((first | refine aReg ?_ | refine aDrw (fun m2 => m2 = _) (by kernel_rfl) rfl ?_); simp -implicitDefEqProofs only [forall_eq, ↓slp, slb, ↓reduceIte, reduceCtorEq, Nat.reduceEqDiff, Nat.reduceAdd, Nat.reduceMul, Nat.reduceLT, Nat.reduceLeDiff, Nat.reduceBEq, Nat.reduceBNe, Int.reduceLE, Int.reduceLT, Int.reduceToNat, Int.reduceEq, tfCe1, h1, h2, h15, h16, h17, pI, g0, g1]; try simp only [Ex.fold, Ex.foldcs, ← Va.pv.eq_1]) | (refine aExit ?_; simp only [slx, ↓reduceIte, Nat.reduceEqDiff, reduceCtorEq]) | (refine aRet ?_; try simp only [slx, ↓reduceIte, Nat.reduceEqDiff, reduceCtorEq]) | (refine hX _ _ ?_; clear hX X) | (clear hX X; refine hX _ _ ?_; clear hX X) | (clear hX X; clear hX X; refine hX _ _ ?_; clear hX X) | (intro hlen; unfold maxLen at hlen) | (apply And.intro; (focus (first | omega | assumption | (repeat' apply And.intro) <;> first | omega | assumption)))))
    simp only [CE.foldcs, CE.fold]
    refine callE (hf k hlt hlt' _) ?_
    simp -implicitDefEqProofs only [↓slp, slb, ↓reduceIte, reduceCtorEq, Nat.reduceEqDiff, Nat.reduceAdd, Nat.reduceMul, Nat.reduceLT, Nat.reduceLeDiff, Nat.reduceBEq, Nat.reduceBNe, Int.reduceLE, Int.reduceLT, Int.reduceToNat, Int.reduceEq, tfCe1, h1, h2, h15, h16, h17, pI, pB]; try simp only [Ex.fold, Ex.foldcs, ← Va.pv.eq_1]
    (repeat (first | (refine aSeq (fun X hX => ?_)) | (refine aBlk ?_) | (refine aSkip ?_) | ((first | refine aReg ?_ | refine aDrw (fun m2 => m2 = _) (by kernel_rfl) rfl ?_); simp -implicitDefEqProofs only [forall_eq, ↓slp, slb, ↓reduceIte, reduceCtorEq, Nat.reduceEqDiff, Nat.reduceAdd, Nat.reduceMul, Nat.reduceLT, Nat.reduceLeDiff, Nat.reduceBEq, Nat.reduceBNe, Int.reduceLE, Int.reduceLT, Int.reduceToNat, Int.reduceEq, tfCe1, h1, h2, h15, h16, h17, pI, g0, g1]; try simp only [Ex.fold, Ex.foldcs, ← Va.pv.eq_1]) | (refine aExit ?_; simp only [slx, ↓reduceIte, Nat.reduceEqDiff, reduceCtorEq]) | (refine aRet ?_; try simp only [slx, ↓reduceIte, Nat.reduceEqDiff, reduceCtorEq]) | (refine hX _ _ ?_; clear hX X) | (clear hX X; refine hX _ _ ?_; clear hX X) | (clear hX X; clear hX X; refine hX _ _ ?_; clear hX X) | (intro hlen; unfold maxLen at hlen) | (apply And.intro; (focus (first | omega | assumption | (repeat' apply And.intro) <;> first | omega | assumption)))))
    refine aIf ?_; simp -implicitDefEqProofs only [↓slp, slb, ↓reduceIte, reduceCtorEq, Nat.reduceEqDiff, Nat.reduceAdd, Nat.reduceMul, Nat.reduceLT, Nat.reduceLeDiff, Nat.reduceBEq, Nat.reduceBNe, Int.reduceLE, Int.reduceLT, Int.reduceToNat, Int.reduceEq]; refine ⟨fun hb => ?_, fun hb => ?_⟩
    · (repeat (first | (refine aSeq (fun X hX => ?_)) | (refine aBlk ?_) | (refine aSkip ?_) | ((first | refine aReg ?_ | refine aDrw (fun m2 => m2 = _) (by kernel_rfl) rfl ?_); simp -implicitDefEqProofs only [forall_eq, ↓slp, slb, ↓reduceIte, reduceCtorEq, Nat.reduceEqDiff, Nat.reduceAdd, Nat.reduceMul, Nat.reduceLT, Nat.reduceLeDiff, Nat.reduceBEq, Nat.reduceBNe, Int.reduceLE, Int.reduceLT, Int.reduceToNat, Int.reduceEq, tfCe1]; try simp only [Ex.fold, Ex.foldcs, ← Va.pv.eq_1]) | (refine aExit ?_; simp only [slx, ↓reduceIte, Nat.reduceEqDiff, reduceCtorEq]) | (refine aRet ?_; try simp only [slx, ↓reduceIte, Nat.reduceEqDiff, reduceCtorEq]) | (refine hX _ _ ?_; clear hX X) | (clear hX X; refine hX _ _ ?_; clear hX X) | (clear hX X; clear hX X; refine hX _ _ ?_; clear hX X) | (intro hlen; unfold maxLen at hlen) | (apply And.intro; (focus (first | omega | assumption | (repeat' apply And.intro) <;> first | omega | assumption)))))
      simp only [aPost, Try.results37, aRes_n, aRes_t, aRes_c, pack_one, pack_two]
      refine leave_same rfl ⟨?_, rfl⟩
      have : CE.same l[k] r[k] = false := by simpa using hb
      rw [hs, hd, this]; rfl
    · have he : CE.same l[k] r[k] = true := by simpa using hb
      (repeat (first | (refine aSeq (fun X hX => ?_)) | (refine aBlk ?_) | (refine aSkip ?_) | ((first | refine aReg ?_ | refine aDrw (fun m2 => m2 = _) (by kernel_rfl) rfl ?_); simp -implicitDefEqProofs only [forall_eq, ↓slp, slb, ↓reduceIte, reduceCtorEq, Nat.reduceEqDiff, Nat.reduceAdd, Nat.reduceMul, Nat.reduceLT, Nat.reduceLeDiff, Nat.reduceBEq, Nat.reduceBNe, Int.reduceLE, Int.reduceLT, Int.reduceToNat, Int.reduceEq, tfCe1, h1, h2, h15, h16, h17, pI, hi]; try simp only [Ex.fold, Ex.foldcs, ← Va.pv.eq_1]) | (refine aExit ?_; simp only [slx, ↓reduceIte, Nat.reduceEqDiff, reduceCtorEq]) | (refine aRet ?_; try simp only [slx, ↓reduceIte, Nat.reduceEqDiff, reduceCtorEq]) | (refine hX _ _ ?_; clear hX X) | (clear hX X; refine hX _ _ ?_; clear hX X) | (clear hX X; clear hX X; refine hX _ _ ?_; clear hX X) | (intro hlen; unfold maxLen at hlen) | (apply And.intro; (focus (first | omega | assumption | (repeat' apply And.intro) <;> first | omega | assumption)))))
      rw [hI]
      refine ⟨⟨k + 1, hlt, h1, h2, h15, h16, rfl, by rw [hs, hd, he]; rfl, rfl⟩, ?_⟩
      first | omega | (simp only [↓slp, slb, ↓reduceIte, reduceCtorEq, Nat.reduceEqDiff, Nat.reduceAdd, Nat.reduceMul, Nat.reduceLT, Nat.reduceLeDiff, Nat.reduceBEq, Nat.reduceBNe, Int.reduceLE, Int.reduceLT, Int.reduceToNat, Int.reduceEq, h17, pI]; omega)
  · have hlt : k = l.length := by simp at hb; omega
    subst hlt
    (repeat (first | (refine aSeq (fun X hX => ?_)) | (refine aBlk ?_) | (refine aSkip ?_) | ((first | refine aReg ?_ | refine aDrw (fun m2 => m2 = _) (by kernel_rfl) rfl ?_); simp -implicitDefEqProofs only [forall_eq, ↓slp, slb, ↓reduceIte, reduceCtorEq, Nat.reduceEqDiff, Nat.reduceAdd, Nat.reduceMul, Nat.reduceLT, Nat.reduceLeDiff, Nat.reduceBEq, Nat.reduceBNe, Int.reduceLE, Int.reduceLT, Int.reduceToNat, Int.reduceEq, tfCe1]; try simp only [Ex.fold, Ex.foldcs, ← Va.pv.eq_1]) | (refine aExit ?_; simp only [slx, ↓reduceIte, Nat.reduceEqDiff, reduceCtorEq]) | (refine aRet ?_; try simp only [slx, ↓reduceIte, Nat.reduceEqDiff, reduceCtorEq]) | (refine hX _ _ ?_; clear hX X) | (clear hX X; refine hX _ _ ?_; clear hX X) | (clear hX X; clear hX X; refine hX _ _ ?_; clear hX X) | (intro hlen; unfold maxLen at hlen) | (apply And.intro; (focus (first | omega | assumption | (repeat' apply And.intro) <;> first | omega | assumption)))))
    simp only [aPost, Try.results37, aRes_n, aRes_t, aRes_c, pack_one, pack_two]
    refine leave_same rfl ⟨?_, rfl⟩
    rw [hs, sameL_end hl]; rfl

set_option maxRecDepth 20000 in
set_option maxHeartbeats 1000000 in
theorem sameCE_any (a : CE) : ∀ (b : CE) (m : M), ACalls Try.prog 21 [a.pv, b.pv] m (fun v m' => v = pB (a.same b) ∧ m' = m) := by
  refine CE.ind (motive := fun a => ∀ (b : CE) (m : M), ACalls Try.prog 21 [a.pv, b.pv] m (fun v m' => v = pB (a.same b) ∧ m' = m)) (fun a IH => ?_) a
  intro b m
  refine ACalls.enter (mu := []) ok_mix Try.func21 rfl (by kernel_rfl) (by kernel_rfl) (by simp only [List.length_cons, List.length_nil, Try.ntmps21]; omega) ?_
  have hsame := CE.same_eq a b
  refine aSeq (fun X hX => ?_)
  refine aReg ?_; simp -implicitDefEqProofs only [↓slp, slb, ↓reduceIte, reduceCtorEq, Nat.reduceEqDiff, Nat.reduceAdd, Nat.reduceMul, Nat.reduceLT, Nat.reduceLeDiff, Nat.reduceBEq, Nat.reduceBNe, Int.reduceLE, Int.reduceLT, Int.reduceToNat, Int.reduceEq, tfCe1]
  refine hX _ _ ?_; clear hX X
  cases c1 : (a.kind == b.kind) with
  | false =>
    (repeat (first | (refine aSeq (fun X hX => ?_)) | (refine aBlk ?_) | (refine aSkip ?_) | ((first | refine aReg ?_ | refine aDrw (fun m2 => m2 = _) (by kernel_rfl) rfl ?_); simp -implicitDefEqProofs only [forall_eq, ↓slp, slb, ↓reduceIte, reduceCtorEq, Nat.reduceEqDiff, Nat.reduceAdd, Nat.reduceMul, Nat.reduceLT, Nat.reduceLeDiff, Nat.reduceBEq, Nat.reduceBNe, Int.reduceLE, Int.reduceLT, Int.reduceToNat, Int.reduceEq, tfCe1, c1]; try simp only [Ex.fold, Ex.foldcs, ← Va.pv.eq_1]) | (refine aExit ?_; simp only [slx, ↓reduceIte, Nat.reduceEqDiff, reduceCtorEq]) | (refine aRet ?_; try simp only [slx, ↓reduceIte, Nat.reduceEqDiff, reduceCtorEq]) | (refine hX _ _ ?_; clear hX X) | (clear hX X; refine hX _ _ ?_; clear hX X) | (clear hX X; clear hX X; refine hX _ _ ?_; clear hX X) | (intro hlen; unfold maxLen at hlen) | (apply And.intro; (focus (first | omega | assumption | (repeat' apply And.intro) <;> first | omega | assumption)))))
    simp only [aPost, Try.results21, aRes_n, aRes_t, aRes_c, pack_one, pack_two]
    refine leave_same rfl ⟨?_, rfl⟩
    have hv : a.same b = false := by rw [hsame]; simp [c1, eqS]
    rw [hv]; rfl
  | true =>
    cases c2 : (a.op == b.op) with
    | false =>
      (repeat (first | (refine aSeq (fun X hX => ?_)) | (refine aBlk ?_) | (refine aSkip ?_) | ((first | refine aReg ?_ | refine aDrw (fun m2 => m2 = _) (by kernel_rfl) rfl ?_); simp -implicitDefEqProofs only [forall_eq, ↓slp, slb, ↓reduceIte, reduceCtorEq, Nat.reduceEqDiff, Nat.reduceAdd, Nat.reduceMul, Nat.reduceLT, Nat.reduceLeDiff, Nat.reduceBEq, Nat.reduceBNe, Int.reduceLE, Int.reduceLT, Int.reduceToNat, Int.reduceEq, tfCe1, c1, c2]; try simp only [Ex.fold, Ex.foldcs, ← Va.pv.eq_1]) | (refine aExit ?_; simp only [slx, ↓reduceIte, Nat.reduceEqDiff, reduceCtorEq]) | (refine aRet ?_; try simp only [slx, ↓reduceIte, Nat.reduceEqDiff, reduceCtorEq]) | (refine hX _ _ ?_; clear hX X) | (clear hX X; refine hX _ _ ?_; clear hX X) | (clear hX X; clear hX X; refine hX _ _ ?_; clear hX X) | (intro hlen; unfold maxLen at hlen) | (apply And.intro; (focus (first | omega | assumption | (repeat' apply And.intro) <;> first | omega | assumption)))))
      simp only [aPost, Try.results21, aRes_n, aRes_t, aRes_c, pack_one, pack_two]
      refine leave_same rfl ⟨?_, rfl⟩
      have hv : a.same b = false := by rw [hsame]; simp [c1, c2, eqS]
      rw [hv]; rfl
    | true =>
      cases c3 : (a.n == b.n) with
      | false =>
        (repeat (first | (refine aSeq (fun X hX => ?_)) | (refine aBlk ?_) | (refine aSkip ?_) | ((first | refine aReg ?_ | refine aDrw (fun m2 => m2 = _) (by kernel_rfl) rfl ?_); simp -implicitDefEqProofs only [forall_eq, ↓slp, slb, ↓reduceIte, reduceCtorEq, Nat.reduceEqDiff, Nat.reduceAdd, Nat.reduceMul, Nat.reduceLT, Nat.reduceLeDiff, Nat.reduceBEq, Nat.reduceBNe, Int.reduceLE, Int.reduceLT, Int.reduceToNat, Int.reduceEq, tfCe1, c1, c2, c3]; try simp only [Ex.fold, Ex.foldcs, ← Va.pv.eq_1]) | (refine aExit ?_; simp only [slx, ↓reduceIte, Nat.reduceEqDiff, reduceCtorEq]) | (refine aRet ?_; try simp only [slx, ↓reduceIte, Nat.reduceEqDiff, reduceCtorEq]) | (refine hX _ _ ?_; clear hX X) | (clear hX X; refine hX _ _ ?_; clear hX X) | (clear hX X; clear hX X; refine hX _ _ ?_; clear hX X) | (intro hlen; unfold maxLen at hlen) | (apply And.intro; (focus (first | omega | assumption | (repeat' apply And.intro) <;> first | omega | assumption)))))
        simp only [aPost, Try.results21, aRes_n, aRes_t, aRes_c, pack_one, pack_two]
        refine leave_same rfl ⟨?_, rfl⟩
        have hv : a.same b = false := by rw [hsame]; simp [c1, c2, c3, eqS]
        rw [hv]; rfl
      | true =>
        cases c4 : (a.name.toList == b.name.toList) with
        | false =>
          (repeat (first | (refine aSeq (fun X hX => ?_)) | (refine aBlk ?_) | (refine aSkip ?_) | ((first | refine aReg ?_ | refine aDrw (fun m2 => m2 = _) (by kernel_rfl) rfl ?_); simp -implicitDefEqProofs only [forall_eq, ↓slp, slb, ↓reduceIte, reduceCtorEq, Nat.reduceEqDiff, Nat.reduceAdd, Nat.reduceMul, Nat.reduceLT, Nat.reduceLeDiff, Nat.reduceBEq, Nat.reduceBNe, Int.reduceLE, Int.reduceLT, Int.reduceToNat, Int.reduceEq, tfCe1, c1, c2, c3, c4]; try simp only [Ex.fold, Ex.foldcs, ← Va.pv.eq_1]) | (refine aExit ?_; simp only [slx, ↓reduceIte, Nat.reduceEqDiff, reduceCtorEq]) | (refine aRet ?_; try simp only [slx, ↓reduceIte, Nat.reduceEqDiff, reduceCtorEq]) | (refine hX _ _ ?_; clear hX X) | (clear hX X; refine hX _ _ ?_; clear hX X) | (clear hX X; clear hX X; refine hX _ _ ?_; clear hX X) | (intro hlen; unfold maxLen at hlen) | (apply And.intro; (focus (first | omega | assumption | (repeat' apply And.intro) <;> first | omega | assumption)))))
          simp only [aPost, Try.results21, aRes_n, aRes_t, aRes_c, pack_one, pack_two]
          refine leave_same rfl ⟨?_, rfl⟩
          have hv : a.same b = false := by rw [hsame]; simp [c1, c2, c3, c4, eqS]
          rw [hv]; rfl
        | true =>
          (repeat (first | (refine aSeq (fun X hX => ?_)) | (refine aBlk ?_) | (refine aSkip ?_) | ((first | refine aReg ?_ | refine aDrw (fun m2 => m2 = _) (by kernel_rfl) rfl ?_); simp -implicitDefEqProofs only [forall_eq, ↓slp, slb, ↓reduceIte, reduceCtorEq, Nat.reduceEqDiff, Nat.reduceAdd, Nat.reduceMul, Nat.reduceLT, Nat.reduceLeDiff, Nat.reduceBEq, Nat.reduceBNe, Int.reduceLE, Int.reduceLT, Int.reduceToNat, Int.reduceEq, tfCe1, c1, c2, c3, c4]; try simp only [Ex.fold, Ex.foldcs, ← Va.pv.eq_1]) | (refine aExit ?_; simp only [slx, ↓reduceIte, Nat.reduceEqDiff, reduceCtorEq]) | (refine aRet ?_; try simp only [slx, ↓reduceIte, Nat.reduceEqDiff, reduceCtorEq]) | (refine hX _ _ ?_; clear hX X) | (clear hX X; refine hX _ _ ?_; clear hX X) | (clear hX X; clear hX X; refine hX _ _ ?_; clear hX X) | (intro hlen; unfold maxLen at hlen) | (apply And.intro; (focus (first | omega | assumption | (repeat' apply And.intro) <;> first | omega | assumption)))))
          refine callE (eqFuncCE_any _ _ _ _ _ (fun k hk hk' m => IH k hk _ m)) ?_
          simp -implicitDefEqProofs only [↓slp, slb, ↓reduceIte, reduceCtorEq, Nat.reduceEqDiff, Nat.reduceAdd, Nat.reduceMul, Nat.reduceLT, Nat.reduceLeDiff, Nat.reduceBEq, Nat.reduceBNe, Int.reduceLE, Int.reduceLT, Int.reduceToNat, Int.reduceEq, tfCe1, c1, c2, c3, c4]; try simp only [Ex.fold, Ex.foldcs, ← Va.pv.eq_1]
          (repeat (first | (refine aSeq (fun X hX => ?_)) | (refine aBlk ?_) | (refine aSkip ?_) | ((first | refine aReg ?_ | refine aDrw (fun m2 => m2 = _) (by kernel_rfl) rfl ?_); simp -implicitDefEqProofs only [forall_eq, ↓slp, slb, ↓reduceIte, reduceCtorEq, Nat.reduceEqDiff, Nat.reduceAdd, Nat.reduceMul, Nat.reduceLT, Nat.reduceLeDiff, Nat.reduceBEq, Nat.reduceBNe, Int.reduceLE, Int.reduceLT, Int.reduceToNat, Int.reduceEq, tfCe1, c1, c2, c3, c4]; try simp only [Ex.fold, Ex.foldcs, ← Va.pv.eq_1]) | (refine aExit ?_; simp only [slx, ↓reduceIte, Nat.reduceEqDiff, reduceCtorEq]) | (refine aRet ?_; try simp only [slx, ↓reduceIte, Nat.reduceEqDiff, reduceCtorEq]) | (refine hX _ _ ?_; clear hX X) | (clear hX X; refine hX _ _ ?_; clear hX X) | (clear hX X; clear hX X; refine hX _ _ ?_; clear hX X) | (intro hlen; unfold maxLen at hlen) | (apply And.intro; (focus (first | omega | assumption | (repeat' apply And.intro) <;> first | omega | assumption)))))
          simp only [aPost, Try.results21, aRes_n, aRes_t, aRes_c, pack_one, pack_two]
          refine leave_same rfl ⟨?_, rfl⟩
          have hv : a.same b = sameL CE.same a.kids b.kids := by rw [hsame]; simp [c1, c2, c3, c4, eqS]
          rw [hv]; rfl
end Go.Proofs.Ytepjjgnkhcjpcaa
