/-
  The law InitsLate.
-/
import Derived.Test.YtfemdelaciccmaaInC
import Derived.Test.YtfemdelaciccmaaInAw
import Derived.Test.YtfemdelaciccmaaAbTail
set_option linter.unusedVariables false
set_option linter.unusedSimpArgs false
namespace Go.Proofs.Ytfemdelaciccmaa
open Nat renaming reduceEqDiff → jA, reduceAdd → jB, reduceMul → jC, reduceLT → jD, reduceLeDiff → jE, reduceBEq → jF, reduceBNe → jG
open Int renaming reduceLE → jH, reduceLT → jI, reduceToNat → jJ, reduceEq → jK
open Go
set_option maxRecDepth 20000
-- TNAMES: int; uint8; int32; string; bool; []string; []api.Expr; api.Expr; api.Pos; api.Type; api.On; []api.On; api.Var; []api.Var; api.Equation; []api.Equation; api.Block; []uint8
set_option linter.defProp false
def tfInW := And.intro @tfA (And.intro @Ex.settle_pv (And.intro @Ex.pure_pv (And.intro @Ex.cells_pv (And.intro @Ex.cs.eq_1 (And.intro @On.pv.eq_1 (And.intro @Ty.pv.eq_1 (And.intro @Va.settle_pv (And.intro @Va.pure_pv (And.intro @Va.cells_pv @Va.cs.eq_1)))))))))

theorem vNm_inj : ∀ i, i < 12 → ∀ j, j < 12 → eqS (vNm i) (vNm j) = true → i = j := by decide +kernel
theorem chV_names (n : Nat) : (chV n).map Va.name = (List.range n).map vNm := by
  unfold chV; rw [List.map_map]; rfl
theorem chV_nodup {n : Nat} (hn : n ≤ 12) : ((chV n).map Va.name).Nodup := by
  rw [chV_names]
  unfold List.Nodup
  rw [List.pairwise_map]
  refine List.Pairwise.imp_of_mem ?_ (List.nodup_range (n := n))
  intro a b ha hb hab he
  rw [List.mem_range] at ha hb
  exact hab (vNm_inj a (by omega) b (by omega) (eqS_iff.2 he))
theorem late_len {names S : List Str} (hnd : names.Nodup) (hS : LateOk names S) : (names.filter fun s => hasN S s).length = S.length := by
  refine Nat.le_antisymm (nd_len _ _ (List.Pairwise.filter _ hnd) fun s hs => ?_) (nd_len _ _ hS.nd fun s hs => ?_)
  · exact (hasN_iff S s).1 (List.mem_filter.1 hs).2
  · exact List.mem_filter.2 ⟨hS.sub s hs, (hasN_iff S s).2 hs⟩
theorem filter_at {p : Str → Bool} {names : List Str} {k : Nat} (hk : k < names.length) : ∃ B, names.filter p = (names.take k).filter p ++ ((if p names[k] then [names[k]] else []) ++ B) ∧ (names.take (k + 1)).filter p = (names.take k).filter p ++ (if p names[k] then [names[k]] else []) := by
  refine ⟨(names.drop (k + 1)).filter p, ?_, ?_⟩
  · conv => lhs; rw [← List.take_append_drop k names, List.drop_eq_getElem_cons hk, List.filter_append, List.filter_cons]
    split <;> rfl
  · rw [List.take_succ_eq_append_getElem hk, List.filter_append, List.filter_cons, List.filter_nil]
set_option maxHeartbeats 4000000 in
theorem lateLaw_any (l : List Int) (hel : ∀ x ∈ l, 0 ≤ x ∧ x ≤ 255) :
    ACalls Try.prog 4 [.sl .no (l.map pU)] M0 (fun v m' => v = .v (.bool true)) := by
  refine ACalls.enter (mu := []) ok_mix Try.func4 rfl (by kernel_rfl) (by kernel_rfl) (by simp only [List.length_cons, List.length_nil, Try.ntmps4]; omega) ?_
  (repeat (first | refine aSeq fun X hX => ?_ | refine aBlk ?_ | refine aSkip ?_ | (first | refine aExit ?_ | refine aRet ?_); try simp only [slx, ↓reduceIte, Nat.reduceEqDiff, reduceCtorEq] | (first | refine aReg ?_ | refine aDrE ?_); simp -implicitDefEqProofs only [forall_eq, ↓slp, slb, ↓reduceIte, reduceCtorEq, jA, jB, jC, jD, jE, jF, jG, jH, jI, jJ, jK, tfInW]; try simp only [Ex.fold, Ex.foldcs, ← Va.pv.eq_1] | refine hX _ _ ?_; clear hX X | clear hX X; refine hX _ _ ?_; clear hX X | clear hX X; clear hX X; refine hX _ _ ?_; clear hX X | intro hlen; unfold maxLen at hlen | apply And.intro; focus (first | omega | assumption | (repeat' apply And.intro) <;> first | omega | assumption)))
  refine callE (awake_run _) ?_
  simp -implicitDefEqProofs only [↓slp, slb, ↓reduceIte, reduceCtorEq, jA, jB, jC, jD, jE, jF, jG, jH, jI, jJ, jK, tfInW]; try simp only [Ex.fold, Ex.foldcs, ← Va.pv.eq_1]
  (repeat (first | refine aSeq fun X hX => ?_ | refine aBlk ?_ | refine aSkip ?_ | (first | refine aExit ?_ | refine aRet ?_); try simp only [slx, ↓reduceIte, Nat.reduceEqDiff, reduceCtorEq] | (first | refine aReg ?_ | refine aIf ?_); simp -implicitDefEqProofs only [forall_eq, ↓slp, slb, ↓reduceIte, reduceCtorEq, jA, jB, jC, jD, jE, jF, jG, jH, jI, jJ, jK, tfInW]; try simp only [Ex.fold, Ex.foldcs, ← Va.pv.eq_1] | refine hX _ _ ?_; clear hX X | clear hX X; refine hX _ _ ?_; clear hX X | clear hX X; clear hX X; refine hX _ _ ?_; clear hX X | intro hlen; unfold maxLen at hlen | apply And.intro; focus (first | omega | assumption | (repeat' apply And.intro) <;> first | omega | assumption)))
  refine callM (chain_any l hel _) ?_
  rintro v m' ⟨n, Q, hn, hQ, rfl, rfl⟩
  have hlen := chV_len n
  simp -implicitDefEqProofs only [↓slp, slb, ↓reduceIte, reduceCtorEq, jA, jB, jC, jD, jE, jF, jG, jH, jI, jJ, jK, tfInW]; try simp only [Ex.fold, Ex.foldcs, ← Va.pv.eq_1]
  (repeat (first | refine aSeq fun X hX => ?_ | refine aBlk ?_ | refine aSkip ?_ | (first | refine aExit ?_ | refine aRet ?_); try simp only [slx, ↓reduceIte, Nat.reduceEqDiff, reduceCtorEq] | (first | refine aReg ?_ | refine aIf ?_); simp -implicitDefEqProofs only [forall_eq, ↓slp, slb, ↓reduceIte, reduceCtorEq, jA, jB, jC, jD, jE, jF, jG, jH, jI, jJ, jK, tfInW]; try simp only [Ex.fold, Ex.foldcs, ← Va.pv.eq_1] | refine hX _ _ ?_; clear hX X | clear hX X; refine hX _ _ ?_; clear hX X | clear hX X; clear hX X; refine hX _ _ ?_; clear hX X | intro hlen; unfold maxLen at hlen | apply And.intro; focus (first | omega | assumption | (repeat' apply And.intro) <;> first | omega | assumption)))
  refine callM (late_any (chV n) Q (by omega) hQ _) ?_
  rintro v m' ⟨rfl, rfl⟩
  simp -implicitDefEqProofs only [↓slp, slb, ↓reduceIte, reduceCtorEq, jA, jB, jC, jD, jE, jF, jG, jH, jI, jJ, jK, tfInW]; try simp only [Ex.fold, Ex.foldcs, ← Va.pv.eq_1]
  (repeat (first | refine aSeq fun X hX => ?_ | refine aBlk ?_ | refine aSkip ?_ | (first | refine aExit ?_ | refine aRet ?_); try simp only [slx, ↓reduceIte, Nat.reduceEqDiff, reduceCtorEq] | (first | refine aReg ?_ | refine aIf ?_); simp -implicitDefEqProofs only [forall_eq, ↓slp, slb, ↓reduceIte, reduceCtorEq, jA, jB, jC, jD, jE, jF, jG, jH, jI, jJ, jK, tfInW]; try simp only [Ex.fold, Ex.foldcs, ← Va.pv.eq_1] | refine hX _ _ ?_; clear hX X | clear hX X; refine hX _ _ ?_; clear hX X | clear hX X; clear hX X; refine hX _ _ ?_; clear hX X | intro hlen; unfold maxLen at hlen | apply And.intro; focus (first | omega | assumption | (repeat' apply And.intro) <;> first | omega | assumption)))
  refine callM (rLate_any (chV n) Q (by omega) hQ _ _) ?_
  rintro v m' ⟨rfl, hS, rfl⟩
  have hll := late_len (chV_nodup hn) hS
  obtain ⟨S, hSe⟩ : ∃ S, solveL (chV n) Q (fun _ => false) = S := ⟨_, rfl⟩
  rw [hSe] at hll hS
  have hnl : ((chV n).map Va.name).length = n := by simp [chV_len]
  have hng : ∀ k (hk : k < n), ((chV n).map Va.name)[k]'(by omega) = vNm k := fun k hk => by simp [chV, vVa]
  rw [hSe]
  obtain ⟨names, hnm⟩ : ∃ names, (chV n).map Va.name = names := ⟨_, rfl⟩
  rw [hnm] at hll hS hnl
  simp only [hnm] at hng
  rw [hnm]
  obtain ⟨F0, hF0⟩ : ∃ F0, names.filter (fun s => hasN S s) = F0 := ⟨_, rfl⟩
  rw [hF0] at hll ⊢
  have hS12 := hS.len
  have b0 : (((F0.length : Nat) : Int) == ((S.length : Nat) : Int)) = true := by rw [hll]; simp
  simp -implicitDefEqProofs only [↓slp, slb, ↓reduceIte, reduceCtorEq, jA, jB, jC, jD, jE, jF, jG, jH, jI, jJ, jK, tfInW, b0]; try simp only [Ex.fold, Ex.foldcs, ← Va.pv.eq_1]
  (repeat (first | refine aSeq fun X hX => ?_ | refine aBlk ?_ | refine aSkip ?_ | (first | refine aExit ?_ | refine aRet ?_); try simp only [slx, ↓reduceIte, Nat.reduceEqDiff, reduceCtorEq] | (first | refine aReg ?_ | refine aIf ?_); simp -implicitDefEqProofs only [forall_eq, ↓slp, slb, ↓reduceIte, reduceCtorEq, jA, jB, jC, jD, jE, jF, jG, jH, jI, jJ, jK, tfInW, b0]; try simp only [Ex.fold, Ex.foldcs, ← Va.pv.eq_1] | refine hX _ _ ?_; clear hX X | clear hX X; refine hX _ _ ?_; clear hX X | clear hX X; clear hX X; refine hX _ _ ?_; clear hX X | intro hlen; unfold maxLen at hlen | apply And.intro; focus (first | omega | assumption | (repeat' apply And.intro) <;> first | omega | assumption)))
  obtain ⟨I, hI⟩ : ∃ I : F → M → Prop, ∀ f m', I f m' = (∃ k : Nat, k ≤ n ∧ f 3 = .ep [.sl .no ((chV n).map Va.pv), .sl .no (Q.map Qu.pv)] ∧ f 4 = .sl .no (F0.map pS) ∧ f 5 = .sl .no (S.map pS) ∧ f 6 = pI ((((names.take k).filter fun s => hasN S s).length : Nat) : Int) ∧ f 7 = pI k ∧ m' = M0) := ⟨_, fun _ _ => rfl⟩
  refine aLoop I (fun f m => n - numOf (f 7)) ?_ ?_
  · rw [hI]; exact ⟨0, by omega, rfl, rfl, rfl, rfl, rfl, rfl⟩
  intro f m' hrel
  rw [hI] at hrel
  obtain ⟨k, hk, f3, f4, f5, f6, f7, rfl⟩ := hrel
  cases c1 : decide ((k : Int) < (((chV n).length : Nat) : Int)) with
  | false =>
    have hk' : k = n := by simp at c1; omega
    subst hk'
    have htk : names.take k = names := List.take_of_length_le (by omega)
    rw [htk, hF0] at f6
    have b1 : (((F0.length : Nat) : Int) == ((F0.length : Nat) : Int)) = true := by simp
    (repeat (first | refine aSeq fun X hX => ?_ | refine aBlk ?_ | refine aSkip ?_ | (first | refine aExit ?_ | refine aRet ?_); try simp only [slx, ↓reduceIte, Nat.reduceEqDiff, reduceCtorEq] | (first | refine aReg ?_ | refine aIf ?_); simp -implicitDefEqProofs only [forall_eq, ↓slp, slb, ↓reduceIte, reduceCtorEq, jA, jB, jC, jD, jE, jF, jG, jH, jI, jJ, jK, tfInW, f3, f4, f5, f6, f7, pI, c1, b1]; try simp only [Ex.fold, Ex.foldcs, ← Va.pv.eq_1] | refine hX _ _ ?_; clear hX X | clear hX X; refine hX _ _ ?_; clear hX X | clear hX X; clear hX X; refine hX _ _ ?_; clear hX X | intro hlen; unfold maxLen at hlen | apply And.intro; focus (first | omega | assumption | (repeat' apply And.intro) <;> first | omega | assumption)))
    simp only [aPost, Try.results4, aRes_n, aRes_t, aRes_c, pack_one, pack_two]
    exact leave_same rfl rfl
  | true =>
    have hlt : k < n := by simp at c1; omega
    have g0 := getD_map Va.pv (chV n) k (by omega)
    rw [chV_at] at g0
    have hme : numOf (f 7) = k := by rw [f7]; exact Int.toNat_natCast k
    have hi : IntKind.i64.wrap ((k : Int) + 1) = ((k + 1 : Nat) : Int) := by rw [wrap64 (by omega)]; omega
    obtain ⟨B, hB1, hB2⟩ := filter_at (p := fun s => hasN S s) (names := names) (k := k) (by omega)
    rw [hng k hlt] at hB1 hB2
    rw [hF0] at hB1
    have hal : ((names.take k).filter fun s => hasN S s).length ≤ 12 := by
      refine Nat.le_trans (List.length_filter_le _ _) ?_
      simp; omega
    generalize ((names.take k).filter fun s => hasN S s) = A1 at *
    (repeat (first | refine aSeq fun X hX => ?_ | refine aBlk ?_ | refine aSkip ?_ | (first | refine aExit ?_ | refine aRet ?_); try simp only [slx, ↓reduceIte, Nat.reduceEqDiff, reduceCtorEq] | (first | refine aReg ?_ | refine aIf ?_); simp -implicitDefEqProofs only [forall_eq, ↓slp, slb, ↓reduceIte, reduceCtorEq, jA, jB, jC, jD, jE, jF, jG, jH, jI, jJ, jK, tfInW, f3, f4, f5, f6, f7, pI, c1, g0]; try simp only [Ex.fold, Ex.foldcs, ← Va.pv.eq_1] | refine hX _ _ ?_; clear hX X | clear hX X; refine hX _ _ ?_; clear hX X | clear hX X; clear hX X; refine hX _ _ ?_; clear hX X | intro hlen; unfold maxLen at hlen | apply And.intro; focus (first | omega | assumption | (repeat' apply And.intro) <;> first | omega | assumption)))
    refine callE (rHas_any _ S (vVa k).name _) ?_
    have hvn : (vVa k).name = vNm k := rfl
    cases c2 : hasN S (vNm k) with
    | false =>
      rw [c2] at hB1 hB2
      simp -implicitDefEqProofs only [↓slp, slb, ↓reduceIte, reduceCtorEq, jA, jB, jC, jD, jE, jF, jG, jH, jI, jJ, jK, tfInW, pB, hvn, c2]; try simp only [Ex.fold, Ex.foldcs, ← Va.pv.eq_1]
      (repeat (first | refine aSeq fun X hX => ?_ | refine aBlk ?_ | refine aSkip ?_ | (first | refine aExit ?_ | refine aRet ?_); try simp only [slx, ↓reduceIte, Nat.reduceEqDiff, reduceCtorEq] | (first | refine aReg ?_ | refine aIf ?_); simp -implicitDefEqProofs only [forall_eq, ↓slp, slb, ↓reduceIte, reduceCtorEq, jA, jB, jC, jD, jE, jF, jG, jH, jI, jJ, jK, tfInW, f7, pI, hi]; try simp only [Ex.fold, Ex.foldcs, ← Va.pv.eq_1] | refine hX _ _ ?_; clear hX X | clear hX X; refine hX _ _ ?_; clear hX X | clear hX X; clear hX X; refine hX _ _ ?_; clear hX X | intro hlen; unfold maxLen at hlen | apply And.intro; focus (first | omega | assumption | (repeat' apply And.intro) <;> first | omega | assumption)))
      rw [hI]
      exact ⟨⟨k + 1, hlt, f3, f4, f5, by rw [hB2]; simp only [Bool.false_eq_true, if_false, List.append_nil]; exact f6, rfl, rfl⟩, by omega⟩
    | true =>
      rw [c2] at hB1 hB2
      have hFl : F0 = A1 ++ vNm k :: B := by rw [hB1]; rfl
      have b1 : decide (((A1.length : Nat) : Int) ≥ ((F0.length : Nat) : Int)) = false := by rw [hFl]; simp; omega
      have g1 := getD_map pS F0 A1.length (by rw [hFl]; simp)
      have g2 : F0[A1.length]'(by rw [hFl]; simp) = vNm k := by subst hFl; simp
      rw [g2] at g1
      have b2 : ((vNm k).toList == (vNm k).toList) = true := by simp
      have hj : IntKind.i64.wrap (((A1.length : Nat) : Int) + 1) = ((A1.length + 1 : Nat) : Int) := by rw [wrap64 (by omega)]; omega
      simp -implicitDefEqProofs only [↓slp, slb, ↓reduceIte, reduceCtorEq, jA, jB, jC, jD, jE, jF, jG, jH, jI, jJ, jK, tfInW, pB, hvn, c2]; try simp only [Ex.fold, Ex.foldcs, ← Va.pv.eq_1]
      (repeat (first | refine aSeq fun X hX => ?_ | refine aBlk ?_ | refine aSkip ?_ | (first | refine aExit ?_ | refine aRet ?_); try simp only [slx, ↓reduceIte, Nat.reduceEqDiff, reduceCtorEq] | (first | refine aReg ?_ | refine aDrE ?_ | refine aIf ?_); simp -implicitDefEqProofs only [forall_eq, ↓slp, slb, ↓reduceIte, reduceCtorEq, jA, jB, jC, jD, jE, jF, jG, jH, jI, jJ, jK, tfInW, f3, f4, f6, f7, pI, pS, hi, b1, g0, g1, b2, hvn, hj]; try simp only [Ex.fold, Ex.foldcs, ← Va.pv.eq_1] | refine hX _ _ ?_; clear hX X | clear hX X; refine hX _ _ ?_; clear hX X | clear hX X; clear hX X; refine hX _ _ ?_; clear hX X | intro hlen; unfold maxLen at hlen | apply And.intro; focus (first | omega | assumption | (repeat' apply And.intro) <;> first | omega | assumption)))
      refine ⟨by rw [hFl]; simp, by omega, ?_⟩
      refine hX _ _ ?_
      clear hX X
      (repeat (first | refine aSeq fun X hX => ?_ | refine aBlk ?_ | refine aSkip ?_ | (first | refine aExit ?_ | refine aRet ?_); try simp only [slx, ↓reduceIte, Nat.reduceEqDiff, reduceCtorEq] | (first | refine aReg ?_ | refine aIf ?_); simp -implicitDefEqProofs only [forall_eq, ↓slp, slb, ↓reduceIte, reduceCtorEq, jA, jB, jC, jD, jE, jF, jG, jH, jI, jJ, jK, tfInW, f6, f7, pI, hj, hi, b2]; try simp only [Ex.fold, Ex.foldcs, ← Va.pv.eq_1] | refine hX _ _ ?_; clear hX X | clear hX X; refine hX _ _ ?_; clear hX X | clear hX X; clear hX X; refine hX _ _ ?_; clear hX X | intro hlen; unfold maxLen at hlen | apply And.intro; focus (first | omega | assumption | (repeat' apply And.intro) <;> first | omega | assumption)))
      rw [hI]
      exact ⟨⟨k + 1, hlt, f3, f4, f5, by rw [hB2]; simp only [if_true, List.length_append, List.length_cons, List.length_nil]; rfl, rfl, rfl⟩, by omega⟩
end Go.Proofs.Ytfemdelaciccmaa
