/-
  The law's plain and tidy, walked.
-/
import Derived.Test.YtepjjgnkhcjpcaaDoorCtP
set_option linter.unusedVariables false
set_option linter.unusedSimpArgs false
namespace Go.Proofs.YtepjjgnkhcjpcaaDoor
open Nat renaming reduceEqDiff → jA, reduceAdd → jB, reduceMul → jC, reduceLT → jD, reduceLeDiff → jE, reduceBEq → jF, reduceBNe → jG
open Int renaming reduceLE → jH, reduceLT → jI, reduceToNat → jJ, reduceEq → jK
open Go
-- EXX: CE.settle_pv, CE.pure_pv, CE.cells_pv, CE.cs
set_option maxRecDepth 20000
-- TNAMES: int; uint8; int32; string; bool; []clite.Expr; clite.Expr; []int
set_option linter.defProp false
def tfCtT := And.intro @tfA (And.intro @Ex.settle_pv (And.intro @Ex.pure_pv (And.intro @Ex.cells_pv (And.intro @Ex.cs.eq_1 (And.intro @On.pv.eq_1 (And.intro @Ty.pv.eq_1 (And.intro @Va.settle_pv (And.intro @Va.pure_pv (And.intro @Va.cells_pv (And.intro @Va.cs.eq_1 (And.intro @CE.settle_pv (And.intro @CE.pure_pv (And.intro @CE.cells_pv @CE.cs.eq_1)))))))))))))

theorem CE.plains_eq (l : List CE) : CE.plains l = l.all CE.plain := by
  induction l with
  | nil => rfl
  | cons e l ih => simp [CE.plains, ih]
theorem CE.plain_eq (e : CE) : e.plain = (decide (e.kind < 7) && ((e.kids.length : Int) == wantK e.kind) && e.kids.all CE.plain) := by
  cases e with
  | mk k o n nm ks =>
    show (decide (k < 7) && ((ks.length : Int) == wantK k) && CE.plains ks) = (decide (k < 7) && ((ks.length : Int) == wantK k) && ks.all CE.plain)
    rw [CE.plains_eq]
set_option maxHeartbeats 8000000 in
theorem plain_step (e : CE) (k : Nat) (hk : e.kind = (k : Int)) (hk8 : k ≤ 8) (ih : ∀ j (h : j < e.kids.length) (m : M), ACalls Tryd.prog 6 [e.kids[j].pv] m (fun v m' => v = pB e.kids[j].plain ∧ m' = m)) (m : M) : ACalls Tryd.prog 6 [e.pv] m (fun v m' => v = pB e.plain ∧ m' = m) := by
  have hrg : [0, 1, 2, 3, 4, 5, 6] = List.range 7 := by decide
  have hpe := CE.plain_eq e
  have hwr : ∀ j : Nat, j ≤ 8 → IntKind.i64.wrap (j : Int) = j := fun j hj => wrap64 (by omega)
  have w0 := hwr 0 (by omega)
  have w1 := hwr 1 (by omega)
  have w2 := hwr 2 (by omega)
  have w3 := hwr 3 (by omega)
  have w4 := hwr 4 (by omega)
  have w5 := hwr 5 (by omega)
  have w6 := hwr 6 (by omega)
  have w7 := hwr 7 (by omega)
  have w8 := hwr 8 (by omega)
  simp only [Int.cast_ofNat_Int] at w0 w1 w2 w3 w4 w5 w6 w7 w8
  cases c2 : ((e.kids.length : Int) == wantK e.kind) with
  | false =>
    have hv : e.plain = false := by rw [hpe, c2]; simp
    rw [hv]
    rw [hk] at c2
    have : k = 0 ∨ k = 1 ∨ k = 2 ∨ k = 3 ∨ k = 4 ∨ k = 5 ∨ k = 6 ∨ k = 7 ∨ k = 8 := by omega
    rcases this with rfl | rfl | rfl | rfl | rfl | rfl | rfl | rfl | rfl
    all_goals
      have c3 : ((e.kids.length : Int) == _) = false := c2
      refine ACalls.enter (mu := []) ok_mix Tryd.func6 rfl (by kernel_rfl) (by kernel_rfl) (by simp only [List.length_cons, List.length_nil, Tryd.ntmps6]; omega) ?_
      (repeat (first | refine aSeq fun X hX => ?_ | refine aBlk ?_ | refine aSkip ?_ | (first | refine aExit ?_ | refine aRet ?_); try simp only [slx, ↓reduceIte, Nat.reduceEqDiff, reduceCtorEq] | (first | refine aReg ?_ | refine aIf ?_); simp -implicitDefEqProofs only [forall_eq, ↓slp, slb, ↓reduceIte, reduceCtorEq, jA, jB, jC, jD, jE, jF, jG, jH, jI, jJ, jK, tfCtT, hk, w0, w1, w2, w3, w4, w5, w6, w7, w8, Int.cast_ofNat_Int]; try simp only [Ex.fold, Ex.foldcs, ← Va.pv.eq_1] | refine hX _ _ ?_; clear hX X | clear hX X; refine hX _ _ ?_; clear hX X | clear hX X; clear hX X; refine hX _ _ ?_; clear hX X | intro hlen; unfold maxLen at hlen | apply And.intro; focus (first | omega | assumption | (repeat' apply And.intro) <;> first | omega | assumption)))
      simp only [wantK, Int.cast_ofNat_Int, Int.reduceEq, if_true, if_false, Int.reduceNeg, reduceIte] at c3
      refine aDrw (fun _ => True) (by kernel_rfl) trivial ?_; simp -implicitDefEqProofs only [forall_eq, eq_self, ↓slp, slb, ↓reduceIte, reduceCtorEq, jA, jB, jC, jD, jE, jF, jG, jH, jI, jJ, jK, tfCtT, hk, w0, w1, w2, w3, w4, w5, w6, w7, w8, c3, Int.cast_ofNat_Int, Nat.reduceAdd, Int.reduceGE, decide_false, decide_true, Bool.not_false]; try simp only [Ex.fold, Ex.foldcs, ← Va.pv.eq_1]
      (repeat (first | refine aSeq fun X hX => ?_ | refine aBlk ?_ | refine aSkip ?_ | (first | refine aExit ?_ | refine aRet ?_); try simp only [slx, ↓reduceIte, Nat.reduceEqDiff, reduceCtorEq] | (first | refine aReg ?_ | refine aIf ?_); simp -implicitDefEqProofs only [forall_eq, ↓slp, slb, ↓reduceIte, reduceCtorEq, jA, jB, jC, jD, jE, jF, jG, jH, jI, jJ, jK, tfCtT]; try simp only [Ex.fold, Ex.foldcs, ← Va.pv.eq_1] | refine hX _ _ ?_; clear hX X | clear hX X; refine hX _ _ ?_; clear hX X | clear hX X; clear hX X; refine hX _ _ ?_; clear hX X | intro hlen; unfold maxLen at hlen | apply And.intro; focus (first | omega | assumption | (repeat' apply And.intro) <;> first | omega | assumption)))
      simp only [aPost, Tryd.results6, aRes_n, aRes_t, aRes_c, pack_one, pack_two]
      exact leave_same rfl ⟨rfl, rfl⟩
  | true =>
    cases hk7 : decide (k < 7) with
    | false =>
      have hv : e.plain = false := by
        have h7 : ¬ k < 7 := by simpa using hk7
        rw [hpe, hk, decide_eq_false (by omega)]; rfl
      have : k = 7 ∨ k = 8 := by simp at hk7; omega
      rw [hv]
      rcases this with rfl | rfl
      all_goals
        refine ACalls.enter (mu := []) ok_mix Tryd.func6 rfl (by kernel_rfl) (by kernel_rfl) (by simp only [List.length_cons, List.length_nil, Tryd.ntmps6]; omega) ?_
        (repeat (first | refine aSeq fun X hX => ?_ | refine aBlk ?_ | refine aSkip ?_ | (first | refine aExit ?_ | refine aRet ?_); try simp only [slx, ↓reduceIte, Nat.reduceEqDiff, reduceCtorEq] | (first | refine aReg ?_ | refine aIf ?_); simp -implicitDefEqProofs only [forall_eq, ↓slp, slb, ↓reduceIte, reduceCtorEq, jA, jB, jC, jD, jE, jF, jG, jH, jI, jJ, jK, tfCtT, hk, w0, w1, w2, w3, w4, w5, w6, w7, w8, Int.cast_ofNat_Int]; try simp only [Ex.fold, Ex.foldcs, ← Va.pv.eq_1] | refine hX _ _ ?_; clear hX X | clear hX X; refine hX _ _ ?_; clear hX X | clear hX X; clear hX X; refine hX _ _ ?_; clear hX X | intro hlen; unfold maxLen at hlen | apply And.intro; focus (first | omega | assumption | (repeat' apply And.intro) <;> first | omega | assumption)))
        refine aDrw (fun _ => True) (by kernel_rfl) trivial ?_; simp -implicitDefEqProofs only [forall_eq, eq_self, ↓slp, slb, ↓reduceIte, reduceCtorEq, jA, jB, jC, jD, jE, jF, jG, jH, jI, jJ, jK, tfCtT, hk, w0, w1, w2, w3, w4, w5, w6, w7, w8, Int.cast_ofNat_Int, Nat.reduceAdd, Int.reduceGE, decide_false, decide_true, Bool.not_false]; try simp only [Ex.fold, Ex.foldcs, ← Va.pv.eq_1]
        (repeat (first | refine aSeq fun X hX => ?_ | refine aBlk ?_ | refine aSkip ?_ | (first | refine aExit ?_ | refine aRet ?_); try simp only [slx, ↓reduceIte, Nat.reduceEqDiff, reduceCtorEq] | (first | refine aReg ?_ | refine aIf ?_); simp -implicitDefEqProofs only [forall_eq, ↓slp, slb, ↓reduceIte, reduceCtorEq, jA, jB, jC, jD, jE, jF, jG, jH, jI, jJ, jK, tfCtT]; try simp only [Ex.fold, Ex.foldcs, ← Va.pv.eq_1] | refine hX _ _ ?_; clear hX X | clear hX X; refine hX _ _ ?_; clear hX X | clear hX X; clear hX X; refine hX _ _ ?_; clear hX X | intro hlen; unfold maxLen at hlen | apply And.intro; focus (first | omega | assumption | (repeat' apply And.intro) <;> first | omega | assumption)))
        simp only [aPost, Tryd.results6, aRes_n, aRes_t, aRes_c, pack_one, pack_two]
        exact leave_same rfl ⟨rfl, rfl⟩
    | true =>
      have h7 : k < 7 := by simpa using hk7
      have hv : e.plain = e.kids.all CE.plain := by rw [hpe, hk, decide_eq_true (by omega), ← hk, c2]; rfl
      rw [hk] at c2
      have hkn : ((e.kids.length : Int) == wantK (k : Int)) = true := c2
      have : k = 0 ∨ k = 1 ∨ k = 2 ∨ k = 3 ∨ k = 4 ∨ k = 5 ∨ k = 6 := by omega
      refine ACalls.enter (mu := []) ok_mix Tryd.func6 rfl (by kernel_rfl) (by kernel_rfl) (by simp only [List.length_cons, List.length_nil, Tryd.ntmps6]; omega) ?_
      (repeat (first | refine aSeq fun X hX => ?_ | refine aBlk ?_ | refine aSkip ?_ | (first | refine aExit ?_ | refine aRet ?_); try simp only [slx, ↓reduceIte, Nat.reduceEqDiff, reduceCtorEq] | (first | refine aReg ?_ | refine aIf ?_); simp -implicitDefEqProofs only [forall_eq, ↓slp, slb, ↓reduceIte, reduceCtorEq, jA, jB, jC, jD, jE, jF, jG, jH, jI, jJ, jK, tfCtT, hk]; try simp only [Ex.fold, Ex.foldcs, ← Va.pv.eq_1] | refine hX _ _ ?_; clear hX X | clear hX X; refine hX _ _ ?_; clear hX X | clear hX X; clear hX X; refine hX _ _ ?_; clear hX X | intro hlen; unfold maxLen at hlen | apply And.intro; focus (first | omega | assumption | (repeat' apply And.intro) <;> first | omega | assumption)))
      rcases this with rfl | rfl | rfl | rfl | rfl | rfl | rfl
      all_goals
        have c3 : ((e.kids.length : Int) == _) = true := c2
        simp only [wantK, Int.cast_ofNat_Int, Int.reduceEq, if_true, if_false, Int.reduceNeg, reduceIte] at c3
        have hkl : e.kids.length ≤ 3 := by
          have h3 := c3
          simp only [beq_iff_eq] at h3
          omega
        refine aDrw (fun _ => True) (by kernel_rfl) trivial ?_; simp -implicitDefEqProofs only [forall_eq, eq_self, ↓slp, slb, ↓reduceIte, reduceCtorEq, jA, jB, jC, jD, jE, jF, jG, jH, jI, jJ, jK, tfCtT, hk, w0, w1, w2, w3, w4, w5, w6, w7, w8, c3, Int.cast_ofNat_Int, Nat.reduceAdd, Int.reduceGE, decide_false, decide_true, Bool.not_true]; try simp only [Ex.fold, Ex.foldcs, ← Va.pv.eq_1]
        (repeat (first | refine aSeq fun X hX => ?_ | refine aBlk ?_ | refine aSkip ?_ | (first | refine aExit ?_ | refine aRet ?_); try simp only [slx, ↓reduceIte, Nat.reduceEqDiff, reduceCtorEq] | (first | refine aReg ?_ | refine aIf ?_); simp -implicitDefEqProofs only [forall_eq, ↓slp, slb, ↓reduceIte, reduceCtorEq, jA, jB, jC, jD, jE, jF, jG, jH, jI, jJ, jK, tfCtT, hk, Int.cast_ofNat_Int]; try simp only [Ex.fold, Ex.foldcs, ← Va.pv.eq_1] | refine hX _ _ ?_; clear hX X | clear hX X; refine hX _ _ ?_; clear hX X | clear hX X; clear hX X; refine hX _ _ ?_; clear hX X | intro hlen; unfold maxLen at hlen | apply And.intro; focus (first | omega | assumption | (repeat' apply And.intro) <;> first | omega | assumption)))
        obtain ⟨I, hI⟩ : ∃ I : F → M → Prop, ∀ f m', I f m' = (∃ j : Nat, j ≤ e.kids.length ∧ (f 1 = .ep [.v (.int .u8 e.kind), .v (.int .u8 e.op), .v (.int .i32 e.n), .v (.string e.name), .sl .no (e.kids.map CE.pv)]) ∧ f 4 = pI j ∧ e.kids.all CE.plain = (e.kids.drop j).all CE.plain ∧ m' = m) := ⟨_, fun _ _ => rfl⟩
        refine aLoop I (fun f m => e.kids.length - numOf (f 4)) ?_ ?_
        · rw [hI]; exact ⟨0, by omega, by rw [hk]; rfl, rfl, rfl, rfl⟩
        intro f m' hrel
        rw [hI] at hrel
        obtain ⟨j, hj, f1, f4, hs, rfl⟩ := hrel
        cases c4 : decide ((j : Int) < (e.kids.length : Int)) with
        | false =>
          obtain rfl : j = e.kids.length := by simp at c4; omega
          (repeat (first | refine aSeq fun X hX => ?_ | refine aBlk ?_ | refine aSkip ?_ | (first | refine aExit ?_ | refine aRet ?_); try simp only [slx, ↓reduceIte, Nat.reduceEqDiff, reduceCtorEq] | (first | refine aReg ?_ | refine aIf ?_); simp -implicitDefEqProofs only [forall_eq, ↓slp, slb, ↓reduceIte, reduceCtorEq, jA, jB, jC, jD, jE, jF, jG, jH, jI, jJ, jK, tfCtT, f1, f4, pI, c4]; try simp only [Ex.fold, Ex.foldcs, ← Va.pv.eq_1] | refine hX _ _ ?_; clear hX X | clear hX X; refine hX _ _ ?_; clear hX X | clear hX X; clear hX X; refine hX _ _ ?_; clear hX X | intro hlen; unfold maxLen at hlen | apply And.intro; focus (first | omega | assumption | (repeat' apply And.intro) <;> first | omega | assumption)))
          simp only [aPost, Tryd.results6, aRes_n, aRes_t, aRes_c, pack_one, pack_two]
          exact leave_same rfl ⟨by rw [hv, hs, List.drop_length]; rfl, rfl⟩
        | true =>
          have hlt : j < e.kids.length := by simpa using c4
          have g0 := getD_map CE.pv e.kids j hlt
          have hi : IntKind.i64.wrap ((j : Int) + 1) = ((j + 1 : Nat) : Int) := by rw [wrap64 (by omega)]; omega
          have hme : numOf (f 4) = j := by rw [f4]; exact Int.toNat_natCast j
          have hd : (e.kids.drop j).all CE.plain = (e.kids[j].plain && (e.kids.drop (j + 1)).all CE.plain) := by rw [List.drop_eq_getElem_cons hlt, List.all_cons]
          have hc := ih j hlt
          rw [CE.pv_eq] at hc
          unfold CE.cs at hc
          (repeat (first | refine aSeq fun X hX => ?_ | refine aBlk ?_ | refine aSkip ?_ | (first | refine aExit ?_ | refine aRet ?_); try simp only [slx, ↓reduceIte, Nat.reduceEqDiff, reduceCtorEq] | (first | refine aReg ?_ | refine aIf ?_); simp -implicitDefEqProofs only [forall_eq, ↓slp, slb, ↓reduceIte, reduceCtorEq, jA, jB, jC, jD, jE, jF, jG, jH, jI, jJ, jK, tfCtT, f1, f4, pI, c4, g0, hlt]; try simp only [Ex.fold, Ex.foldcs, ← Va.pv.eq_1] | refine hX _ _ ?_; clear hX X | clear hX X; refine hX _ _ ?_; clear hX X | clear hX X; clear hX X; refine hX _ _ ?_; clear hX X | intro hlen; unfold maxLen at hlen | apply And.intro; focus (first | omega | assumption | (repeat' apply And.intro) <;> first | omega | assumption)))
          refine callM (hc _) ?_
          rintro v mc ⟨rfl, rfl⟩
          cases c5 : e.kids[j].plain with
          | false =>
            simp -implicitDefEqProofs only [↓slp, slb, ↓reduceIte, reduceCtorEq, jA, jB, jC, jD, jE, jF, jG, jH, jI, jJ, jK, tfCtT, pB, c5, Bool.not_false]; try simp only [Ex.fold, Ex.foldcs, ← Va.pv.eq_1]
            (repeat (first | refine aSeq fun X hX => ?_ | refine aBlk ?_ | refine aSkip ?_ | (first | refine aExit ?_ | refine aRet ?_); try simp only [slx, ↓reduceIte, Nat.reduceEqDiff, reduceCtorEq] | (first | refine aReg ?_ | refine aIf ?_); simp -implicitDefEqProofs only [forall_eq, ↓slp, slb, ↓reduceIte, reduceCtorEq, jA, jB, jC, jD, jE, jF, jG, jH, jI, jJ, jK, tfCtT]; try simp only [Ex.fold, Ex.foldcs, ← Va.pv.eq_1] | refine hX _ _ ?_; clear hX X | clear hX X; refine hX _ _ ?_; clear hX X | clear hX X; clear hX X; refine hX _ _ ?_; clear hX X | intro hlen; unfold maxLen at hlen | apply And.intro; focus (first | omega | assumption | (repeat' apply And.intro) <;> first | omega | assumption)))
            simp only [aPost, Tryd.results6, aRes_n, aRes_t, aRes_c, pack_one, pack_two]
            exact leave_same rfl ⟨by rw [hv, hs, hd, c5]; rfl, rfl⟩
          | true =>
            simp -implicitDefEqProofs only [↓slp, slb, ↓reduceIte, reduceCtorEq, jA, jB, jC, jD, jE, jF, jG, jH, jI, jJ, jK, tfCtT, pB, c5, Bool.not_true]; try simp only [Ex.fold, Ex.foldcs, ← Va.pv.eq_1]
            (repeat (first | refine aSeq fun X hX => ?_ | refine aBlk ?_ | refine aSkip ?_ | (first | refine aExit ?_ | refine aRet ?_); try simp only [slx, ↓reduceIte, Nat.reduceEqDiff, reduceCtorEq] | (first | refine aReg ?_ | refine aIf ?_); simp -implicitDefEqProofs only [forall_eq, ↓slp, slb, ↓reduceIte, reduceCtorEq, jA, jB, jC, jD, jE, jF, jG, jH, jI, jJ, jK, tfCtT, f4, pI, hi]; try simp only [Ex.fold, Ex.foldcs, ← Va.pv.eq_1] | refine hX _ _ ?_; clear hX X | clear hX X; refine hX _ _ ?_; clear hX X | clear hX X; clear hX X; refine hX _ _ ?_; clear hX X | intro hlen; unfold maxLen at hlen | apply And.intro; focus (first | omega | assumption | (repeat' apply And.intro) <;> first | omega | assumption)))
            rw [hI]
            exact ⟨⟨j + 1, hlt, f1, rfl, by rw [hs, hd, c5]; rfl, rfl⟩, by omega⟩
end Go.Proofs.YtepjjgnkhcjpcaaDoor
