/-
  Texts that belong together: InR, InF, AbLp, InS.
-/
import Derived.Test.YtfemdelaciccmaaInA
import Derived.Test.YtfemdelaciccmaaAbKit
/-
  The document's own look: what is there, may an expression have no value at first.
-/
set_option linter.unusedVariables false
set_option linter.unusedSimpArgs false
namespace Go.Proofs.Ytfemdelaciccmaa
open Nat renaming reduceEqDiff → jA, reduceAdd → jB, reduceMul → jC, reduceLT → jD, reduceLeDiff → jE, reduceBEq → jF, reduceBNe → jG
open Int renaming reduceLE → jH, reduceLT → jI, reduceToNat → jJ, reduceEq → jK
open Go
set_option maxRecDepth 20000
-- TNAMES: int; uint8; int32; string; bool; []string; []api.Expr; api.Expr
set_option linter.defProp false
def tfInR := And.intro @tfA (And.intro @Ex.settle_pv (And.intro @Ex.pure_pv (And.intro @Ex.cells_pv (And.intro @Ex.cs.eq_1 (And.intro @On.pv.eq_1 (And.intro @Ty.pv.eq_1 (And.intro @Va.settle_pv (And.intro @Va.pure_pv (And.intro @Va.cells_pv @Va.cs.eq_1)))))))))

theorem hasN_drop (l : List Str) (s : Str) (k : Nat) (h : k < l.length) : hasN (l.drop k) s = (eqS l[k] s || hasN (l.drop (k + 1)) s) := by
  rw [List.drop_eq_getElem_cons h]; rfl
set_option maxHeartbeats 400000 in
theorem rHas_any (o : Own) (l : List Str) (s : Str) (m : M) : ACalls Try.prog 11 [.sl o (l.map pS), pS s] m (fun v m' => v = pB (hasN l s) ∧ m' = m) := by
  refine ACalls.enter (mu := []) ok_mix Try.func11 rfl (by kernel_rfl) (by kernel_rfl) (by simp only [List.length_cons, List.length_nil, Try.ntmps11]; omega) ?_
  (repeat (first | refine aSeq fun X hX => ?_ | refine aBlk ?_ | refine aSkip ?_ | (first | refine aExit ?_ | refine aRet ?_); try simp only [slx, ↓reduceIte, Nat.reduceEqDiff, reduceCtorEq] | (first | refine aReg ?_ | refine aDrE ?_); simp -implicitDefEqProofs only [forall_eq, ↓slp, slb, ↓reduceIte, reduceCtorEq, jA, jB, jC, jD, jE, jF, jG, jH, jI, jJ, jK, tfInR]; try simp only [Ex.fold, Ex.foldcs, ← Va.pv.eq_1] | refine hX _ _ ?_; clear hX X | clear hX X; refine hX _ _ ?_; clear hX X | clear hX X; clear hX X; refine hX _ _ ?_; clear hX X | intro hlen; unfold maxLen at hlen | apply And.intro; focus (first | omega | assumption | (repeat' apply And.intro) <;> first | omega | assumption)))
  obtain ⟨I, hI⟩ : ∃ I : F → M → Prop, ∀ f m', I f m' = (∃ k : Nat, k ≤ l.length ∧ f 0 = .sl o (l.map pS) ∧ f 1 = pS s ∧ f 5 = pI k ∧ hasN l s = hasN (l.drop k) s ∧ m' = m) := ⟨_, fun _ _ => rfl⟩
  refine aLoop I (fun f m => l.length - numOf (f 5)) ?_ ?_
  · rw [hI]; exact ⟨0, by omega, rfl, rfl, rfl, rfl, rfl⟩
  intro f m' hrel
  rw [hI] at hrel
  obtain ⟨k, hk, h0, h1, h5, hs, rfl⟩ := hrel
  (repeat (first | refine aSeq fun X hX => ?_ | refine aBlk ?_ | refine aSkip ?_ | (first | refine aExit ?_ | refine aRet ?_); try simp only [slx, ↓reduceIte, Nat.reduceEqDiff, reduceCtorEq] | (first | refine aReg ?_ | refine aDrE ?_); simp -implicitDefEqProofs only [forall_eq, ↓slp, slb, ↓reduceIte, reduceCtorEq, jA, jB, jC, jD, jE, jF, jG, jH, jI, jJ, jK, tfInR, h0, h5, pI]; try simp only [Ex.fold, Ex.foldcs, ← Va.pv.eq_1] | refine hX _ _ ?_; clear hX X | clear hX X; refine hX _ _ ?_; clear hX X | clear hX X; clear hX X; refine hX _ _ ?_; clear hX X | intro hlen; unfold maxLen at hlen | apply And.intro; focus (first | omega | assumption | (repeat' apply And.intro) <;> first | omega | assumption)))
  refine aIf ?_; simp -implicitDefEqProofs only [↓slp, slb, ↓reduceIte, reduceCtorEq, jA, jB, jC, jD, jE, jF, jG, jH, jI, jJ, jK]; refine ⟨fun hb => ?_, fun hb => ?_⟩
  · have hlt : k < l.length := by simpa using hb
    have g0 := getD_map pS l k hlt
    have hi : IntKind.i64.wrap ((k : Int) + 1) = ((k + 1 : Nat) : Int) := by rw [wrap64 (by omega)]; omega
    have hd := hasN_drop l s k hlt
    cases c1 : (l[k].toList == s.toList) with
    | true =>
      have c2 : eqS l[k] s = true := c1
      (repeat (first | refine aSeq fun X hX => ?_ | refine aBlk ?_ | refine aSkip ?_ | (first | refine aExit ?_ | refine aRet ?_); try simp only [slx, ↓reduceIte, Nat.reduceEqDiff, reduceCtorEq] | (first | refine aReg ?_ | refine aDrE ?_ | refine aIf ?_); simp -implicitDefEqProofs only [forall_eq, ↓slp, slb, ↓reduceIte, reduceCtorEq, jA, jB, jC, jD, jE, jF, jG, jH, jI, jJ, jK, tfInR, h0, h1, h5, pI, pS, g0, c1]; try simp only [Ex.fold, Ex.foldcs, ← Va.pv.eq_1] | refine hX _ _ ?_; clear hX X | clear hX X; refine hX _ _ ?_; clear hX X | clear hX X; clear hX X; refine hX _ _ ?_; clear hX X | intro hlen; unfold maxLen at hlen | apply And.intro; focus (first | omega | assumption | (repeat' apply And.intro) <;> first | omega | assumption)))
      simp only [aPost, Try.results11, aRes_n, aRes_t, aRes_c, pack_one, pack_two]
      have hv : hasN l s = true := by rw [hs, hd, c2]; rfl
      exact leave_same rfl ⟨by rw [hv]; rfl, rfl⟩
    | false =>
      have c2 : eqS l[k] s = false := c1
      (repeat (first | refine aSeq fun X hX => ?_ | refine aBlk ?_ | refine aSkip ?_ | (first | refine aExit ?_ | refine aRet ?_); try simp only [slx, ↓reduceIte, Nat.reduceEqDiff, reduceCtorEq] | (first | refine aReg ?_ | refine aDrE ?_ | refine aIf ?_); simp -implicitDefEqProofs only [forall_eq, ↓slp, slb, ↓reduceIte, reduceCtorEq, jA, jB, jC, jD, jE, jF, jG, jH, jI, jJ, jK, tfInR, h0, h1, h5, pI, pS, g0, c1, hi]; try simp only [Ex.fold, Ex.foldcs, ← Va.pv.eq_1] | refine hX _ _ ?_; clear hX X | clear hX X; refine hX _ _ ?_; clear hX X | clear hX X; clear hX X; refine hX _ _ ?_; clear hX X | intro hlen; unfold maxLen at hlen | apply And.intro; focus (first | omega | assumption | (repeat' apply And.intro) <;> first | omega | assumption)))
      rw [hI]
      exact ⟨⟨k + 1, hlt, h0, h1, rfl, by rw [hs, hd, c2]; rfl, rfl⟩, by omega⟩
  · have hlt : k = l.length := by simp at hb; omega
    subst hlt
    (repeat (first | refine aSeq fun X hX => ?_ | refine aBlk ?_ | refine aSkip ?_ | (first | refine aExit ?_ | refine aRet ?_); try simp only [slx, ↓reduceIte, Nat.reduceEqDiff, reduceCtorEq] | (first | refine aReg ?_ | refine aDrE ?_ | refine aIf ?_); simp -implicitDefEqProofs only [forall_eq, ↓slp, slb, ↓reduceIte, reduceCtorEq, jA, jB, jC, jD, jE, jF, jG, jH, jI, jJ, jK, tfInR]; try simp only [Ex.fold, Ex.foldcs, ← Va.pv.eq_1] | refine hX _ _ ?_; clear hX X | clear hX X; refine hX _ _ ?_; clear hX X | clear hX X; clear hX X; refine hX _ _ ?_; clear hX X | intro hlen; unfold maxLen at hlen | apply And.intro; focus (first | omega | assumption | (repeat' apply And.intro) <;> first | omega | assumption)))
    simp only [aPost, Try.results11, aRes_n, aRes_t, aRes_c, pack_one, pack_two]
    have hv : hasN l s = false := by rw [hs, List.drop_length]; rfl
    exact leave_same rfl ⟨by rw [hv]; rfl, rfl⟩
end Go.Proofs.Ytfemdelaciccmaa

/-
  The places of variables by their names.
-/
set_option linter.unusedVariables false
set_option linter.unusedSimpArgs false
namespace Go.Proofs.Ytfemdelaciccmaa
open Nat renaming reduceEqDiff → jA, reduceAdd → jB, reduceMul → jC, reduceLT → jD, reduceLeDiff → jE, reduceBEq → jF, reduceBNe → jG
open Int renaming reduceLE → jH, reduceLT → jI, reduceToNat → jJ, reduceEq → jK
open Go
set_option maxRecDepth 20000
-- TNAMES: int; uint8; int32; string; bool; []string; []api.Expr; api.Expr; api.Pos; api.Type; api.On; []api.On; api.Var; []api.Var
set_option linter.defProp false
def tfInF := And.intro @tfA (And.intro @Ex.settle_pv (And.intro @Ex.pure_pv (And.intro @Ex.cells_pv (And.intro @Ex.cs.eq_1 (And.intro @On.pv.eq_1 (And.intro @Ty.pv.eq_1 (And.intro @Va.settle_pv (And.intro @Va.pure_pv (And.intro @Va.cells_pv @Va.cs.eq_1)))))))))

/-- The place of the first that has a property, from a place on; -1: none. -/
def idxF {α : Type} (p : α → Bool) : List α → Nat → Int
  | [], _ => -1
  | a :: l, k => if p a then k else idxF p l (k + 1)
theorem idxF_drop {α : Type} {p : α → Bool} {l : List α} {k : Nat} (h : k < l.length) : idxF p (l.drop k) k = if p l[k] then (k : Int) else idxF p (l.drop (k + 1)) (k + 1) := by
  rw [List.drop_eq_getElem_cons h, idxF]
theorem idxF_at {α : Type} {p : α → Bool} : ∀ (l : List α) (n : Nat), (idxF p l n = -1 ∧ ∀ x ∈ l, p x = false) ∨ ∃ k, ∃ h : k < l.length, idxF p l n = ((n + k : Nat) : Int) ∧ p l[k] = true ∧ ∀ j (hj : j < k), p (l[j]'(by omega)) = false
  | [], n => .inl ⟨rfl, fun x h => by simp at h⟩
  | a :: l, n => by
    unfold idxF
    by_cases ha : p a = true
    · exact .inr ⟨0, by simp, by simp [ha], by simpa using ha, fun j hj => by omega⟩
    · have ha' : p a = false := by simpa using ha
      rw [if_neg ha]
      rcases idxF_at l (n + 1) with ⟨h1, h2⟩ | ⟨k, h, h1, h2, h3⟩
      · exact .inl ⟨h1, fun x hx => by rcases List.mem_cons.1 hx with rfl | hx; exact ha'; exact h2 x hx⟩
      · refine .inr ⟨k + 1, by simpa using h, by rw [h1]; congr 1; omega, by simpa using h2, fun j hj => ?_⟩
        cases j with
        | zero => simpa using ha'
        | succ j => simpa using h3 j (by omega)
set_option maxRecDepth 20000 in
set_option maxHeartbeats 400000 in
theorem idxVar_any (o : Own) (l : List Va) (p : Va → Bool) (g : FuncId) (c : PV) (m : M) (hf : ∀ k (hk : k < l.length) (m : M), ACalls Try.prog g [Va.pv l[k], c] m (fun v m' => v = pB (p l[k]) ∧ m' = m)) :
    ACalls Try.prog 52 [.sl o (l.map (Va.pv)), .fn (.func g) [] [c]] m (fun v m' => v = pI (idxF p l 0) ∧ m' = m) := by
  refine ACalls.enter (mu := []) ok_mix Try.func52 rfl (by kernel_rfl) (by kernel_rfl) (by simp only [List.length_cons, List.length_nil, Try.ntmps52]; omega) ?_
  (repeat (first | refine aSeq fun X hX => ?_ | refine aBlk ?_ | refine aSkip ?_ | (first | refine aExit ?_ | refine aRet ?_); try simp only [slx, ↓reduceIte, Nat.reduceEqDiff, reduceCtorEq] | (first | refine aReg ?_ | refine aDrE ?_); simp -implicitDefEqProofs only [forall_eq, ↓slp, slb, ↓reduceIte, reduceCtorEq, jA, jB, jC, jD, jE, jF, jG, jH, jI, jJ, jK, tfInF]; try simp only [Ex.fold, Ex.foldcs, ← Va.pv.eq_1] | refine hX _ _ ?_; clear hX X | clear hX X; refine hX _ _ ?_; clear hX X | clear hX X; clear hX X; refine hX _ _ ?_; clear hX X | intro hlen; unfold maxLen at hlen | apply And.intro; focus (first | omega | assumption | (repeat' apply And.intro) <;> first | omega | assumption)))
  obtain ⟨I, hI⟩ : ∃ I : F → M → Prop, ∀ f m', I f m' = (∃ k : Nat, k ≤ l.length ∧ f 0 = .sl o (l.map (Va.pv)) ∧ f 1 = .fn (.func g) [] [c] ∧ f 7 = pI l.length ∧ f 8 = pI k ∧ idxF p l 0 = idxF p (l.drop k) k ∧ m' = m) := ⟨_, fun _ _ => rfl⟩
  refine aLoop I (fun f m => l.length - numOf (f 8)) ?_ ?_
  · rw [hI]; exact ⟨0, by omega, rfl, rfl, rfl, rfl, rfl, rfl⟩
  intro f m' hrel
  rw [hI] at hrel
  obtain ⟨k, hk, h0, h1, h7, h8, hs, rfl⟩ := hrel
  (repeat (first | refine aSeq fun X hX => ?_ | refine aBlk ?_ | refine aSkip ?_ | (first | refine aExit ?_ | refine aRet ?_); try simp only [slx, ↓reduceIte, Nat.reduceEqDiff, reduceCtorEq] | (first | refine aReg ?_ | refine aDrE ?_); simp -implicitDefEqProofs only [forall_eq, ↓slp, slb, ↓reduceIte, reduceCtorEq, jA, jB, jC, jD, jE, jF, jG, jH, jI, jJ, jK, tfInF, h0, h1, h7, h8, pI]; try simp only [Ex.fold, Ex.foldcs, ← Va.pv.eq_1] | refine hX _ _ ?_; clear hX X | clear hX X; refine hX _ _ ?_; clear hX X | clear hX X; clear hX X; refine hX _ _ ?_; clear hX X | intro hlen; unfold maxLen at hlen | apply And.intro; focus (first | omega | assumption | (repeat' apply And.intro) <;> first | omega | assumption)))
  refine aIf ?_; simp -implicitDefEqProofs only [↓slp, slb, ↓reduceIte, reduceCtorEq, jA, jB, jC, jD, jE, jF, jG, jH, jI, jJ, jK]; refine ⟨fun hb => ?_, fun hb => ?_⟩
  · have hlt : k < l.length := by simpa using hb
    have g0 := getD_map (Va.pv) l k hlt
    have hi : IntKind.i64.wrap ((k : Int) + 1) = ((k + 1 : Nat) : Int) := by rw [wrap64 (by omega)]; omega
    have hd := idxF_drop (p := p) hlt
    (repeat (first | refine aSeq fun X hX => ?_ | refine aBlk ?_ | refine aSkip ?_ | (first | refine aExit ?_ | refine aRet ?_); try simp only [slx, ↓reduceIte, Nat.reduceEqDiff, reduceCtorEq] | (first | refine aReg ?_ | refine aDrE ?_); simp -implicitDefEqProofs only [forall_eq, ↓slp, slb, ↓reduceIte, reduceCtorEq, jA, jB, jC, jD, jE, jF, jG, jH, jI, jJ, jK, tfInF, h0, h1, h7, h8, pI, g0]; try simp only [Ex.fold, Ex.foldcs, ← Va.pv.eq_1] | refine hX _ _ ?_; clear hX X | clear hX X; refine hX _ _ ?_; clear hX X | clear hX X; clear hX X; refine hX _ _ ?_; clear hX X | intro hlen; unfold maxLen at hlen | apply And.intro; focus (first | omega | assumption | (repeat' apply And.intro) <;> first | omega | assumption)))
    refine callE (hf k hlt _) ?_
    simp -implicitDefEqProofs only [↓slp, slb, ↓reduceIte, reduceCtorEq, jA, jB, jC, jD, jE, jF, jG, jH, jI, jJ, jK, tfInF, h0, h1, h7, h8, pI, pB]; try simp only [Ex.fold, Ex.foldcs, ← Va.pv.eq_1]
    cases c1 : p l[k] with
    | true =>
      (repeat (first | refine aSeq fun X hX => ?_ | refine aBlk ?_ | refine aSkip ?_ | (first | refine aExit ?_ | refine aRet ?_); try simp only [slx, ↓reduceIte, Nat.reduceEqDiff, reduceCtorEq] | (first | refine aReg ?_ | refine aDrE ?_); simp -implicitDefEqProofs only [forall_eq, ↓slp, slb, ↓reduceIte, reduceCtorEq, jA, jB, jC, jD, jE, jF, jG, jH, jI, jJ, jK, tfInF, h0, h1, h7, h8, pI, g0, c1]; try simp only [Ex.fold, Ex.foldcs, ← Va.pv.eq_1] | refine hX _ _ ?_; clear hX X | clear hX X; refine hX _ _ ?_; clear hX X | clear hX X; clear hX X; refine hX _ _ ?_; clear hX X | intro hlen; unfold maxLen at hlen | apply And.intro; focus (first | omega | assumption | (repeat' apply And.intro) <;> first | omega | assumption)))
      refine aIf ?_; simp -implicitDefEqProofs only [↓slp, slb, ↓reduceIte, reduceCtorEq, jA, jB, jC, jD, jE, jF, jG, jH, jI, jJ, jK, c1]
      (repeat (first | refine aSeq fun X hX => ?_ | refine aBlk ?_ | refine aSkip ?_ | (first | refine aExit ?_ | refine aRet ?_); try simp only [slx, ↓reduceIte, Nat.reduceEqDiff, reduceCtorEq] | (first | refine aReg ?_ | refine aDrE ?_); simp -implicitDefEqProofs only [forall_eq, ↓slp, slb, ↓reduceIte, reduceCtorEq, jA, jB, jC, jD, jE, jF, jG, jH, jI, jJ, jK, tfInF]; try simp only [Ex.fold, Ex.foldcs, ← Va.pv.eq_1] | refine hX _ _ ?_; clear hX X | clear hX X; refine hX _ _ ?_; clear hX X | clear hX X; clear hX X; refine hX _ _ ?_; clear hX X | intro hlen; unfold maxLen at hlen | apply And.intro; focus (first | omega | assumption | (repeat' apply And.intro) <;> first | omega | assumption)))
      simp only [aPost, Try.results52, aRes_n, aRes_t, aRes_c, pack_one, pack_two]
      refine leave_same rfl ⟨?_, rfl⟩
      have hv : idxF p l 0 = (k : Int) := by rw [hs, hd]; simp [c1]
      rw [hv]; rfl
    | false =>
      (repeat (first | refine aSeq fun X hX => ?_ | refine aBlk ?_ | refine aSkip ?_ | (first | refine aExit ?_ | refine aRet ?_); try simp only [slx, ↓reduceIte, Nat.reduceEqDiff, reduceCtorEq] | (first | refine aReg ?_ | refine aDrE ?_); simp -implicitDefEqProofs only [forall_eq, ↓slp, slb, ↓reduceIte, reduceCtorEq, jA, jB, jC, jD, jE, jF, jG, jH, jI, jJ, jK, tfInF, h0, h1, h7, h8, pI, g0, c1]; try simp only [Ex.fold, Ex.foldcs, ← Va.pv.eq_1] | refine hX _ _ ?_; clear hX X | clear hX X; refine hX _ _ ?_; clear hX X | clear hX X; clear hX X; refine hX _ _ ?_; clear hX X | intro hlen; unfold maxLen at hlen | apply And.intro; focus (first | omega | assumption | (repeat' apply And.intro) <;> first | omega | assumption)))
      refine aIf ?_; simp -implicitDefEqProofs only [↓slp, slb, ↓reduceIte, reduceCtorEq, jA, jB, jC, jD, jE, jF, jG, jH, jI, jJ, jK, c1]
      (repeat (first | refine aSeq fun X hX => ?_ | refine aBlk ?_ | refine aSkip ?_ | (first | refine aExit ?_ | refine aRet ?_); try simp only [slx, ↓reduceIte, Nat.reduceEqDiff, reduceCtorEq] | (first | refine aReg ?_ | refine aDrE ?_); simp -implicitDefEqProofs only [forall_eq, ↓slp, slb, ↓reduceIte, reduceCtorEq, jA, jB, jC, jD, jE, jF, jG, jH, jI, jJ, jK, tfInF, h0, h1, h7, h8, pI, hi]; try simp only [Ex.fold, Ex.foldcs, ← Va.pv.eq_1] | refine hX _ _ ?_; clear hX X | clear hX X; refine hX _ _ ?_; clear hX X | clear hX X; clear hX X; refine hX _ _ ?_; clear hX X | intro hlen; unfold maxLen at hlen | apply And.intro; focus (first | omega | assumption | (repeat' apply And.intro) <;> first | omega | assumption)))
      rw [hI]
      refine ⟨⟨k + 1, hlt, h0, h1, h7, rfl, by rw [hs, hd]; simp [c1], rfl⟩, ?_⟩
      first | omega | (simp only [↓slp, slb, ↓reduceIte, reduceCtorEq, jA, jB, jC, jD, jE, jF, jG, jH, jI, jJ, jK, h8, pI]; omega)
  · have hlt : k = l.length := by simp at hb; omega
    subst hlt
    (repeat (first | refine aSeq fun X hX => ?_ | refine aBlk ?_ | refine aSkip ?_ | (first | refine aExit ?_ | refine aRet ?_); try simp only [slx, ↓reduceIte, Nat.reduceEqDiff, reduceCtorEq] | (first | refine aReg ?_ | refine aDrE ?_); simp -implicitDefEqProofs only [forall_eq, ↓slp, slb, ↓reduceIte, reduceCtorEq, jA, jB, jC, jD, jE, jF, jG, jH, jI, jJ, jK, tfInF]; try simp only [Ex.fold, Ex.foldcs, ← Va.pv.eq_1] | refine hX _ _ ?_; clear hX X | clear hX X; refine hX _ _ ?_; clear hX X | clear hX X; clear hX X; refine hX _ _ ?_; clear hX X | intro hlen; unfold maxLen at hlen | apply And.intro; focus (first | omega | assumption | (repeat' apply And.intro) <;> first | omega | assumption)))
    simp only [aPost, Try.results52, aRes_n, aRes_t, aRes_c, pack_one, pack_two]
    refine leave_same rfl ⟨?_, rfl⟩
    have hv : idxF p l 0 = -1 := by rw [hs]; simp [idxF]
    rw [hv]; rfl

set_option maxRecDepth 20000 in
set_option maxHeartbeats 400000 in
theorem findVarC_any (e : Va) (s : Str) (m : M) : ACalls Try.prog 53 [e.pv, .ep [pS s]] m (fun v m' => v = pB (eqS e.name s) ∧ m' = m) := by
  refine ACalls.enter (mu := []) ok_mix Try.func53 rfl (by kernel_rfl) (by kernel_rfl) (by simp only [List.length_cons, List.length_nil, Try.ntmps53]; omega) ?_
  (repeat (first | refine aSeq fun X hX => ?_ | refine aBlk ?_ | refine aSkip ?_ | (first | refine aExit ?_ | refine aRet ?_); try simp only [slx, ↓reduceIte, Nat.reduceEqDiff, reduceCtorEq] | (first | refine aReg ?_ | refine aDrE ?_); simp -implicitDefEqProofs only [forall_eq, ↓slp, slb, ↓reduceIte, reduceCtorEq, jA, jB, jC, jD, jE, jF, jG, jH, jI, jJ, jK, tfInF, pS]; try simp only [Ex.fold, Ex.foldcs, ← Va.pv.eq_1] | refine hX _ _ ?_; clear hX X | clear hX X; refine hX _ _ ?_; clear hX X | clear hX X; clear hX X; refine hX _ _ ?_; clear hX X | intro hlen; unfold maxLen at hlen | apply And.intro; focus (first | omega | assumption | (repeat' apply And.intro) <;> first | omega | assumption)))
  simp only [aPost, Try.results53, aRes_n, aRes_t, aRes_c, pack_one, pack_two]
  exact leave_same rfl ⟨rfl, rfl⟩
def findVar (l : List Va) (s : Str) : Int := idxF (fun e => eqS e.name s) l 0
set_option maxRecDepth 20000 in
set_option maxHeartbeats 400000 in
theorem findVar_any (o : Own) (l : List Va) (s : Str) (m : M) : ACalls Try.prog 34 [.sl o (l.map Va.pv), pS s] m (fun v m' => v = pI (findVar l s) ∧ m' = m) := by
  refine ACalls.enter (mu := []) ok_mix Try.func34 rfl (by kernel_rfl) (by kernel_rfl) (by simp only [List.length_cons, List.length_nil, Try.ntmps34]; omega) ?_
  (repeat (first | refine aSeq fun X hX => ?_ | refine aBlk ?_ | refine aSkip ?_ | (first | refine aExit ?_ | refine aRet ?_); try simp only [slx, ↓reduceIte, Nat.reduceEqDiff, reduceCtorEq] | (first | refine aReg ?_ | refine aDrE ?_); simp -implicitDefEqProofs only [forall_eq, ↓slp, slb, ↓reduceIte, reduceCtorEq, jA, jB, jC, jD, jE, jF, jG, jH, jI, jJ, jK, tfInF, pS]; try simp only [Ex.fold, Ex.foldcs, ← Va.pv.eq_1] | refine hX _ _ ?_; clear hX X | clear hX X; refine hX _ _ ?_; clear hX X | clear hX X; clear hX X; refine hX _ _ ?_; clear hX X | intro hlen; unfold maxLen at hlen | apply And.intro; focus (first | omega | assumption | (repeat' apply And.intro) <;> first | omega | assumption)))
  refine callE (idxVar_any o l (fun e => eqS e.name s) _ _ _ (fun k hk m => findVarC_any _ s m)) ?_
  simp -implicitDefEqProofs only [↓slp, slb, ↓reduceIte, reduceCtorEq, jA, jB, jC, jD, jE, jF, jG, jH, jI, jJ, jK, tfInF, pI]; try simp only [Ex.fold, Ex.foldcs, ← Va.pv.eq_1]
  (repeat (first | refine aSeq fun X hX => ?_ | refine aBlk ?_ | refine aSkip ?_ | (first | refine aExit ?_ | refine aRet ?_); try simp only [slx, ↓reduceIte, Nat.reduceEqDiff, reduceCtorEq] | (first | refine aReg ?_ | refine aDrE ?_); simp -implicitDefEqProofs only [forall_eq, ↓slp, slb, ↓reduceIte, reduceCtorEq, jA, jB, jC, jD, jE, jF, jG, jH, jI, jJ, jK, tfInF]; try simp only [Ex.fold, Ex.foldcs, ← Va.pv.eq_1] | refine hX _ _ ?_; clear hX X | clear hX X; refine hX _ _ ?_; clear hX X | clear hX X; clear hX X; refine hX _ _ ?_; clear hX X | intro hlen; unfold maxLen at hlen | apply And.intro; focus (first | omega | assumption | (repeat' apply And.intro) <;> first | omega | assumption)))
  simp only [aPost, Try.results34, aRes_n, aRes_t, aRes_c, pack_one, pack_two]
  exact leave_same rfl ⟨rfl, rfl⟩
theorem findVar_ge (l : List Va) (s : Str) : decide (findVar l s ≥ 0) = hasN (l.map Va.name) s := by
  rcases idxF_at (p := fun e : Va => eqS e.name s) l 0 with ⟨h, h2⟩ | ⟨k, hk, h1, h2, h3⟩
  · have e1 : findVar l s = -1 := h
    rw [e1]
    have : hasN (l.map Va.name) s = false := by
      cases q : hasN (l.map Va.name) s with
      | false => rfl
      | true =>
        unfold hasN at q
        rw [List.any_eq_true] at q
        obtain ⟨x, hx, hx2⟩ := q
        obtain ⟨v, hv, rfl⟩ := List.mem_map.1 hx
        have := h2 v hv
        rw [hx2] at this
        cases this
    rw [this]; rfl
  · have e1 : findVar l s = ((0 + k : Nat) : Int) := h1
    rw [e1]
    have : hasN (l.map Va.name) s = true := by
      unfold hasN
      rw [List.any_eq_true]
      exact ⟨l[k].name, List.mem_map.2 ⟨_, List.getElem_mem hk, rfl⟩, h2⟩
    rw [this]
    simp
theorem findVar_lt (l : List Va) (s : Str) : decide (findVar l s < 0) = !hasN (l.map Va.name) s := by
  rw [← findVar_ge]
  by_cases h : findVar l s < 0
  · simp [h]
  · simp [h]; omega
set_option maxHeartbeats 400000 in
theorem rFind_any (o : Own) (l : List Va) (s : Str) (m : M) : ACalls Try.prog 20 [.sl o (l.map Va.pv), pS s] m (fun v m' => v = pI (findVar l s) ∧ m' = m) := by
  refine ACalls.enter (mu := []) ok_mix Try.func20 rfl (by kernel_rfl) (by kernel_rfl) (by simp only [List.length_cons, List.length_nil, Try.ntmps20]; omega) ?_
  (repeat (first | refine aSeq fun X hX => ?_ | refine aBlk ?_ | refine aSkip ?_ | (first | refine aExit ?_ | refine aRet ?_); try simp only [slx, ↓reduceIte, Nat.reduceEqDiff, reduceCtorEq] | (first | refine aReg ?_ | refine aDrE ?_); simp -implicitDefEqProofs only [forall_eq, ↓slp, slb, ↓reduceIte, reduceCtorEq, jA, jB, jC, jD, jE, jF, jG, jH, jI, jJ, jK, tfInF]; try simp only [Ex.fold, Ex.foldcs, ← Va.pv.eq_1] | refine hX _ _ ?_; clear hX X | clear hX X; refine hX _ _ ?_; clear hX X | clear hX X; clear hX X; refine hX _ _ ?_; clear hX X | intro hlen; unfold maxLen at hlen | apply And.intro; focus (first | omega | assumption | (repeat' apply And.intro) <;> first | omega | assumption)))
  obtain ⟨I, hI⟩ : ∃ I : F → M → Prop, ∀ f m', I f m' = (∃ k : Nat, k ≤ l.length ∧ f 0 = .sl o (l.map (Va.pv)) ∧ f 1 = pS s ∧ f 5 = pI k ∧ findVar l s = idxF (fun e : Va => eqS e.name s) (l.drop k) k ∧ m' = m) := ⟨_, fun _ _ => rfl⟩
  refine aLoop I (fun f m => l.length - numOf (f 5)) ?_ ?_
  · rw [hI]; exact ⟨0, by omega, rfl, rfl, rfl, rfl, rfl⟩
  intro f m' hrel
  rw [hI] at hrel
  obtain ⟨k, hk, h0, h1, h5, hs, rfl⟩ := hrel
  (repeat (first | refine aSeq fun X hX => ?_ | refine aBlk ?_ | refine aSkip ?_ | (first | refine aExit ?_ | refine aRet ?_); try simp only [slx, ↓reduceIte, Nat.reduceEqDiff, reduceCtorEq] | (first | refine aReg ?_ | refine aDrE ?_); simp -implicitDefEqProofs only [forall_eq, ↓slp, slb, ↓reduceIte, reduceCtorEq, jA, jB, jC, jD, jE, jF, jG, jH, jI, jJ, jK, tfInF, h0, h5, pI]; try simp only [Ex.fold, Ex.foldcs, ← Va.pv.eq_1] | refine hX _ _ ?_; clear hX X | clear hX X; refine hX _ _ ?_; clear hX X | clear hX X; clear hX X; refine hX _ _ ?_; clear hX X | intro hlen; unfold maxLen at hlen | apply And.intro; focus (first | omega | assumption | (repeat' apply And.intro) <;> first | omega | assumption)))
  refine aIf ?_; simp -implicitDefEqProofs only [↓slp, slb, ↓reduceIte, reduceCtorEq, jA, jB, jC, jD, jE, jF, jG, jH, jI, jJ, jK]; refine ⟨fun hb => ?_, fun hb => ?_⟩
  · have hlt : k < l.length := by simpa using hb
    have g0 := getD_map (Va.pv) l k hlt
    have hi : IntKind.i64.wrap ((k : Int) + 1) = ((k + 1 : Nat) : Int) := by rw [wrap64 (by omega)]; omega
    have hd := idxF_drop (p := fun e : Va => eqS e.name s) hlt
    cases c1 : (l[k].name.toList == s.toList) with
    | true =>
      have c2 : eqS l[k].name s = true := c1
      (repeat (first | refine aSeq fun X hX => ?_ | refine aBlk ?_ | refine aSkip ?_ | (first | refine aExit ?_ | refine aRet ?_); try simp only [slx, ↓reduceIte, Nat.reduceEqDiff, reduceCtorEq] | (first | refine aReg ?_ | refine aDrE ?_ | refine aIf ?_); simp -implicitDefEqProofs only [forall_eq, ↓slp, slb, ↓reduceIte, reduceCtorEq, jA, jB, jC, jD, jE, jF, jG, jH, jI, jJ, jK, tfInF, h0, h1, h5, pI, pS, g0, c1]; try simp only [Ex.fold, Ex.foldcs, ← Va.pv.eq_1] | refine hX _ _ ?_; clear hX X | clear hX X; refine hX _ _ ?_; clear hX X | clear hX X; clear hX X; refine hX _ _ ?_; clear hX X | intro hlen; unfold maxLen at hlen | apply And.intro; focus (first | omega | assumption | (repeat' apply And.intro) <;> first | omega | assumption)))
      simp only [aPost, Try.results20, aRes_n, aRes_t, aRes_c, pack_one, pack_two]
      have hv : findVar l s = (k : Int) := by rw [hs, hd]; simp [c2]
      exact leave_same rfl ⟨by rw [hv]; rfl, rfl⟩
    | false =>
      have c2 : eqS l[k].name s = false := c1
      (repeat (first | refine aSeq fun X hX => ?_ | refine aBlk ?_ | refine aSkip ?_ | (first | refine aExit ?_ | refine aRet ?_); try simp only [slx, ↓reduceIte, Nat.reduceEqDiff, reduceCtorEq] | (first | refine aReg ?_ | refine aDrE ?_ | refine aIf ?_); simp -implicitDefEqProofs only [forall_eq, ↓slp, slb, ↓reduceIte, reduceCtorEq, jA, jB, jC, jD, jE, jF, jG, jH, jI, jJ, jK, tfInF, h0, h1, h5, pI, pS, g0, c1, hi]; try simp only [Ex.fold, Ex.foldcs, ← Va.pv.eq_1] | refine hX _ _ ?_; clear hX X | clear hX X; refine hX _ _ ?_; clear hX X | clear hX X; clear hX X; refine hX _ _ ?_; clear hX X | intro hlen; unfold maxLen at hlen | apply And.intro; focus (first | omega | assumption | (repeat' apply And.intro) <;> first | omega | assumption)))
      rw [hI]
      refine ⟨⟨k + 1, hlt, h0, h1, rfl, by rw [hs, hd]; simp [c2], rfl⟩, ?_⟩
      first | omega | (simp only [↓slp, slb, ↓reduceIte, reduceCtorEq, jA, jB, jC, jD, jE, jF, jG, jH, jI, jJ, jK, h5, pI]; omega)
  · have hlt : k = l.length := by simp at hb; omega
    subst hlt
    (repeat (first | refine aSeq fun X hX => ?_ | refine aBlk ?_ | refine aSkip ?_ | (first | refine aExit ?_ | refine aRet ?_); try simp only [slx, ↓reduceIte, Nat.reduceEqDiff, reduceCtorEq] | (first | refine aReg ?_ | refine aDrE ?_ | refine aIf ?_); simp -implicitDefEqProofs only [forall_eq, ↓slp, slb, ↓reduceIte, reduceCtorEq, jA, jB, jC, jD, jE, jF, jG, jH, jI, jJ, jK, tfInF]; try simp only [Ex.fold, Ex.foldcs, ← Va.pv.eq_1] | refine hX _ _ ?_; clear hX X | clear hX X; refine hX _ _ ?_; clear hX X | clear hX X; clear hX X; refine hX _ _ ?_; clear hX X | intro hlen; unfold maxLen at hlen | apply And.intro; focus (first | omega | assumption | (repeat' apply And.intro) <;> first | omega | assumption)))
    simp only [aPost, Try.results20, aRes_n, aRes_t, aRes_c, pack_one, pack_two]
    have hv : findVar l s = -1 := by rw [hs]; simp [idxF]
    exact leave_same rfl ⟨by rw [hv]; rfl, rfl⟩
set_option maxHeartbeats 1000000 in
theorem rMay_any (o : Own) (late : List Str) (m : M) (e : Ex) : e.fed → ACalls Try.prog 21 [.sl o (late.map pS), e.pv] m (fun v m' => v = pB (mayB (hasN late) e) ∧ m' = m) := by
  refine Ex.ind (motive := fun e => e.fed → ACalls Try.prog 21 [.sl o (late.map pS), e.pv] m (fun v m' => v = pB (mayB (hasN late) e) ∧ m' = m)) (fun e IH hfd => ?_) e
  obtain ⟨hk0, hkf⟩ := Ex.fed_x hfd
  have he := mayB_eq (hasN late) e
  refine ACalls.enter (mu := []) ok_mix Try.func21 rfl (by kernel_rfl) (by kernel_rfl) (by simp only [List.length_cons, List.length_nil, Try.ntmps21]; omega) ?_
  by_cases k4 : e.kind = 4
  · have b4 : (e.kind == 4) = true := by simp [k4]
    rw [if_pos k4] at he
    (repeat (first | refine aSeq fun X hX => ?_ | refine aBlk ?_ | refine aSkip ?_ | (first | refine aExit ?_ | refine aRet ?_); try simp only [slx, ↓reduceIte, Nat.reduceEqDiff, reduceCtorEq] | (first | refine aReg ?_ | refine aIf ?_); simp -implicitDefEqProofs only [forall_eq, ↓slp, slb, ↓reduceIte, reduceCtorEq, jA, jB, jC, jD, jE, jF, jG, jH, jI, jJ, jK, tfInF, b4]; try simp only [Ex.fold, Ex.foldcs, ← Va.pv.eq_1] | refine hX _ _ ?_; clear hX X | clear hX X; refine hX _ _ ?_; clear hX X | clear hX X; clear hX X; refine hX _ _ ?_; clear hX X | intro hlen; unfold maxLen at hlen | apply And.intro; focus (first | omega | assumption | (repeat' apply And.intro) <;> first | omega | assumption)))
    refine callE (rHas_any _ late e.name _) ?_
    simp -implicitDefEqProofs only [↓slp, slb, ↓reduceIte, reduceCtorEq, jA, jB, jC, jD, jE, jF, jG, jH, jI, jJ, jK, tfInF]; try simp only [Ex.fold, Ex.foldcs, ← Va.pv.eq_1]
    (repeat (first | refine aSeq fun X hX => ?_ | refine aBlk ?_ | refine aSkip ?_ | (first | refine aExit ?_ | refine aRet ?_); try simp only [slx, ↓reduceIte, Nat.reduceEqDiff, reduceCtorEq] | (first | refine aReg ?_ | refine aIf ?_); simp -implicitDefEqProofs only [forall_eq, ↓slp, slb, ↓reduceIte, reduceCtorEq, jA, jB, jC, jD, jE, jF, jG, jH, jI, jJ, jK, tfInF]; try simp only [Ex.fold, Ex.foldcs, ← Va.pv.eq_1] | refine hX _ _ ?_; clear hX X | clear hX X; refine hX _ _ ?_; clear hX X | clear hX X; clear hX X; refine hX _ _ ?_; clear hX X | intro hlen; unfold maxLen at hlen | apply And.intro; focus (first | omega | assumption | (repeat' apply And.intro) <;> first | omega | assumption)))
    simp only [aPost, Try.results21, aRes_n, aRes_t, aRes_c, pack_one, pack_two]
    exact leave_same rfl ⟨by rw [he]; rfl, rfl⟩
  have b4 : (e.kind == 4) = false := by simp [k4]
  rw [if_neg k4] at he
  by_cases k10 : e.kind = 10
  · have b10 : (e.kind == 10) = true := by simp [k10]
    rw [if_pos k10] at he
    (repeat (first | refine aSeq fun X hX => ?_ | refine aBlk ?_ | refine aSkip ?_ | (first | refine aExit ?_ | refine aRet ?_); try simp only [slx, ↓reduceIte, Nat.reduceEqDiff, reduceCtorEq] | (first | refine aReg ?_ | refine aIf ?_); simp -implicitDefEqProofs only [forall_eq, ↓slp, slb, ↓reduceIte, reduceCtorEq, jA, jB, jC, jD, jE, jF, jG, jH, jI, jJ, jK, tfInF, b4, b10]; try simp only [Ex.fold, Ex.foldcs, ← Va.pv.eq_1] | refine hX _ _ ?_; clear hX X | clear hX X; refine hX _ _ ?_; clear hX X | clear hX X; clear hX X; refine hX _ _ ?_; clear hX X | intro hlen; unfold maxLen at hlen | apply And.intro; focus (first | omega | assumption | (repeat' apply And.intro) <;> first | omega | assumption)))
    simp only [aPost, Try.results21, aRes_n, aRes_t, aRes_c, pack_one, pack_two]
    exact leave_same rfl ⟨by rw [he]; rfl, rfl⟩
  have b10 : (e.kind == 10) = false := by simp [k10]
  rw [if_neg k10] at he
  have fin1 : (e.kind = 9 ∨ e.kind = 11) → ∃ a r, e.kids = a :: r := fun h => by
    cases hq : e.kids with
    | nil => exact absurd hq (hk0 h)
    | cons a r => exact ⟨a, r, rfl⟩
  by_cases k9 : e.kind = 9
  · have b9 : (e.kind == 9) = true := by simp [k9]
    rw [if_pos (.inl k9)] at he
    obtain ⟨a, r, hkr⟩ := fin1 (.inl k9)
    have ha := IH 0 (by rw [hkr]; simp) (hkf 0 (by rw [hkr]; simp))
    simp only [hkr, List.getElem_cons_zero] at ha
    rw [hkr, mayH] at he
    (repeat (first | refine aSeq fun X hX => ?_ | refine aBlk ?_ | refine aSkip ?_ | (first | refine aExit ?_ | refine aRet ?_); try simp only [slx, ↓reduceIte, Nat.reduceEqDiff, reduceCtorEq] | (first | refine aReg ?_ | refine aIf ?_); simp -implicitDefEqProofs only [forall_eq, ↓slp, slb, ↓reduceIte, reduceCtorEq, jA, jB, jC, jD, jE, jF, jG, jH, jI, jJ, jK, tfInF, b4, b10, b9, hkr]; try simp only [Ex.fold, Ex.foldcs, ← Va.pv.eq_1] | refine hX _ _ ?_; clear hX X | clear hX X; refine hX _ _ ?_; clear hX X | clear hX X; clear hX X; refine hX _ _ ?_; clear hX X | intro hlen; unfold maxLen at hlen | apply And.intro; focus (first | omega | assumption | (repeat' apply And.intro) <;> first | omega | assumption)))
    refine callE ha ?_
    simp -implicitDefEqProofs only [↓slp, slb, ↓reduceIte, reduceCtorEq, jA, jB, jC, jD, jE, jF, jG, jH, jI, jJ, jK, tfInF]; try simp only [Ex.fold, Ex.foldcs, ← Va.pv.eq_1]
    (repeat (first | refine aSeq fun X hX => ?_ | refine aBlk ?_ | refine aSkip ?_ | (first | refine aExit ?_ | refine aRet ?_); try simp only [slx, ↓reduceIte, Nat.reduceEqDiff, reduceCtorEq] | (first | refine aReg ?_ | refine aIf ?_); simp -implicitDefEqProofs only [forall_eq, ↓slp, slb, ↓reduceIte, reduceCtorEq, jA, jB, jC, jD, jE, jF, jG, jH, jI, jJ, jK, tfInF]; try simp only [Ex.fold, Ex.foldcs, ← Va.pv.eq_1] | refine hX _ _ ?_; clear hX X | clear hX X; refine hX _ _ ?_; clear hX X | clear hX X; clear hX X; refine hX _ _ ?_; clear hX X | intro hlen; unfold maxLen at hlen | apply And.intro; focus (first | omega | assumption | (repeat' apply And.intro) <;> first | omega | assumption)))
    simp only [aPost, Try.results21, aRes_n, aRes_t, aRes_c, pack_one, pack_two]
    exact leave_same rfl ⟨by rw [he]; rfl, rfl⟩
  have b9 : (e.kind == 9) = false := by simp [k9]
  by_cases k11 : e.kind = 11
  · have b11 : (e.kind == 11) = true := by simp [k11]
    rw [if_pos (.inr k11)] at he
    obtain ⟨a, r, hkr⟩ := fin1 (.inr k11)
    have ha := IH 0 (by rw [hkr]; simp) (hkf 0 (by rw [hkr]; simp))
    simp only [hkr, List.getElem_cons_zero] at ha
    rw [hkr, mayH] at he
    (repeat (first | refine aSeq fun X hX => ?_ | refine aBlk ?_ | refine aSkip ?_ | (first | refine aExit ?_ | refine aRet ?_); try simp only [slx, ↓reduceIte, Nat.reduceEqDiff, reduceCtorEq] | (first | refine aReg ?_ | refine aIf ?_); simp -implicitDefEqProofs only [forall_eq, ↓slp, slb, ↓reduceIte, reduceCtorEq, jA, jB, jC, jD, jE, jF, jG, jH, jI, jJ, jK, tfInF, b4, b10, b9, b11, hkr]; try simp only [Ex.fold, Ex.foldcs, ← Va.pv.eq_1] | refine hX _ _ ?_; clear hX X | clear hX X; refine hX _ _ ?_; clear hX X | clear hX X; clear hX X; refine hX _ _ ?_; clear hX X | intro hlen; unfold maxLen at hlen | apply And.intro; focus (first | omega | assumption | (repeat' apply And.intro) <;> first | omega | assumption)))
    refine callE ha ?_
    simp -implicitDefEqProofs only [↓slp, slb, ↓reduceIte, reduceCtorEq, jA, jB, jC, jD, jE, jF, jG, jH, jI, jJ, jK, tfInF]; try simp only [Ex.fold, Ex.foldcs, ← Va.pv.eq_1]
    (repeat (first | refine aSeq fun X hX => ?_ | refine aBlk ?_ | refine aSkip ?_ | (first | refine aExit ?_ | refine aRet ?_); try simp only [slx, ↓reduceIte, Nat.reduceEqDiff, reduceCtorEq] | (first | refine aReg ?_ | refine aIf ?_); simp -implicitDefEqProofs only [forall_eq, ↓slp, slb, ↓reduceIte, reduceCtorEq, jA, jB, jC, jD, jE, jF, jG, jH, jI, jJ, jK, tfInF]; try simp only [Ex.fold, Ex.foldcs, ← Va.pv.eq_1] | refine hX _ _ ?_; clear hX X | clear hX X; refine hX _ _ ?_; clear hX X | clear hX X; clear hX X; refine hX _ _ ?_; clear hX X | intro hlen; unfold maxLen at hlen | apply And.intro; focus (first | omega | assumption | (repeat' apply And.intro) <;> first | omega | assumption)))
    simp only [aPost, Try.results21, aRes_n, aRes_t, aRes_c, pack_one, pack_two]
    exact leave_same rfl ⟨by rw [he]; rfl, rfl⟩
  have b11 : (e.kind == 11) = false := by simp [k11]
  rw [if_neg (by rintro (h | h); exact k9 h; exact k11 h)] at he
  (repeat (first | refine aSeq fun X hX => ?_ | refine aBlk ?_ | refine aSkip ?_ | (first | refine aExit ?_ | refine aRet ?_); try simp only [slx, ↓reduceIte, Nat.reduceEqDiff, reduceCtorEq] | (first | refine aReg ?_ | refine aIf ?_); simp -implicitDefEqProofs only [forall_eq, ↓slp, slb, ↓reduceIte, reduceCtorEq, jA, jB, jC, jD, jE, jF, jG, jH, jI, jJ, jK, tfInF, b4, b10, b9, b11]; try simp only [Ex.fold, Ex.foldcs, ← Va.pv.eq_1] | refine hX _ _ ?_; clear hX X | clear hX X; refine hX _ _ ?_; clear hX X | clear hX X; clear hX X; refine hX _ _ ?_; clear hX X | intro hlen; unfold maxLen at hlen | apply And.intro; focus (first | omega | assumption | (repeat' apply And.intro) <;> first | omega | assumption)))
  obtain ⟨I, hI⟩ : ∃ I : F → M → Prop, ∀ f m', I f m' = (∃ k : Nat, k ≤ e.kids.length ∧ f 0 = .sl o (late.map pS) ∧ f 3 = .ep e.cs ∧ f 5 = pI k ∧ e.kids.any (mayB (hasN late)) = (e.kids.drop k).any (mayB (hasN late)) ∧ m' = m) := ⟨_, fun _ _ => rfl⟩
  refine aLoop I (fun f m => e.kids.length - numOf (f 5)) ?_ ?_
  · rw [hI]; exact ⟨0, by omega, rfl, rfl, rfl, rfl, rfl⟩
  intro f m' hrel
  rw [hI] at hrel
  obtain ⟨k, hk, h0, h3, h5, hs, rfl⟩ := hrel
  cases c1 : decide ((k : Int) < (e.kids.length : Int)) with
  | false =>
    have hk' : k = e.kids.length := by simp at c1; omega
    subst hk'
    rw [List.drop_length] at hs
    (repeat (first | refine aSeq fun X hX => ?_ | refine aBlk ?_ | refine aSkip ?_ | (first | refine aExit ?_ | refine aRet ?_); try simp only [slx, ↓reduceIte, Nat.reduceEqDiff, reduceCtorEq] | (first | refine aReg ?_ | refine aIf ?_); simp -implicitDefEqProofs only [forall_eq, ↓slp, slb, ↓reduceIte, reduceCtorEq, jA, jB, jC, jD, jE, jF, jG, jH, jI, jJ, jK, tfInF, h0, h3, h5, pI, c1, Ex.cs]; try simp only [Ex.fold, Ex.foldcs, ← Va.pv.eq_1] | refine hX _ _ ?_; clear hX X | clear hX X; refine hX _ _ ?_; clear hX X | clear hX X; clear hX X; refine hX _ _ ?_; clear hX X | intro hlen; unfold maxLen at hlen | apply And.intro; focus (first | omega | assumption | (repeat' apply And.intro) <;> first | omega | assumption)))
    simp only [aPost, Try.results21, aRes_n, aRes_t, aRes_c, pack_one, pack_two]
    exact leave_same rfl ⟨by rw [he, hs]; rfl, rfl⟩
  | true =>
    have hlt : k < e.kids.length := by simpa using c1
    have hg := getD_map Ex.pv e.kids k hlt
    have hme : numOf (f 5) = k := by rw [h5]; exact Int.toNat_natCast k
    rw [List.drop_eq_getElem_cons hlt, List.any_cons] at hs
    have hc := IH k hlt (hkf k hlt)
    (repeat (first | refine aSeq fun X hX => ?_ | refine aBlk ?_ | refine aSkip ?_ | (first | refine aExit ?_ | refine aRet ?_); try simp only [slx, ↓reduceIte, Nat.reduceEqDiff, reduceCtorEq] | (first | refine aReg ?_ | refine aIf ?_); simp -implicitDefEqProofs only [forall_eq, ↓slp, slb, ↓reduceIte, reduceCtorEq, jA, jB, jC, jD, jE, jF, jG, jH, jI, jJ, jK, tfInF, h0, h3, h5, pI, c1, hg, Ex.cs]; try simp only [Ex.fold, Ex.foldcs, ← Va.pv.eq_1] | refine hX _ _ ?_; clear hX X | clear hX X; refine hX _ _ ?_; clear hX X | clear hX X; clear hX X; refine hX _ _ ?_; clear hX X | intro hlen; unfold maxLen at hlen | apply And.intro; focus (first | omega | assumption | (repeat' apply And.intro) <;> first | omega | assumption)))
    have hi : IntKind.i64.wrap ((k : Int) + 1) = ((k + 1 : Nat) : Int) := by rw [wrap64 (by omega)]; omega
    cases c2 : mayB (hasN late) e.kids[k] with
    | true =>
      rw [c2] at hc hs
      refine callE hc ?_
      simp -implicitDefEqProofs only [↓slp, slb, ↓reduceIte, reduceCtorEq, jA, jB, jC, jD, jE, jF, jG, jH, jI, jJ, jK, tfInF, pB]; try simp only [Ex.fold, Ex.foldcs, ← Va.pv.eq_1]
      (repeat (first | refine aSeq fun X hX => ?_ | refine aBlk ?_ | refine aSkip ?_ | (first | refine aExit ?_ | refine aRet ?_); try simp only [slx, ↓reduceIte, Nat.reduceEqDiff, reduceCtorEq] | (first | refine aReg ?_ | refine aIf ?_); simp -implicitDefEqProofs only [forall_eq, ↓slp, slb, ↓reduceIte, reduceCtorEq, jA, jB, jC, jD, jE, jF, jG, jH, jI, jJ, jK, tfInF]; try simp only [Ex.fold, Ex.foldcs, ← Va.pv.eq_1] | refine hX _ _ ?_; clear hX X | clear hX X; refine hX _ _ ?_; clear hX X | clear hX X; clear hX X; refine hX _ _ ?_; clear hX X | intro hlen; unfold maxLen at hlen | apply And.intro; focus (first | omega | assumption | (repeat' apply And.intro) <;> first | omega | assumption)))
      simp only [aPost, Try.results21, aRes_n, aRes_t, aRes_c, pack_one, pack_two]
      exact leave_same rfl ⟨by rw [he, hs]; rfl, rfl⟩
    | false =>
      rw [c2] at hc hs
      refine callE hc ?_
      simp -implicitDefEqProofs only [↓slp, slb, ↓reduceIte, reduceCtorEq, jA, jB, jC, jD, jE, jF, jG, jH, jI, jJ, jK, tfInF, pB]; try simp only [Ex.fold, Ex.foldcs, ← Va.pv.eq_1]
      (repeat (first | refine aSeq fun X hX => ?_ | refine aBlk ?_ | refine aSkip ?_ | (first | refine aExit ?_ | refine aRet ?_); try simp only [slx, ↓reduceIte, Nat.reduceEqDiff, reduceCtorEq] | (first | refine aReg ?_ | refine aIf ?_); simp -implicitDefEqProofs only [forall_eq, ↓slp, slb, ↓reduceIte, reduceCtorEq, jA, jB, jC, jD, jE, jF, jG, jH, jI, jJ, jK, tfInF, h5, pI, hi]; try simp only [Ex.fold, Ex.foldcs, ← Va.pv.eq_1] | refine hX _ _ ?_; clear hX X | clear hX X; refine hX _ _ ?_; clear hX X | clear hX X; clear hX X; refine hX _ _ ?_; clear hX X | intro hlen; unfold maxLen at hlen | apply And.intro; focus (first | omega | assumption | (repeat' apply And.intro) <;> first | omega | assumption)))
      rw [hI]
      exact ⟨⟨k + 1, hlt, h0, h3, rfl, by rw [hs]; simp, rfl⟩, by omega⟩
end Go.Proofs.Ytfemdelaciccmaa

/-
  A loop by a number that falls, whatever shows it.
-/
set_option linter.unusedVariables false
namespace Go.Proofs.Ytfemdelaciccmaa
open Go
section
variable {P : Program} {mu : List Nat} {Z : PV → M → Prop} {K : Exit → F → M → Prop} {f : F} {m : M}
theorem leastN {p : Nat → Prop} (h : ∃ n, p n) : ∃ n, p n ∧ ∀ k, p k → n ≤ k := by
  obtain ⟨n, hn⟩ := h
  induction n using Nat.strongRecOn with
  | ind n ih =>
    by_cases hq : ∃ k, k < n ∧ p k
    · obtain ⟨k, hk, hp⟩ := hq; exact ih k hk hp
    · exact ⟨n, hn, fun k hk => Nat.le_of_not_lt fun hlt => hq ⟨k, hlt, hk⟩⟩
open Classical in
/-- Each round begins at a number and ends at a smaller one. -/
theorem aLoopN {c : Code} (J : Nat → F → M → Prop) (n : Nat) (h0 : J n f m) (h : ∀ (W : F → M → Prop) (n : Nat) (f : F) (m : M), J n f m → (∀ n' f' m', n' < n → J n' f' m' → W f' m') → aCode P mu Z c (aThen W K) f m) : aCode P mu Z (.loop c) K f m := by
  have hl : ∀ (f : F) (m : M), ∃ n : Nat, (∃ k, J k f m) → J n f m ∧ ∀ k, J k f m → n ≤ k := fun f m => by
    by_cases hq : ∃ k, J k f m
    · obtain ⟨n, h1, h2⟩ := leastN hq
      exact ⟨n, fun _ => ⟨h1, h2⟩⟩
    · exact ⟨0, fun h => absurd h hq⟩
  have hmu : ∃ μ : F → M → Nat, ∀ f m, (∃ k, J k f m) → J (μ f m) f m ∧ ∀ k, J k f m → μ f m ≤ k :=
    ⟨fun f m => Classical.choose (hl f m), fun f m => Classical.choose_spec (hl f m)⟩
  obtain ⟨μ, hμ⟩ := hmu
  refine aLoop (fun f m => ∃ n, J n f m) μ ⟨n, h0⟩ (fun f m hJ => ?_)
  obtain ⟨h1, h2⟩ := hμ f m hJ
  refine h _ (μ f m) f m h1 (fun n' f' m' hlt hj => ⟨⟨n', hj⟩, ?_⟩)
  have := (hμ f' m' ⟨n', hj⟩).2 n' hj
  omega
end
end Go.Proofs.Ytfemdelaciccmaa

/-
  Solving: which of a block's variables may have no value at first.
-/
set_option linter.unusedVariables false
set_option linter.unusedSimpArgs false
namespace Go.Proofs.Ytfemdelaciccmaa
open Nat renaming reduceEqDiff → jA, reduceAdd → jB, reduceMul → jC, reduceLT → jD, reduceLeDiff → jE, reduceBEq → jF, reduceBNe → jG
open Int renaming reduceLE → jH, reduceLT → jI, reduceToNat → jJ, reduceEq → jK
open Go
-- EXX: Qu.settle_pv, Qu.pure_pv, Qu.cells_pv, Qu.cs
set_option maxRecDepth 20000
-- TNAMES: int; uint8; int32; string; bool; []string; []api.Expr; api.Expr; api.Pos; api.Type; api.On; []api.On; api.Var; []api.Var; api.Equation; []api.Equation; api.Block
set_option linter.defProp false
def tfInS := And.intro @tfA (And.intro @Ex.settle_pv (And.intro @Ex.pure_pv (And.intro @Ex.cells_pv (And.intro @Ex.cs.eq_1 (And.intro @On.pv.eq_1 (And.intro @Ty.pv.eq_1 (And.intro @Va.settle_pv (And.intro @Va.pure_pv (And.intro @Va.cells_pv (And.intro @Va.cs.eq_1 (And.intro @Qu.settle_pv (And.intro @Qu.pure_pv (And.intro @Qu.cells_pv @Qu.cs.eq_1)))))))))))))

/-- A map with one more, or another, truth. -/
def putN : List Str → List Bool → Str → Bool → List Str × List Bool
  | a :: N, b :: B, s, x => if a.toList == s.toList then (a :: N, x :: B) else (a :: (putN N B s x).1, b :: (putN N B s x).2)
  | _, _, s, x => ([s], [x])
theorem putN_map : ∀ (N : List Str) (B : List Bool) (s : Str) (x : Bool), mapPut (N.map pS) (B.map pB) s (pB x) = ((putN N B s x).1.map pS, (putN N B s x).2.map pB)
  | [], _, s, x => by simp [mapPut, putN]
  | a :: N, [], s, x => by simp [mapPut, putN]
  | a :: N, b :: B, s, x => by
    simp only [List.map_cons, mapPut, putN]
    rw [putN_map N B s x]
    split <;> rfl
theorem putN_lk : ∀ (N : List Str) (B : List Bool) (s : Str) (x : Bool) (t : Str), lkB (putN N B s x).1 (putN N B s x).2 t = if eqS s t = true then x else lkB N B t
  | [], _, s, x, t => by simp [putN, lkB, eqS]
  | a :: N, [], s, x, t => by simp [putN, lkB, eqS]
  | a :: N, b :: B, s, x, t => by
    by_cases h : (a.toList == s.toList) = true
    · have ha : a = s := eqS_iff.1 h
      subst ha
      simp only [putN, if_pos h, lkB]
      by_cases h2 : (a.toList == t.toList) = true
      · rw [if_pos h2]; exact (if_pos h2).symm
      · rw [if_neg h2, if_neg h2]; exact (if_neg h2).symm
    · simp only [putN, if_neg h, lkB]
      by_cases h2 : (a.toList == t.toList) = true
      · rw [if_pos h2, if_pos h2]
        have : ¬ eqS s t = true := fun h3 => h (by rw [eqS_iff] at h3; subst h3; exact h2)
        rw [if_neg this]
      · rw [if_neg h2, if_neg h2]
        exact putN_lk N B s x t
theorem putN_in : ∀ (N : List Str) (B : List Bool) (s : Str) (x : Bool) (t : Str), (eqS s t = true ∨ (mapGet (N.map pS) (B.map pB) t).isSome = true) → (mapGet ((putN N B s x).1.map pS) ((putN N B s x).2.map pB) t).isSome = true
  | [], _, s, x, t, h => by
    rcases h with h | h
    · have h' : (s.toList == t.toList) = true := h
      simp only [putN, List.map_cons, mapGet]; rw [if_pos h']; rfl
    · simp [mapGet] at h
  | a :: N, [], s, x, t, h => by
    rcases h with h | h
    · have h' : (s.toList == t.toList) = true := h
      simp only [putN, List.map_cons, mapGet]; rw [if_pos h']; rfl
    · simp [mapGet] at h
  | a :: N, b :: B, s, x, t, h => by
    by_cases h1 : (a.toList == s.toList) = true
    · have ha : a = s := eqS_iff.1 h1
      subst ha
      simp only [putN, if_pos h1, List.map_cons, mapGet] at h ⊢
      by_cases h2 : (a.toList == t.toList) = true
      · rw [if_pos h2]; rfl
      · rw [if_neg h2] at h ⊢
        rcases h with h | h
        · exact absurd h h2
        · exact h
    · simp only [putN, if_neg h1, List.map_cons, mapGet] at h ⊢
      by_cases h2 : (a.toList == t.toList) = true
      · rw [if_pos h2]; rfl
      · rw [if_neg h2] at h ⊢
        exact putN_in N B s x t h
/-- A state with a map's content. -/
def mst (m : M) (id : Nat) (N : List Str) (B : List Bool) : M := m.upd id [.tp (N.map pS), .tp (B.map pB)]
theorem mst_get {m : M} {id : Nat} (h : id < m.nb) (N : List Str) (B : List Bool) : (mst m id N B).get id = some [.tp (N.map pS), .tp (B.map pB)] := by
  unfold mst; rw [M.get_upd, if_pos ⟨rfl, h⟩]
theorem upd_upd (m : M) (id : Nat) (c c' : List PV) : (m.upd id c).upd id c' = m.upd id c' := by simp [M.upd]
theorem mst_put (m : M) (id : Nat) (N : List Str) (B : List Bool) (s : Str) (x : Bool) : (mst m id N B).upd id [.tp ((putN N B s x).1.map pS), .tp ((putN N B s x).2.map pB)] = mst m id (putN N B s x).1 (putN N B s x).2 := upd_upd _ _ _ _
theorem hasN_take (l : List Str) (k : Nat) (h : k < l.length) (s : Str) : hasN (l.take (k + 1)) s = (hasN (l.take k) s || eqS l[k] s) := by
  rw [List.take_succ_eq_append_getElem h, hasN_app]
theorem lkA_app (A : Str → Bool) (late : List Str) (x s : Str) : lkA A (late ++ [x]) s = if eqS x s = true then true else lkA A late s := by
  unfold lkA
  rw [hasN_app]
  cases eqS x s <;> simp
theorem leave_updI {m : M} {id : Nat} {c c' : List PV} {v : PV} {R : PV → M → Prop} (hc : PV.pures c' = true) (hv : v.settle.pure = true) (hR : R v.settle (m.upd id c')) : ∃ v' m', Leave (m.upd id c) (m.upd id c') v v' m' ∧ R v' m' := by
  refine ⟨_, _, .upd v (m.upd id c') (by simp [M.upd, M.nb]) (by simp only [M.upd, M.nb, List.set_set, List.length_set]; rw [List.take_of_length_le (by simp)]) (by simp [M.upd, M.nt]) (by simp [M.upd, M.nt]) (fun k d hk => ?_) hv, hR⟩
  rw [M.get_upd] at hk
  split at hk
  · exact .inr (by cases hk; exact hc)
  · rename_i h
    exact .inl (by rw [M.get_upd, if_neg h]; exact hk)
set_option maxRecDepth 20000 in
set_option maxHeartbeats 1000000 in
theorem pures_pS (N : List Str) : PV.pures (N.map pS) = true := by
  induction N with
  | nil => rfl
  | cons a l ih => exact ih
theorem pures_pB (N : List Bool) : PV.pures (N.map pB) = true := by
  induction N with
  | nil => rfl
  | cons a l ih => exact ih
theorem leave_mst {m : M} {id : Nat} {N0 N : List Str} {B0 B : List Bool} {v : PV} {R : PV → M → Prop} (hv : v.settle.pure = true) (hR : R v.settle (mst m id N B)) : ∃ v' m', Leave (mst m id N0 B0) (mst m id N B) v v' m' ∧ R v' m' := by
  refine leave_updI ?_ hv hR
  simp only [PV.pures, PV.pure, pures_pS, pures_pB, Bool.and_self]
theorem entry_upd (m : M) (id : Nat) (N : List Str) (B : List Bool) (c : List PV) : (mst m id N B).upd id c = m.upd id c := upd_upd _ _ _ _
/-- Can an equation be looked at? -/
def Qu.def1 (q : Qu) : Prop := q.kind = 1 → q.lhs ≠ [] ∧ q.e.fed
/-- What is about a block: all but its own variables. -/
def aboutB (V : List Va) (L : Str → Bool) (s : Str) : Bool := !hasN (V.map Va.name) s && L s
def solveL (V : List Va) (Q : List Qu) (L : Str → Bool) : List Str := fixL (aboutB V L) (V.map Va.name) Q (V.length + 1) []
set_option maxHeartbeats 4000000 in
theorem solve_any (V : List Va) (Q : List Qu) (hQ : ∀ q ∈ Q, q.def1) (m : M) (id : Nat) (hid : id < m.nb) (N0 : List Str) (B0 : List Bool) :
    ACalls Try.prog 19 [.mp id, .ag [.sl .no (V.map Va.pv), .sl .no (Q.map Qu.pv)]] (mst m id N0 B0)
      (fun v m' => ∃ N B, v = .tp [] ∧ (∀ s, lkB N B s = lkA (aboutB V (lkB N0 B0)) (solveL V Q (lkB N0 B0)) s) ∧ m' = mst m id N B) := by
  obtain ⟨L0, hL0⟩ : ∃ L0, lkB N0 B0 = L0 := ⟨_, rfl⟩
  rw [hL0]
  obtain ⟨names, hnm⟩ : ∃ names, V.map Va.name = names := ⟨_, rfl⟩
  obtain ⟨A, hA⟩ : ∃ A, aboutB V L0 = A := ⟨_, rfl⟩
  have hAs : ∀ s, A s = (!hasN names s && L0 s) := fun s => by rw [← hA, ← hnm]; rfl
  have hnl : names.length = V.length := by rw [← hnm]; simp
  obtain ⟨res, hres⟩ : ∃ res, solveL V Q L0 = res := ⟨_, rfl⟩
  rw [hA, hres]
  unfold solveL at hres
  rw [hA, hnm, ← hnl] at hres
  have ht := tmL
  refine ACalls.enter (mu := []) ok_mix Try.func19 rfl (by kernel_rfl) (by kernel_rfl) (by simp only [List.length_cons, List.length_nil, Try.ntmps19]; omega) ?_
  (repeat (first | refine aSeq fun X hX => ?_ | refine aBlk ?_ | refine aSkip ?_ | (first | refine aExit ?_ | refine aRet ?_); try simp only [slx, ↓reduceIte, Nat.reduceEqDiff, reduceCtorEq] | (first | refine aReg ?_ | refine aIf ?_); simp -implicitDefEqProofs only [forall_eq, ↓slp, slb, ↓reduceIte, reduceCtorEq, jA, jB, jC, jD, jE, jF, jG, jH, jI, jJ, jK, tfInS]; try simp only [Ex.fold, Ex.foldcs, ← Va.pv.eq_1] | refine hX _ _ ?_; clear hX X | clear hX X; refine hX _ _ ?_; clear hX X | clear hX X; clear hX X; refine hX _ _ ?_; clear hX X | intro hlen; unfold maxLen at hlen | apply And.intro; focus (first | omega | assumption | (repeat' apply And.intro) <;> first | omega | assumption)))
  obtain ⟨I, hI⟩ : ∃ I : F → M → Prop, ∀ f m', I f m' = (∃ (k : Nat) (N : List Str) (B : List Bool), k ≤ V.length ∧ f 0 = .mp id ∧ f 3 = .ep [.sl .no (V.map Va.pv), .sl .no (Q.map Qu.pv)] ∧ f 10 = .sl .no (V.map Va.pv) ∧ f 11 = pI V.length ∧ f 12 = pI k ∧ (∀ s, lkB N B s = (!hasN (names.take k) s && L0 s)) ∧ (∀ s, hasN (names.take k) s = true → (mapGet (N.map pS) (B.map pB) s).isSome = true) ∧ m' = mst m id N B) := ⟨_, fun _ _ => rfl⟩
  refine aLoop I (fun f m => V.length - numOf (f 12)) ?_ ?_
  · rw [hI]; exact ⟨0, N0, B0, by omega, rfl, rfl, rfl, rfl, rfl, fun s => by rw [hL0]; simp [hasN], fun s hs => by simp [hasN] at hs, rfl⟩
  intro f m' hrel
  rw [hI] at hrel
  obtain ⟨k, N, B, hk, f0, f3, f10, f11, f12, hlk, hin, rfl⟩ := hrel
  have hg := mst_get hid N B
  cases c1 : decide ((k : Int) < (V.length : Int)) with
  | true =>
    have hlt : k < V.length := by simpa using c1
    have g0 := getD_map Va.pv V k hlt
    have hi : IntKind.i64.wrap ((k : Int) + 1) = ((k + 1 : Nat) : Int) := by rw [wrap64 (by omega)]; omega
    have hme : numOf (f 12) = k := by rw [f12]; exact Int.toNat_natCast k
    have hput := putN_map N B V[k].name false
    have hup := mst_put m id N B V[k].name false
    have hnk : names[k]'(by omega) = V[k].name := by subst hnm; simp
    (repeat (first | refine aSeq fun X hX => ?_ | refine aBlk ?_ | refine aSkip ?_ | (first | refine aExit ?_ | refine aRet ?_); try simp only [slx, ↓reduceIte, Nat.reduceEqDiff, reduceCtorEq] | (first | refine aReg ?_ | refine aIf ?_); simp -implicitDefEqProofs only [forall_eq, ↓slp, slb, ↓reduceIte, reduceCtorEq, jA, jB, jC, jD, jE, jF, jG, jH, jI, jJ, jK, tfInS, f0, f3, f10, f11, f12, pI, pB, c1, g0, hg, ht, hput, hup, hi]; try simp only [Ex.fold, Ex.foldcs, ← Va.pv.eq_1] | refine hX _ _ ?_; clear hX X | clear hX X; refine hX _ _ ?_; clear hX X | clear hX X; clear hX X; refine hX _ _ ?_; clear hX X | intro hlen; unfold maxLen at hlen | apply And.intro; focus (first | omega | assumption | (repeat' apply And.intro) <;> first | omega | assumption)))
    rw [hI]
    refine ⟨⟨k + 1, (putN N B V[k].name false).1, (putN N B V[k].name false).2, hlt, f0, f3, f10, f11, rfl, fun s => ?_, fun s hs => ?_, rfl⟩, by omega⟩
    · rw [putN_lk, hasN_take _ k (by omega), hnk, hlk]
      cases eqS V[k].name s <;> simp
    · rw [hasN_take _ k (by omega), hnk, Bool.or_eq_true] at hs
      refine putN_in _ _ _ _ _ ?_
      rcases hs with hs | hs
      · exact .inr (hin s hs)
      · exact .inl hs
  | false =>
    have hk' : k = V.length := by simp at c1; omega
    subst hk'
    have htk : names.take V.length = names := by rw [← hnl]; exact List.take_length
    rw [htk] at hlk hin
    (repeat (first | refine aSeq fun X hX => ?_ | refine aBlk ?_ | refine aSkip ?_ | (first | refine aExit ?_ | refine aRet ?_); try simp only [slx, ↓reduceIte, Nat.reduceEqDiff, reduceCtorEq] | (first | refine aReg ?_ | refine aIf ?_); simp -implicitDefEqProofs only [forall_eq, ↓slp, slb, ↓reduceIte, reduceCtorEq, jA, jB, jC, jD, jE, jF, jG, jH, jI, jJ, jK, tfInS, f0, f3, f10, f11, f12, pI, c1]; try simp only [Ex.fold, Ex.foldcs, ← Va.pv.eq_1] | refine hX _ _ ?_; clear hX X | clear hX X; refine hX _ _ ?_; clear hX X | clear hX X; clear hX X; refine hX _ _ ?_; clear hX X | intro hlen; unfold maxLen at hlen | apply And.intro; focus (first | omega | assumption | (repeat' apply And.intro) <;> first | omega | assumption)))
    obtain ⟨J, hJ⟩ : ∃ J : Nat → F → M → Prop, ∀ n f m', J n f m' = (∃ (late : List Str) (ag : Bool) (N : List Str) (B : List Bool), f 0 = .mp id ∧ f 3 = .ep [.sl .no (V.map Va.pv), .sl .no (Q.map Qu.pv)] ∧ f 6 = pB ag ∧ (∀ s, lkB N B s = lkA A late s) ∧ (∀ s, hasN names s = true → (mapGet (N.map pS) (B.map pB) s).isSome = true) ∧ LateOk names late ∧ ((ag = true ∧ ∃ kf, n = kf + 1 ∧ names.length + 1 ≤ kf + late.length ∧ fixL A names Q kf late = res) ∨ (ag = false ∧ n = 0 ∧ late = res)) ∧ m' = mst m id N B) := ⟨_, fun _ _ _ => rfl⟩
    refine aLoopN J (names.length + 2) ?_ ?_
    · rw [hJ]
      exact ⟨[], true, N, B, f0, f3, rfl, fun s => by rw [hlk]; unfold lkA; rw [hAs]; simp [hasN], hin, ⟨List.nodup_nil, fun s hs => by simp at hs⟩, .inl ⟨rfl, names.length + 1, rfl, by simp, hres⟩, rfl⟩
    clear hI I hlk hin hg f0 f3 f10 f11 f12 c1
    intro W n f m' hrel hW
    rw [hJ] at hrel
    obtain ⟨late, ag, N, B, f0, f3, f6, hlk, hin, hok, hcs, rfl⟩ := hrel
    rcases hcs with ⟨rfl, kf, rfl, hkf, hfix⟩ | ⟨rfl, rfl, rfl⟩
    · (repeat (first | refine aSeq fun X hX => ?_ | refine aBlk ?_ | refine aSkip ?_ | (first | refine aExit ?_ | refine aRet ?_); try simp only [slx, ↓reduceIte, Nat.reduceEqDiff, reduceCtorEq] | (first | refine aReg ?_ | refine aIf ?_); simp -implicitDefEqProofs only [forall_eq, ↓slp, slb, ↓reduceIte, reduceCtorEq, jA, jB, jC, jD, jE, jF, jG, jH, jI, jJ, jK, tfInS, f0, f3, f6, pB]; try simp only [Ex.fold, Ex.foldcs, ← Va.pv.eq_1] | refine hX _ _ ?_; clear hX X | clear hX X; refine hX _ _ ?_; clear hX X | clear hX X; clear hX X; refine hX _ _ ?_; clear hX X | intro hlen; unfold maxLen at hlen | apply And.intro; focus (first | omega | assumption | (repeat' apply And.intro) <;> first | omega | assumption)))
      obtain ⟨I, hI⟩ : ∃ I : F → M → Prop, ∀ f m', I f m' = (∃ (k : Nat) (late' : List Str) (ag : Bool) (N : List Str) (B : List Bool), k ≤ Q.length ∧ f 0 = .mp id ∧ f 3 = .ep [.sl .no (V.map Va.pv), .sl .no (Q.map Qu.pv)] ∧ f 6 = pB ag ∧ f 22 = .sl .no (Q.map Qu.pv) ∧ f 23 = pI Q.length ∧ f 24 = pI k ∧ (∀ s, lkB N B s = lkA A late' s) ∧ (∀ s, hasN names s = true → (mapGet (N.map pS) (B.map pB) s).isSome = true) ∧ pass A names (Q.drop k) late' ag = pass A names Q late false ∧ m' = mst m id N B) := ⟨_, fun _ _ => rfl⟩
      refine aLoop I (fun f m => Q.length - numOf (f 24)) ?_ ?_
      · rw [hI]
        exact ⟨0, late, false, N, B, by omega, f0, f3, rfl, rfl, rfl, rfl, hlk, hin, rfl, rfl⟩
      clear hlk hin f0 f3 f6
      intro f m' hrel
      rw [hI] at hrel
      obtain ⟨k, late', ag, N, B, hk, f0, f3, f6, f22, f23, f24, hlk, hin, hps, rfl⟩ := hrel
      have hg := mst_get hid N B
      cases c1 : decide ((k : Int) < (Q.length : Int)) with
      | false =>
        have hk' : k = Q.length := by simp at c1; omega
        subst hk'
        rw [List.drop_length, pass] at hps
        (repeat (first | refine aSeq fun X hX => ?_ | refine aBlk ?_ | refine aSkip ?_ | (first | refine aExit ?_ | refine aRet ?_); try simp only [slx, ↓reduceIte, Nat.reduceEqDiff, reduceCtorEq] | (first | refine aReg ?_ | refine aIf ?_); simp -implicitDefEqProofs only [forall_eq, ↓slp, slb, ↓reduceIte, reduceCtorEq, jA, jB, jC, jD, jE, jF, jG, jH, jI, jJ, jK, tfInS, f0, f3, f22, f23, f24, pI, c1]; try simp only [Ex.fold, Ex.foldcs, ← Va.pv.eq_1] | refine hX _ _ ?_; clear hX X | clear hX X; refine hX _ _ ?_; clear hX X | clear hX X; clear hX X; refine hX _ _ ?_; clear hX X | intro hlen; unfold maxLen at hlen | apply And.intro; focus (first | omega | assumption | (repeat' apply And.intro) <;> first | omega | assumption)))
        obtain ⟨k', rfl, hst⟩ := fixL_step A names Q kf late hok hkf
        rcases hst with ⟨h1, h2, h3, h4, h5⟩ | ⟨h1, h2, h3⟩
        · rw [← hps] at h1 h2 h3 h4
          simp only [] at h1 h2 h3 h4
          subst h1
          refine hW (k' + 1) _ _ (by omega) ?_
          rw [hJ]
          exact ⟨late', true, N, B, f0, f3, f6, hlk, hin, h3, .inl ⟨rfl, k', rfl, h4, by rw [← hfix, h2]⟩, rfl⟩
        · rw [← hps] at h1 h3
          simp only [] at h1 h3
          subst h1
          refine hW 0 _ _ (by omega) ?_
          rw [hJ]
          refine ⟨late', false, N, B, f0, f3, f6, hlk, hin, by rw [h3]; exact hok, .inr ⟨rfl, rfl, ?_⟩, rfl⟩
          rw [h3, ← h2, hfix]
      | true =>
        have hlt : k < Q.length := by simpa using c1
        have g0 := getD_map Qu.pv Q k hlt
        have hi : IntKind.i64.wrap ((k : Int) + 1) = ((k + 1 : Nat) : Int) := by rw [wrap64 (by omega)]; omega
        have hme : numOf (f 24) = k := by rw [f24]; exact Int.toNat_natCast k
        have hq := hQ Q[k] (List.getElem_mem hlt)
        rw [List.drop_eq_getElem_cons hlt, pass] at hps
        have hno : ∀ (f : F), turns A names late' Q[k] = false → f 0 = .mp id → f 3 = .ep [.sl .no (V.map Va.pv), .sl .no (Q.map Qu.pv)] → f 6 = pB ag → f 22 = .sl .no (Q.map Qu.pv) → f 23 = pI Q.length → f 24 = pI ((k + 1 : Nat) : Int) → I f (mst m id N B) := by
          intro f ht f0 f3 f6 f22 f23 f24
          rw [if_neg (by rw [ht]; simp)] at hps
          rw [hI]
          exact ⟨k + 1, late', ag, N, B, hlt, f0, f3, f6, f22, f23, f24, hlk, hin, hps, rfl⟩
        generalize hqk : Q[k] = q at *
        cases c2 : (q.kind == 1) with
        | false =>
          (repeat (first | refine aSeq fun X hX => ?_ | refine aBlk ?_ | refine aSkip ?_ | (first | refine aExit ?_ | refine aRet ?_); try simp only [slx, ↓reduceIte, Nat.reduceEqDiff, reduceCtorEq] | (first | refine aReg ?_ | refine aDrE ?_ | refine aIf ?_); simp -implicitDefEqProofs only [forall_eq, ↓slp, slb, ↓reduceIte, reduceCtorEq, jA, jB, jC, jD, jE, jF, jG, jH, jI, jJ, jK, tfInS, f0, f3, f22, f23, f24, pI, c1, c2, g0, hi]; try simp only [Ex.fold, Ex.foldcs, ← Va.pv.eq_1] | refine hX _ _ ?_; clear hX X | clear hX X; refine hX _ _ ?_; clear hX X | clear hX X; clear hX X; refine hX _ _ ?_; clear hX X | intro hlen; unfold maxLen at hlen | apply And.intro; focus (first | omega | assumption | (repeat' apply And.intro) <;> first | omega | assumption)))
          exact ⟨hno _ (by unfold turns; rw [c2]; rfl) f0 f3 f6 f22 f23 rfl, by omega⟩
        | true =>
          obtain ⟨hl, hfd⟩ := hq (by simpa using c2)
          obtain ⟨x, r, hx⟩ : ∃ x r, q.lhs = x :: r := by
            cases hl2 : q.lhs with
            | nil => exact absurd hl2 hl
            | cons x r => exact ⟨x, r, rfl⟩
          have hqx : q.x = x := by unfold Qu.x; rw [hx]; rfl
          have hge := findVar_ge V x
          rw [hnm] at hge
          have hlr := lkB_res N B x
          have hmay := may_any N B id (mst m id N B) hg q.e hfd
          rw [show lkB N B = lkA A late' from funext hlk] at hmay
          have htn : turns A names late' q = (hasN names x && !hasN late' x && mayB (lkA A late') q.e) := by unfold turns; rw [c2, hqx]; rfl
          cases c3 : hasN names x with
          | false =>
            rw [c3] at hge htn
            (repeat (first | refine aSeq fun X hX => ?_ | refine aBlk ?_ | refine aSkip ?_ | (first | refine aExit ?_ | refine aRet ?_); try simp only [slx, ↓reduceIte, Nat.reduceEqDiff, reduceCtorEq] | (first | refine aReg ?_ | refine aDrE ?_ | refine aIf ?_); simp -implicitDefEqProofs only [forall_eq, ↓slp, slb, ↓reduceIte, reduceCtorEq, jA, jB, jC, jD, jE, jF, jG, jH, jI, jJ, jK, tfInS, f0, f3, f22, f23, f24, pI, c1, c2, g0, hi, hx]; try simp only [Ex.fold, Ex.foldcs, ← Va.pv.eq_1] | refine hX _ _ ?_; clear hX X | clear hX X; refine hX _ _ ?_; clear hX X | clear hX X; clear hX X; refine hX _ _ ?_; clear hX X | intro hlen; unfold maxLen at hlen | apply And.intro; focus (first | omega | assumption | (repeat' apply And.intro) <;> first | omega | assumption)))
            refine callE (findVar_any _ V x _) ?_
            simp -implicitDefEqProofs only [↓slp, slb, ↓reduceIte, reduceCtorEq, jA, jB, jC, jD, jE, jF, jG, jH, jI, jJ, jK, tfInS, pI, hge]; try simp only [Ex.fold, Ex.foldcs, ← Va.pv.eq_1]
            (repeat (first | refine aSeq fun X hX => ?_ | refine aBlk ?_ | refine aSkip ?_ | (first | refine aExit ?_ | refine aRet ?_); try simp only [slx, ↓reduceIte, Nat.reduceEqDiff, reduceCtorEq] | (first | refine aReg ?_ | refine aDrE ?_ | refine aIf ?_); simp -implicitDefEqProofs only [forall_eq, ↓slp, slb, ↓reduceIte, reduceCtorEq, jA, jB, jC, jD, jE, jF, jG, jH, jI, jJ, jK, tfInS, f24, pI, hi]; try simp only [Ex.fold, Ex.foldcs, ← Va.pv.eq_1] | refine hX _ _ ?_; clear hX X | clear hX X; refine hX _ _ ?_; clear hX X | clear hX X; clear hX X; refine hX _ _ ?_; clear hX X | intro hlen; unfold maxLen at hlen | apply And.intro; focus (first | omega | assumption | (repeat' apply And.intro) <;> first | omega | assumption)))
            exact ⟨hno _ htn f0 f3 f6 f22 f23 rfl, by omega⟩
          | true =>
            rw [c3] at hge htn
            have hAx : A x = false := by rw [hAs, c3]; rfl
            have hlx : lkB N B x = hasN late' x := by rw [hlk]; unfold lkA; rw [hAx]; rfl
            rw [hlx] at hlr
            cases c4 : hasN late' x with
            | true =>
              rw [c4] at hlr htn
              (repeat (first | refine aSeq fun X hX => ?_ | refine aBlk ?_ | refine aSkip ?_ | (first | refine aExit ?_ | refine aRet ?_); try simp only [slx, ↓reduceIte, Nat.reduceEqDiff, reduceCtorEq] | (first | refine aReg ?_ | refine aDrE ?_ | refine aIf ?_); simp -implicitDefEqProofs only [forall_eq, ↓slp, slb, ↓reduceIte, reduceCtorEq, jA, jB, jC, jD, jE, jF, jG, jH, jI, jJ, jK, tfInS, f0, f3, f22, f23, f24, pI, c1, c2, g0, hi, hx]; try simp only [Ex.fold, Ex.foldcs, ← Va.pv.eq_1] | refine hX _ _ ?_; clear hX X | clear hX X; refine hX _ _ ?_; clear hX X | clear hX X; clear hX X; refine hX _ _ ?_; clear hX X | intro hlen; unfold maxLen at hlen | apply And.intro; focus (first | omega | assumption | (repeat' apply And.intro) <;> first | omega | assumption)))
              refine callE (findVar_any _ V x _) ?_
              simp -implicitDefEqProofs only [↓slp, slb, ↓reduceIte, reduceCtorEq, jA, jB, jC, jD, jE, jF, jG, jH, jI, jJ, jK, tfInS, pI, hge, f0, hg, ht, hlr, pB]; try simp only [Ex.fold, Ex.foldcs, ← Va.pv.eq_1]
              (repeat (first | refine aSeq fun X hX => ?_ | refine aBlk ?_ | refine aSkip ?_ | (first | refine aExit ?_ | refine aRet ?_); try simp only [slx, ↓reduceIte, Nat.reduceEqDiff, reduceCtorEq] | (first | refine aReg ?_ | refine aDrE ?_ | refine aIf ?_); simp -implicitDefEqProofs only [forall_eq, ↓slp, slb, ↓reduceIte, reduceCtorEq, jA, jB, jC, jD, jE, jF, jG, jH, jI, jJ, jK, tfInS, f24, pI, hi]; try simp only [Ex.fold, Ex.foldcs, ← Va.pv.eq_1] | refine hX _ _ ?_; clear hX X | clear hX X; refine hX _ _ ?_; clear hX X | clear hX X; clear hX X; refine hX _ _ ?_; clear hX X | intro hlen; unfold maxLen at hlen | apply And.intro; focus (first | omega | assumption | (repeat' apply And.intro) <;> first | omega | assumption)))
              exact ⟨hno _ (by rw [htn]; rfl) f0 f3 f6 f22 f23 rfl, by omega⟩
            | false =>
              rw [c4] at hlr htn
              cases c5 : mayB (lkA A late') q.e with
              | false =>
                rw [c5] at hmay htn
                (repeat (first | refine aSeq fun X hX => ?_ | refine aBlk ?_ | refine aSkip ?_ | (first | refine aExit ?_ | refine aRet ?_); try simp only [slx, ↓reduceIte, Nat.reduceEqDiff, reduceCtorEq] | (first | refine aReg ?_ | refine aDrE ?_ | refine aIf ?_); simp -implicitDefEqProofs only [forall_eq, ↓slp, slb, ↓reduceIte, reduceCtorEq, jA, jB, jC, jD, jE, jF, jG, jH, jI, jJ, jK, tfInS, f0, f3, f22, f23, f24, pI, c1, c2, g0, hi, hx]; try simp only [Ex.fold, Ex.foldcs, ← Va.pv.eq_1] | refine hX _ _ ?_; clear hX X | clear hX X; refine hX _ _ ?_; clear hX X | clear hX X; clear hX X; refine hX _ _ ?_; clear hX X | intro hlen; unfold maxLen at hlen | apply And.intro; focus (first | omega | assumption | (repeat' apply And.intro) <;> first | omega | assumption)))
                refine callE (findVar_any _ V x _) ?_
                simp -implicitDefEqProofs only [↓slp, slb, ↓reduceIte, reduceCtorEq, jA, jB, jC, jD, jE, jF, jG, jH, jI, jJ, jK, tfInS, pI, hge, f0, hg, ht, hlr, pB]; try simp only [Ex.fold, Ex.foldcs, ← Va.pv.eq_1]
                refine callE hmay ?_
                simp -implicitDefEqProofs only [↓slp, slb, ↓reduceIte, reduceCtorEq, jA, jB, jC, jD, jE, jF, jG, jH, jI, jJ, jK, tfInS, pI, pB, f0]; try simp only [Ex.fold, Ex.foldcs, ← Va.pv.eq_1]
                (repeat (first | refine aSeq fun X hX => ?_ | refine aBlk ?_ | refine aSkip ?_ | (first | refine aExit ?_ | refine aRet ?_); try simp only [slx, ↓reduceIte, Nat.reduceEqDiff, reduceCtorEq] | (first | refine aReg ?_ | refine aDrE ?_ | refine aIf ?_); simp -implicitDefEqProofs only [forall_eq, ↓slp, slb, ↓reduceIte, reduceCtorEq, jA, jB, jC, jD, jE, jF, jG, jH, jI, jJ, jK, tfInS, f24, pI, hi]; try simp only [Ex.fold, Ex.foldcs, ← Va.pv.eq_1] | refine hX _ _ ?_; clear hX X | clear hX X; refine hX _ _ ?_; clear hX X | clear hX X; clear hX X; refine hX _ _ ?_; clear hX X | intro hlen; unfold maxLen at hlen | apply And.intro; focus (first | omega | assumption | (repeat' apply And.intro) <;> first | omega | assumption)))
                exact ⟨hno _ (by rw [htn]; rfl) f0 f3 f6 f22 f23 rfl, by omega⟩
              | true =>
                rw [c5] at hmay htn
                rw [if_pos (by rw [htn]; rfl), hqx] at hps
                have hsome := hin x c3
                (repeat (first | refine aSeq fun X hX => ?_ | refine aBlk ?_ | refine aSkip ?_ | (first | refine aExit ?_ | refine aRet ?_); try simp only [slx, ↓reduceIte, Nat.reduceEqDiff, reduceCtorEq] | (first | refine aReg ?_ | refine aDrE ?_ | refine aIf ?_); simp -implicitDefEqProofs only [forall_eq, ↓slp, slb, ↓reduceIte, reduceCtorEq, jA, jB, jC, jD, jE, jF, jG, jH, jI, jJ, jK, tfInS, f0, f3, f22, f23, f24, pI, c1, c2, g0, hi, hx]; try simp only [Ex.fold, Ex.foldcs, ← Va.pv.eq_1] | refine hX _ _ ?_; clear hX X | clear hX X; refine hX _ _ ?_; clear hX X | clear hX X; clear hX X; refine hX _ _ ?_; clear hX X | intro hlen; unfold maxLen at hlen | apply And.intro; focus (first | omega | assumption | (repeat' apply And.intro) <;> first | omega | assumption)))
                refine callE (findVar_any _ V x _) ?_
                simp -implicitDefEqProofs only [↓slp, slb, ↓reduceIte, reduceCtorEq, jA, jB, jC, jD, jE, jF, jG, jH, jI, jJ, jK, tfInS, pI, hge, f0, hg, ht, hlr, pB]; try simp only [Ex.fold, Ex.foldcs, ← Va.pv.eq_1]
                refine callE hmay ?_
                simp -implicitDefEqProofs only [↓slp, slb, ↓reduceIte, reduceCtorEq, jA, jB, jC, jD, jE, jF, jG, jH, jI, jJ, jK, tfInS, pI, pB]; try simp only [Ex.fold, Ex.foldcs, ← Va.pv.eq_1]
                (repeat (first | refine aSeq fun X hX => ?_ | refine aBlk ?_ | refine aSkip ?_ | (first | refine aExit ?_ | refine aRet ?_); try simp only [slx, ↓reduceIte, Nat.reduceEqDiff, reduceCtorEq] | (first | refine aReg ?_ | refine aDrE ?_ | refine aIf ?_); simp -implicitDefEqProofs only [forall_eq, ↓slp, slb, ↓reduceIte, reduceCtorEq, jA, jB, jC, jD, jE, jF, jG, jH, jI, jJ, jK, tfInS, f0, hg, ht, hx]; try simp only [Ex.fold, Ex.foldcs, ← Va.pv.eq_1] | refine hX _ _ ?_; clear hX X | clear hX X; refine hX _ _ ?_; clear hX X | clear hX X; clear hX X; refine hX _ _ ?_; clear hX X | intro hlen; unfold maxLen at hlen | apply And.intro; focus (first | omega | assumption | (repeat' apply And.intro) <;> first | omega | assumption)))
                rintro v m' ⟨j, b0, hj, hgj, hpj, rfl, rfl⟩
                have hj' : j < B.length := by simpa using hj
                rw [entry_upd]
                have g3 : (m.upd id [.tp (N.map pS), .tp (B.map pB), .v (.int .i64 b0)]).get id = some [.tp (N.map pS), .tp (B.map pB), .v (.int .i64 b0)] := by rw [M.get_upd, if_pos ⟨rfl, hid⟩]
                have hz : ((b0 : Int) + (j : Int) - (b0 : Int)).toNat = j := by omega
                have q1 : (b0 : Int) ≤ (b0 : Int) + (j : Int) := by omega
                have q2 : (b0 : Int) + (j : Int) < (b0 : Int) + (B.length : Int) := by omega
                have hp2 := (putN_map N B x true).symm.trans (hpj (pB true))
                obtain ⟨hpn, hpb⟩ := Prod.mk.inj hp2
                have u3 : (m.upd id [.tp (N.map pS), .tp (B.map pB), .v (.int .i64 b0)]).upd id [.tp (N.map pS), .tp ((B.map pB).set j (.v (.bool true)))] = mst m id (putN N B x true).1 (putN N B x true).2 := by
                  rw [upd_upd]; unfold mst; rw [hpn, hpb]
                simp -implicitDefEqProofs only [↓slp, slb, ↓reduceIte, reduceCtorEq, jA, jB, jC, jD, jE, jF, jG, jH, jI, jJ, jK, tfInS, g3, hz, u3]; try simp only [Ex.fold, Ex.foldcs, ← Va.pv.eq_1]
                (repeat (first | (intro hlen; unfold maxLen at hlen) | (apply And.intro; (focus (first | omega | assumption | trivial | (repeat' apply And.intro) <;> first | omega | assumption | trivial)))))
                (repeat (first | refine aSeq fun X hX => ?_ | refine aBlk ?_ | refine aSkip ?_ | (first | refine aExit ?_ | refine aRet ?_); try simp only [slx, ↓reduceIte, Nat.reduceEqDiff, reduceCtorEq] | (first | refine aReg ?_ | refine aDrE ?_ | refine aIf ?_); simp -implicitDefEqProofs only [forall_eq, ↓slp, slb, ↓reduceIte, reduceCtorEq, jA, jB, jC, jD, jE, jF, jG, jH, jI, jJ, jK, tfInS, f24, pI, hi]; try simp only [Ex.fold, Ex.foldcs, ← Va.pv.eq_1] | refine hX _ _ ?_; clear hX X | clear hX X; refine hX _ _ ?_; clear hX X | clear hX X; clear hX X; refine hX _ _ ?_; clear hX X | intro hlen; unfold maxLen at hlen | apply And.intro; focus (first | omega | assumption | (repeat' apply And.intro) <;> first | omega | assumption)))
                rw [hI]
                refine ⟨⟨k + 1, late' ++ [x], true, (putN N B x true).1, (putN N B x true).2, hlt, f0, f3, rfl, f22, f23, rfl, fun s => ?_, fun s hs => ?_, hps, rfl⟩, by omega⟩
                · rw [putN_lk, lkA_app, hlk]
                · exact putN_in _ _ _ _ _ (.inr (hin s hs))
    · (repeat (first | refine aSeq fun X hX => ?_ | refine aBlk ?_ | refine aSkip ?_ | (first | refine aExit ?_ | refine aRet ?_); try simp only [slx, ↓reduceIte, Nat.reduceEqDiff, reduceCtorEq] | (first | refine aReg ?_ | refine aIf ?_); simp -implicitDefEqProofs only [forall_eq, ↓slp, slb, ↓reduceIte, reduceCtorEq, jA, jB, jC, jD, jE, jF, jG, jH, jI, jJ, jK, tfInS, f0, f3, f6, pB]; try simp only [Ex.fold, Ex.foldcs, ← Va.pv.eq_1] | refine hX _ _ ?_; clear hX X | clear hX X; refine hX _ _ ?_; clear hX X | clear hX X; clear hX X; refine hX _ _ ?_; clear hX X | intro hlen; unfold maxLen at hlen | apply And.intro; focus (first | omega | assumption | (repeat' apply And.intro) <;> first | omega | assumption)))
      simp only [aPost, Try.results19, aRes_n, aRes_t, aRes_c, pack_one, pack_two]
      exact leave_mst rfl ⟨N, B, rfl, hlk, rfl⟩
end Go.Proofs.Ytfemdelaciccmaa
