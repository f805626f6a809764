/-
  An instance of law 20's class begins.
-/
import Derived.Test.YtmcajiccepgagaaObHk
import Derived.Test.YtmcajiccepgagaaAbRen
set_option linter.unusedVariables false
set_option linter.unusedSimpArgs false
namespace Go.Proofs.Ytmcajiccepgagaa
open Nat renaming reduceEqDiff → jA, reduceAdd → jB, reduceMul → jC, reduceLT → jD, reduceLeDiff → jE, reduceBEq → jF, reduceBNe → jG
open Int renaming reduceLE → jH, reduceLT → jI, reduceToNat → jJ, reduceEq → jK
open Go
set_option linter.defProp false
def tfObSt := And.intro @tfA (And.intro @Ex.settle_pv (And.intro @Ex.pure_pv (And.intro @Ex.cells_pv (And.intro @Ex.cs.eq_1 (And.intro @On.pv.eq_1 (And.intro @Ty.pv.eq_1 (And.intro @Va.settle_pv (And.intro @Va.pure_pv (And.intro @Va.cells_pv @Va.cs.eq_1)))))))))
set_option maxRecDepth 100000
-- TYPES:
abbrev pJ' (n : Int) : PV := .v (.int .i32 n)
def progC (n : Int) : PV := .ag [.sl .no [], .sl .no [pCls n]]
/-- An instance's cells: the places of what it keeps, and of its instances. -/
def objC (n : Int) (i j : Nat) : List PV := [.sl .no [], .sl .no [pCls n], pS sC, .sl .no [pMem n], .sl .no [], .sl .no [(vaI sA).pv], .sl .no [(vaI sX).pv], .sl .no [], .sl .no (stepsC.map OS.pv), .mp i, .mp j]
abbrev bE : Option (List PV) := some [.tp [], .tp []]
def bN (x : Int) : Option (List PV) := some [.tp [pS sM], .tp [pJ' x]]
/-- The state of an instance that keeps x. -/
def OM (n x : Int) : M := ⟨[bN x, bE, some (objC n 0 1)], []⟩
theorem reset0 (n : Int) : ACalls Try.prog 14 [.bp 2 0] ⟨[bE, bE, some (objC n 0 1)], []⟩ (fun v m' => v = .tp [] ∧ m' = OM n n) :=
  ACalls.ranV (mus := mus) (hook := obHook noHook) (k := 300) (n := 3) (q := (.tp [], OM n n)) ok_mix (obHook_ok noHook_ok) (by kernel_rfl)
theorem reset1 (n : Int) : ACalls Try.prog 14 [.bp 2 0] ⟨[bE, bE, some (objC n 1 0)], []⟩ (fun v m' => v = .tp [] ∧ m' = ⟨[bE, bN n, some (objC n 1 0)], []⟩) :=
  ACalls.ranV (mus := mus) (hook := obHook noHook) (k := 300) (n := 3) (q := (.tp [], ⟨[bE, bN n, some (objC n 1 0)], []⟩)) ok_mix (obHook_ok noHook_ok) (by kernel_rfl)
theorem resetN (n x : Int) : ACalls Try.prog 14 [.bp 2 0] (OM n x) (fun v m' => v = .tp [] ∧ m' = OM n n) :=
  ACalls.ranV (mus := mus) (hook := obHook noHook) (k := 300) (n := 3) (q := (.tp [], OM n n)) ok_mix (obHook_ok noHook_ok) (by kernel_rfl)
theorem find_any (n : Int) (m : M) : ACalls Try.prog 23 [progC n, pS sC] m (fun v m' => v = pI 0 ∧ m' = m) :=
  ACalls.ranP (mus := mus) (hook := obHook noHook) (k := 60) ok_mix (obHook_ok noHook_ok) (by kernel_rfl) (fun x hx => by simp at hx; rcases hx with rfl | rfl <;> rfl) rfl m ⟨rfl, rfl⟩
set_option maxHeartbeats 4000000 in
theorem start_any (n : Int) : ACalls Try.prog 24 [progC n, pS sC, pI 1] M0 (fun v m' => v = .bp 2 0 ∧ m' = OM n n) := by
  refine ACalls.ren (R := fun v m' => v = .bp 2 0 ∧ (m' = OM n n ∨ m' = ⟨[bE, bN n, some (objC n 1 0)], []⟩)) ?_ ?_
  · refine ACalls.enter (mu := [29]) ok_mix Try.func24 rfl (by kernel_rfl) (by kernel_rfl) (by simp only [List.length_cons, List.length_nil, Try.ntmps24]; omega) ?_
    (repeat (first | refine aSeq fun X hX => ?_ | refine aBlk ?_ | refine aSkip ?_ | (first | refine aExit ?_ | refine aRet ?_); try simp only [slx, ↓reduceIte, Nat.reduceEqDiff, reduceCtorEq] | (first | refine aReg ?_ | refine aIf ?_); simp -implicitDefEqProofs only [forall_eq, ↓slp, slb, ↓reduceIte, reduceCtorEq, jA, jB, jC, jD, jE, jF, jG, jH, jI, jJ, jK, tfObSt]; try simp only [Ex.fold, Ex.foldcs, ← Va.pv.eq_1] | refine hX _ _ ?_; clear hX X | clear hX X; refine hX _ _ ?_; clear hX X | clear hX X; clear hX X; refine hX _ _ ?_; clear hX X | intro hlen; unfold maxLen at hlen | apply And.intro; focus (first | omega | assumption | (repeat' apply And.intro) <;> first | omega | assumption)))
    refine ⟨rfl, ?_⟩
    have hcs : (progC n).settle.cells = [.sl .no [], .sl .no [pCls n]] := rfl
    (repeat (first | refine aSeq fun X hX => ?_ | refine aBlk ?_ | refine aSkip ?_ | (first | refine aExit ?_ | refine aRet ?_); try simp only [slx, ↓reduceIte, Nat.reduceEqDiff, reduceCtorEq] | (first | refine aReg ?_ | refine aIf ?_); simp -implicitDefEqProofs only [forall_eq, ↓slp, slb, ↓reduceIte, reduceCtorEq, jA, jB, jC, jD, jE, jF, jG, jH, jI, jJ, jK, tfObSt, hcs]; try simp only [Ex.fold, Ex.foldcs, ← Va.pv.eq_1] | refine hX _ _ ?_; clear hX X | clear hX X; refine hX _ _ ?_; clear hX X | clear hX X; clear hX X; refine hX _ _ ?_; clear hX X | intro hlen; unfold maxLen at hlen | apply And.intro; focus (first | omega | assumption | (repeat' apply And.intro) <;> first | omega | assumption)))
    refine callE (find_any n _) ?_
    simp -implicitDefEqProofs only [↓slp, slb, ↓reduceIte, reduceCtorEq, jA, jB, jC, jD, jE, jF, jG, jH, jI, jJ, jK, tfObSt, hcs]; try simp only [Ex.fold, Ex.foldcs, ← Va.pv.eq_1]
    (repeat (first | refine aSeq fun X hX => ?_ | refine aBlk ?_ | refine aSkip ?_ | (first | refine aExit ?_ | refine aRet ?_); try simp only [slx, ↓reduceIte, Nat.reduceEqDiff, reduceCtorEq] | (first | refine aReg ?_ | refine aIf ?_); simp -implicitDefEqProofs only [forall_eq, ↓slp, slb, ↓reduceIte, reduceCtorEq, jA, jB, jC, jD, jE, jF, jG, jH, jI, jJ, jK, tfObSt, hcs, pS, pI]; try simp only [Ex.fold, Ex.foldcs, ← Va.pv.eq_1] | refine hX _ _ ?_; clear hX X | clear hX X; refine hX _ _ ?_; clear hX X | clear hX X; clear hX X; refine hX _ _ ?_; clear hX X | intro hlen; unfold maxLen at hlen | apply And.intro; focus (first | omega | assumption | (repeat' apply And.intro) <;> first | omega | assumption)))
    have join : ∀ (f : F) (i j : Nat) (mm mR : M), mm.get 2 = some (objC n i j) → ACalls Try.prog 14 [.bp 2 0] mm (fun v m' => v = .tp [] ∧ m' = mR) → (mR = OM n n ∨ mR = ⟨[bE, bN n, some (objC n 1 0)], []⟩) → f 8 = .bp 2 0 → X f mm := by
      intro f i j mm mR hg hR hm h8
      unfold objC at hg
      refine hX _ _ ?_
      clear hX X
      (repeat (first | refine aSeq fun X hX => ?_ | refine aBlk ?_ | refine aSkip ?_ | (first | refine aExit ?_ | refine aRet ?_); try simp only [slx, ↓reduceIte, Nat.reduceEqDiff, reduceCtorEq] | (first | refine aReg ?_ | refine aIf ?_); simp -implicitDefEqProofs only [forall_eq, ↓slp, slb, ↓reduceIte, reduceCtorEq, jA, jB, jC, jD, jE, jF, jG, jH, jI, jJ, jK, tfObSt, h8, hg]; try simp only [Ex.fold, Ex.foldcs, ← Va.pv.eq_1] | refine hX _ _ ?_; clear hX X | clear hX X; refine hX _ _ ?_; clear hX X | clear hX X; clear hX X; refine hX _ _ ?_; clear hX X | intro hlen; unfold maxLen at hlen | apply And.intro; focus (first | omega | assumption | (repeat' apply And.intro) <;> first | omega | assumption)))
      obtain ⟨I, hI⟩ : ∃ I : F → M → Prop, ∀ g m', I g m' = (g 8 = .bp 2 0 ∧ g 35 = pI 0 ∧ g 36 = pI 0 ∧ m' = mm) := ⟨_, fun _ _ => rfl⟩
      refine aLoop I (fun f m => 0) ?_ ?_
      · rw [hI]; exact ⟨h8, rfl, rfl, rfl⟩
      intro g m' hrel
      rw [hI] at hrel
      obtain ⟨g8, g35, g36, rfl⟩ := hrel
      (repeat (first | refine aSeq fun X hX => ?_ | refine aBlk ?_ | refine aSkip ?_ | (first | refine aExit ?_ | refine aRet ?_); try simp only [slx, ↓reduceIte, Nat.reduceEqDiff, reduceCtorEq] | (first | refine aReg ?_ | refine aDrE ?_); simp -implicitDefEqProofs only [forall_eq, ↓slp, slb, ↓reduceIte, reduceCtorEq, jA, jB, jC, jD, jE, jF, jG, jH, jI, jJ, jK, tfObSt, g8, g35, g36, pI]; try simp only [Ex.fold, Ex.foldcs, ← Va.pv.eq_1] | refine hX _ _ ?_; clear hX X | clear hX X; refine hX _ _ ?_; clear hX X | clear hX X; clear hX X; refine hX _ _ ?_; clear hX X | intro hlen; unfold maxLen at hlen | apply And.intro; focus (first | omega | assumption | (repeat' apply And.intro) <;> first | omega | assumption)))
      refine aIf ?_; simp -implicitDefEqProofs only [↓slp, slb, ↓reduceIte, reduceCtorEq, jA, jB, jC, jD, jE, jF, jG, jH, jI, jJ, jK]
      (repeat (first | refine aSeq fun X hX => ?_ | refine aBlk ?_ | refine aSkip ?_ | (first | refine aExit ?_ | refine aRet ?_); try simp only [slx, ↓reduceIte, Nat.reduceEqDiff, reduceCtorEq] | (first | refine aReg ?_ | refine aDrE ?_); simp -implicitDefEqProofs only [forall_eq, ↓slp, slb, ↓reduceIte, reduceCtorEq, jA, jB, jC, jD, jE, jF, jG, jH, jI, jJ, jK, tfObSt, g8, g35, g36, pI]; try simp only [Ex.fold, Ex.foldcs, ← Va.pv.eq_1] | refine hX _ _ ?_; clear hX X | clear hX X; refine hX _ _ ?_; clear hX X | clear hX X; clear hX X; refine hX _ _ ?_; clear hX X | intro hlen; unfold maxLen at hlen | apply And.intro; focus (first | omega | assumption | (repeat' apply And.intro) <;> first | omega | assumption)))
      refine callE hR ?_
      simp -implicitDefEqProofs only [↓slp, slb, ↓reduceIte, reduceCtorEq, jA, jB, jC, jD, jE, jF, jG, jH, jI, jJ, jK, tfObSt, g8]; try simp only [Ex.fold, Ex.foldcs, ← Va.pv.eq_1]
      (repeat (first | refine aSeq fun X hX => ?_ | refine aBlk ?_ | refine aSkip ?_ | (first | refine aExit ?_ | refine aRet ?_); try simp only [slx, ↓reduceIte, Nat.reduceEqDiff, reduceCtorEq] | (first | refine aReg ?_ | refine aDrE ?_); simp -implicitDefEqProofs only [forall_eq, ↓slp, slb, ↓reduceIte, reduceCtorEq, jA, jB, jC, jD, jE, jF, jG, jH, jI, jJ, jK, tfObSt, g8]; try simp only [Ex.fold, Ex.foldcs, ← Va.pv.eq_1] | refine hX _ _ ?_; clear hX X | clear hX X; refine hX _ _ ?_; clear hX X | clear hX X; clear hX X; refine hX _ _ ?_; clear hX X | intro hlen; unfold maxLen at hlen | apply And.intro; focus (first | omega | assumption | (repeat' apply And.intro) <;> first | omega | assumption)))
      simp only [aPost, Try.results24, aRes_n, aRes_t, aRes_c, pack_one, pack_two]
      simp -implicitDefEqProofs only [↓slp, slb, ↓reduceIte, reduceCtorEq, jA, jB, jC, jD, jE, jF, jG, jH, jI, jJ, jK, tfObSt, g8]; try simp only [Ex.fold, Ex.foldcs, ← Va.pv.eq_1]
      rcases hm with rfl | rfl
      · exact leave_made rfl rfl ⟨rfl, .inl rfl⟩
      · exact leave_made rfl rfl ⟨rfl, .inr rfl⟩
    clear hX
    refine aFltC 6 8 (fun _ => True) (by omega) (by simp only [List.length_cons, List.length_nil]; omega) (by kernel_rfl) trivial ?_
    simp -implicitDefEqProofs only [↓slp, slb, ↓reduceIte, reduceCtorEq, jA, jB, jC, jD, jE, jF, jG, jH, jI, jJ, jK, tfObSt, pCls, List.getElem_cons_succ, List.getElem_cons_zero, List.drop_succ_cons, List.drop_zero, List.take_succ_cons, List.take_zero, List.cons_append, List.nil_append, Nat.reduceSub]; try simp only [Ex.fold, Ex.foldcs, ← Va.pv.eq_1]
    refine ⟨?_, ?_⟩
    · exact join _ 0 1 _ _ rfl (reset0 n) (.inl rfl) rfl
    · exact join _ 1 0 _ _ rfl (reset1 n) (.inr rfl) rfl
  · rintro v m' ⟨rfl, rfl | rfl⟩
    · exact .inl ⟨rfl, rfl⟩
    · refine .inr ⟨swp 0 1, OM n n, ⟨swp_inv 0 1, fun i hi => ?_, rfl, rfl, fun i hi => ?_⟩, fun i hi => absurd hi (Nat.not_lt_zero i), rfl, rfl⟩
      · have hi : i < 3 := hi
        have h3 : i = 0 ∨ i = 1 ∨ i = 2 := by omega
        show swp 0 1 i < 3
        rcases h3 with rfl | rfl | rfl <;> decide
      · have hi : i < 3 := hi
        have h3 : i = 0 ∨ i = 1 ∨ i = 2 := by omega
        rcases h3 with rfl | rfl | rfl <;> rfl
/-- The same, of New. -/
theorem new_any (n : Int) : ACalls Try.prog 9 [progC n, pS sC] M0 (fun v m' => v = .tp [.bp 2 0, pI 0] ∧ m' = OM n n) := by
  refine ACalls.enter (mu := []) ok_mix Try.func9 rfl (by kernel_rfl) (by kernel_rfl) (by simp only [List.length_cons, List.length_nil, Try.ntmps9]; omega) ?_
  (repeat (first | refine aSeq fun X hX => ?_ | refine aBlk ?_ | refine aSkip ?_ | (first | refine aExit ?_ | refine aRet ?_); try simp only [slx, ↓reduceIte, Nat.reduceEqDiff, reduceCtorEq] | (first | refine aReg ?_ | refine aIf ?_); simp -implicitDefEqProofs only [forall_eq, ↓slp, slb, ↓reduceIte, reduceCtorEq, jA, jB, jC, jD, jE, jF, jG, jH, jI, jJ, jK, tfObSt]; try simp only [Ex.fold, Ex.foldcs, ← Va.pv.eq_1] | refine hX _ _ ?_; clear hX X | clear hX X; refine hX _ _ ?_; clear hX X | clear hX X; clear hX X; refine hX _ _ ?_; clear hX X | intro hlen; unfold maxLen at hlen | apply And.intro; focus (first | omega | assumption | (repeat' apply And.intro) <;> first | omega | assumption)))
  refine ⟨rfl, ?_⟩
  have hcs : (progC n).settle.cells = [.sl .no [], .sl .no [pCls n]] := rfl
  (repeat (first | refine aSeq fun X hX => ?_ | refine aBlk ?_ | refine aSkip ?_ | (first | refine aExit ?_ | refine aRet ?_); try simp only [slx, ↓reduceIte, Nat.reduceEqDiff, reduceCtorEq] | (first | refine aReg ?_ | refine aIf ?_); simp -implicitDefEqProofs only [forall_eq, ↓slp, slb, ↓reduceIte, reduceCtorEq, jA, jB, jC, jD, jE, jF, jG, jH, jI, jJ, jK, tfObSt, hcs]; try simp only [Ex.fold, Ex.foldcs, ← Va.pv.eq_1] | refine hX _ _ ?_; clear hX X | clear hX X; refine hX _ _ ?_; clear hX X | clear hX X; clear hX X; refine hX _ _ ?_; clear hX X | intro hlen; unfold maxLen at hlen | apply And.intro; focus (first | omega | assumption | (repeat' apply And.intro) <;> first | omega | assumption)))
  refine callE (find_any n _) ?_
  simp -implicitDefEqProofs only [↓slp, slb, ↓reduceIte, reduceCtorEq, jA, jB, jC, jD, jE, jF, jG, jH, jI, jJ, jK, tfObSt, hcs]; try simp only [Ex.fold, Ex.foldcs, ← Va.pv.eq_1]
  (repeat (first | refine aSeq fun X hX => ?_ | refine aBlk ?_ | refine aSkip ?_ | (first | refine aExit ?_ | refine aRet ?_); try simp only [slx, ↓reduceIte, Nat.reduceEqDiff, reduceCtorEq] | (first | refine aReg ?_ | refine aIf ?_); simp -implicitDefEqProofs only [forall_eq, ↓slp, slb, ↓reduceIte, reduceCtorEq, jA, jB, jC, jD, jE, jF, jG, jH, jI, jJ, jK, tfObSt, hcs, pS, pI]; try simp only [Ex.fold, Ex.foldcs, ← Va.pv.eq_1] | refine hX _ _ ?_; clear hX X | clear hX X; refine hX _ _ ?_; clear hX X | clear hX X; clear hX X; refine hX _ _ ?_; clear hX X | intro hlen; unfold maxLen at hlen | apply And.intro; focus (first | omega | assumption | (repeat' apply And.intro) <;> first | omega | assumption)))
  refine callE (start_any n) ?_
  simp -implicitDefEqProofs only [↓slp, slb, ↓reduceIte, reduceCtorEq, jA, jB, jC, jD, jE, jF, jG, jH, jI, jJ, jK, tfObSt, hcs]; try simp only [Ex.fold, Ex.foldcs, ← Va.pv.eq_1]
  (repeat (first | refine aSeq fun X hX => ?_ | refine aBlk ?_ | refine aSkip ?_ | (first | refine aExit ?_ | refine aRet ?_); try simp only [slx, ↓reduceIte, Nat.reduceEqDiff, reduceCtorEq] | (first | refine aReg ?_ | refine aDrE ?_); simp -implicitDefEqProofs only [forall_eq, ↓slp, slb, ↓reduceIte, reduceCtorEq, jA, jB, jC, jD, jE, jF, jG, jH, jI, jJ, jK, tfObSt]; try simp only [Ex.fold, Ex.foldcs, ← Va.pv.eq_1] | refine hX _ _ ?_; clear hX X | clear hX X; refine hX _ _ ?_; clear hX X | clear hX X; clear hX X; refine hX _ _ ?_; clear hX X | intro hlen; unfold maxLen at hlen | apply And.intro; focus (first | omega | assumption | (repeat' apply And.intro) <;> first | omega | assumption)))
  refine aIf ?_; simp -implicitDefEqProofs only [↓slp, slb, ↓reduceIte, reduceCtorEq, jA, jB, jC, jD, jE, jF, jG, jH, jI, jJ, jK]
  (repeat (first | refine aSeq fun X hX => ?_ | refine aBlk ?_ | refine aSkip ?_ | (first | refine aExit ?_ | refine aRet ?_); try simp only [slx, ↓reduceIte, Nat.reduceEqDiff, reduceCtorEq] | (first | refine aReg ?_ | refine aDrE ?_); simp -implicitDefEqProofs only [forall_eq, ↓slp, slb, ↓reduceIte, reduceCtorEq, jA, jB, jC, jD, jE, jF, jG, jH, jI, jJ, jK, tfObSt]; try simp only [Ex.fold, Ex.foldcs, ← Va.pv.eq_1] | refine hX _ _ ?_; clear hX X | clear hX X; refine hX _ _ ?_; clear hX X | clear hX X; clear hX X; refine hX _ _ ?_; clear hX X | intro hlen; unfold maxLen at hlen | apply And.intro; focus (first | omega | assumption | (repeat' apply And.intro) <;> first | omega | assumption)))
  simp only [aPost, Try.results9, aRes_n, aRes_t, aRes_c, pack_one, pack_two]
  simp -implicitDefEqProofs only [↓slp, slb, ↓reduceIte, reduceCtorEq, jA, jB, jC, jD, jE, jF, jG, jH, jI, jJ, jK, tfObSt]; try simp only [Ex.fold, Ex.foldcs, ← Va.pv.eq_1]
  exact leave_made rfl rfl ⟨rfl, rfl⟩
end Go.Proofs.Ytmcajiccepgagaa
