/-
 Programs compared by the reference.
-/
-- halved
import Derived.Test.YtibhhoknipdlpaaTpA
set_option linter.unusedVariables false
set_option linter.unusedSimpArgs false
namespace Go.Proofs.Ytibhhoknipdlpaa
open Nat renaming reduceEqDiff → jA, reduceAdd → jB, reduceMul → jC, reduceLT → jD, reduceLeDiff → jE, reduceBEq → jF, reduceBNe → jG
open Int renaming reduceLE → jH, reduceLT → jI, reduceToNat → jJ, reduceEq → jK
open Go
-- EXX: Qu.settle_pv, Qu.pure_pv, Qu.cells_pv, Qu.cs, Am.settle_pv, Am.pure_pv, Am.cells_pv, Am.cs, Tr.settle_pv, Tr.pure_pv, Tr.cells_pv, Tr.cs, No.settle_pv, No.pure_pv, No.cells_pv, No.cs, No.pv.eq_1, En.settle_pv, En.pure_pv, En.cells_pv, En.cs
set_option maxRecDepth 20000
-- TNAMES: int; uint8; int32; string; bool; []string; []api.Expr; api.Expr; api.Pos; api.Type; api.On; []api.On; api.Var; []api.Var; api.Equation; []api.Equation; api.Block; api.Trans; []api.Trans; api.Arm; []api.Arm; api.Node; []api.Node; api.Enum; []api.Enum; api.Program


set_option maxHeartbeats 2000000 in
theorem rWays_any (o o' : Own) (l r : List Tr) (m : M) : ACalls Try.prog 114 [.sl o (l.map Tr.pv), .sl o' (r.map Tr.pv)] m (fun v m' => v = pB (sameL smT l r) ∧ m' = m) := by
 refine ACalls.enter (mu := []) ok_mix Try.func114 rfl (by kernel_rfl) (by kernel_rfl) (by simp only [List.length_cons, List.length_nil, Try.ntmps114]; omega) ?_
 (repeat (first | refine aSeq fun X hX => ?_ | refine aReg ?_; simp -implicitDefEqProofs only [↓slp, ↓reduceIte, reduceCtorEq, jA, Y3] | apply hX; clear hX X | intro hlen; unfold maxLen at hlen))
 refine aIf ?_; simp -implicitDefEqProofs only [slb, ↓reduceIte]; refine ⟨fun hb => ?_, fun hb => ?_⟩
 ·(repeat (first | refine aSeq fun X hX => ?_ | refine aRet ?_; try simp only [slx, ↓reduceIte, jA, reduceCtorEq] | refine aReg ?_; simp -implicitDefEqProofs only [↓slp, slb] | apply hX; clear hX X))
  simp only [aPost, Try.results114, aRes_n, aRes_t, aRes_c, pack_one, pack_two]
  refine leave_same rfl ⟨?_, rfl⟩
  have hv : sameL smT l r = false := sameL_ne (by simp at hb; omega)
  rw [hv]; rfl
 have hl : l.length = r.length := by simp at hb; omega
 (repeat (first | refine aSeq fun X hX => ?_ | refine aBlk ?_ | refine aSkip ?_ | refine aReg ?_; simp -implicitDefEqProofs only [↓slp, slb] | apply hX; clear hX X))
 obtain ⟨I, hI⟩ : ∃ I : F → M → Prop, ∀ f m', I f m' = (∃ k : Nat, k ≤ l.length ∧ f 0 = .sl o (l.map Tr.pv) ∧ f 1 = .sl o' (r.map Tr.pv) ∧ f 5 = pI k ∧ sameL smT l r = sameL smT (l.drop k) (r.drop k) ∧ m = m') := ⟨_, fun _ _ => rfl⟩
 refine aLoop I (fun f m => l.length - numOf (f 5)) ?_ ?_
 ·rw [hI]; exact ⟨0, by omega, (by first | rfl | exact h0), (by first | rfl | exact h1), rfl, rfl, rfl⟩
 intro f m' hrel
 rw [hI] at hrel
 obtain ⟨k, hk, h0, h1, hk0, hs, rfl⟩ := hrel
 (repeat (first | refine aSeq fun X hX => ?_ | refine aReg ?_; simp -implicitDefEqProofs only [↓slp, ↓reduceIte, reduceCtorEq, jA, Y3, h0, hk0, pI] | apply hX; clear hX X | intro hlen; unfold maxLen at hlen))
 refine aIf ?_; simp -implicitDefEqProofs only [slb, ↓reduceIte]; refine ⟨fun hb => ?_, fun hb => ?_⟩
 ·have hlt : k < l.length := by simpa using hb
  have hlt' : k < r.length := by omega
  have g0 := getD_map Tr.pv l k hlt
  have g1 := getD_map Tr.pv r k hlt'
  have hi : IntKind.i64.wrap ((k : Int) + 1) = ((k + 1 : Nat) : Int) := by rw [wrap64 (by omega)]; omega
  have hd := sameL_drop (R := smT) hlt hlt'
  have hsame : smT l[k] r[k] = (eqS l[k].to r[k].to && (l[k].resume == r[k].resume) && l[k].e.same r[k].e) := rfl
  have q0 : (k : Int) < (l.length : Int) := by omega
  have q1 : (k : Int) < (r.length : Int) := by omega
  cases c1 : (l[k].to.toList == r[k].to.toList) with
  | false =>
   (repeat (first | refine aSeq fun X hX => ?_ | refine aSkip ?_ | refine aDrE ?_; simp -implicitDefEqProofs only [↓slp, ↓reduceIte, reduceCtorEq, jA, jB, jE, Y3, c1, h0, h1, hk0, pI, g0, g1, q0] | apply hX; clear hX X | apply And.intro; focus omega))
   try (refine aIf ?_; simp -implicitDefEqProofs only [slb, ↓reduceIte, reduceCtorEq, hk0, pI])
   (repeat (first | refine aSeq fun X hX => ?_ | refine aRet ?_; try simp only [slx, ↓reduceIte, jA, reduceCtorEq] | refine aReg ?_; simp -implicitDefEqProofs only [↓slp, slb] | apply hX; clear hX X))
   simp only [aPost, Try.results114, aRes_n, aRes_t, aRes_c, pack_one, pack_two]
   refine leave_same rfl ⟨?_, rfl⟩
   have hv : (sameL smT l r) = false := by rw [hs, hd]; simp [hs, hd, hsame, c1, eqS, Ty.eq]
   rw [hv]; rfl
  | true =>
   cases c2 : (l[k].resume == r[k].resume) with
   | false =>
    (repeat (first | refine aSeq fun X hX => ?_ | refine aSkip ?_ | refine aDrE ?_; simp -implicitDefEqProofs only [↓slp, ↓reduceIte, reduceCtorEq, jA, jB, jE, Y3, c1, c2, h0, h1, hk0, pI, g0, g1, q0] | apply hX; clear hX X | apply And.intro; focus omega))
    try (refine aIf ?_; simp -implicitDefEqProofs only [slb, ↓reduceIte, reduceCtorEq, hk0, pI])
    (repeat (first | refine aSeq fun X hX => ?_ | refine aRet ?_; try simp only [slx, ↓reduceIte, jA, reduceCtorEq] | refine aReg ?_; simp -implicitDefEqProofs only [↓slp, slb] | apply hX; clear hX X))
    simp only [aPost, Try.results114, aRes_n, aRes_t, aRes_c, pack_one, pack_two]
    refine leave_same rfl ⟨?_, rfl⟩
    have hv : (sameL smT l r) = false := by rw [hs, hd]; simp [hs, hd, hsame, c1, c2, eqS, Ty.eq]
    rw [hv]; rfl
   | true =>
    (repeat (first | refine aSeq fun X hX => ?_ | refine aSkip ?_ | refine aDrE ?_; simp -implicitDefEqProofs only [↓slp, ↓reduceIte, reduceCtorEq, jA, jB, jE, Y3, c1, c2, h0, h1, hk0, pI, g0, g1, q0]; try simp only [fo] | apply hX; clear hX X | apply And.intro; focus omega))
    refine callE (rSameExpr_any _ _ _) ?_
    cases c3 : (l[k].e.same r[k].e) with
    | false =>
     simp -implicitDefEqProofs only [↓slp, slb, ↓reduceIte, jA, hk0, pI, q0]; try simp only [fo]
     (repeat (apply hX; clear hX X))
     try (refine aIf ?_; simp -implicitDefEqProofs only [slb, ↓reduceIte, reduceCtorEq, hk0, pI])
     (repeat (first | refine aSeq fun X hX => ?_ | refine aRet ?_; try simp only [slx, ↓reduceIte, jA, reduceCtorEq] | refine aReg ?_; simp -implicitDefEqProofs only [↓slp, slb] | apply hX; clear hX X))
     simp only [aPost, Try.results114, aRes_n, aRes_t, aRes_c, pack_one, pack_two]
     refine leave_same rfl ⟨?_, rfl⟩
     have hv : (sameL smT l r) = false := by rw [hs, hd]; simp [hs, hd, hsame, c1, c2, c3, eqS, Ty.eq]
     rw [hv]; rfl
    | true =>
     simp -implicitDefEqProofs only [↓slp, slb, ↓reduceIte, jA, hk0, pI, q0]; try simp only [fo]
     (repeat (apply hX; clear hX X))
     try (refine aIf ?_; simp -implicitDefEqProofs only [slb, ↓reduceIte, hk0, pI])
     have he : smT l[k] r[k] = true := by rw [hsame]; simp [c1, c2, c3, eqS, Ty.eq]
     (repeat (first | refine aSkip ?_ | refine aReg ?_; simp -implicitDefEqProofs only [↓slp, slb, ↓reduceIte, jA, hk0, pI, hi] | apply hX; clear hX X))
     rw [hI]
     refine ⟨⟨k + 1, hlt, h0, h1, rfl, by rw [hs, hd, he]; rfl, rfl⟩, ?_⟩
     first | omega | (simp only [↓slp, slb, ↓reduceIte, reduceCtorEq, jA, jB, jC, jD, jE, jF, jG, jH, jI, jJ, jK, hk0, pI]; omega)
 ·have hlt : k = l.length := by simp at hb; omega
  subst hlt
  (repeat (first | refine aSeq fun X hX => ?_ | (first | refine aExit ?_ | refine aRet ?_); try simp only [slx, ↓reduceIte, jA, reduceCtorEq] | refine aReg ?_; simp -implicitDefEqProofs only [↓slp, slb] | apply hX; clear hX X | clear hX X; apply hX; clear hX X))
  simp only [aPost, Try.results114, aRes_n, aRes_t, aRes_c, pack_one, pack_two]
  refine leave_same rfl ⟨?_, rfl⟩
  have hv : sameL smT l r = true := by rw [hs, sameL_end hl]
  rw [hv]; rfl
set_option maxHeartbeats 2000000 in
theorem rExprs_any (o o' : Own) (l r : List Ex) (m : M) : ACalls Try.prog 113 [.sl o (l.map Ex.pv), .sl o' (r.map Ex.pv)] m (fun v m' => v = pB (sameL Ex.same l r) ∧ m' = m) := by
 refine ACalls.enter (mu := []) ok_mix Try.func113 rfl (by kernel_rfl) (by kernel_rfl) (by simp only [List.length_cons, List.length_nil, Try.ntmps113]; omega) ?_
 (repeat (first | refine aSeq fun X hX => ?_ | refine aReg ?_; simp -implicitDefEqProofs only [↓slp, ↓reduceIte, reduceCtorEq, jA, Y3] | apply hX; clear hX X | intro hlen; unfold maxLen at hlen))
 refine aIf ?_; simp -implicitDefEqProofs only [slb, ↓reduceIte]; refine ⟨fun hb => ?_, fun hb => ?_⟩
 ·(repeat (first | refine aSeq fun X hX => ?_ | refine aRet ?_; try simp only [slx, ↓reduceIte, jA, reduceCtorEq] | refine aReg ?_; simp -implicitDefEqProofs only [↓slp, slb] | apply hX; clear hX X))
  simp only [aPost, Try.results113, aRes_n, aRes_t, aRes_c, pack_one, pack_two]
  refine leave_same rfl ⟨?_, rfl⟩
  have hv : sameL Ex.same l r = false := sameL_ne (by simp at hb; omega)
  rw [hv]; rfl
 have hl : l.length = r.length := by simp at hb; omega
 (repeat (first | refine aSeq fun X hX => ?_ | refine aBlk ?_ | refine aSkip ?_ | refine aReg ?_; simp -implicitDefEqProofs only [↓slp, slb] | apply hX; clear hX X))
 obtain ⟨I, hI⟩ : ∃ I : F → M → Prop, ∀ f m', I f m' = (∃ k : Nat, k ≤ l.length ∧ f 0 = .sl o (l.map Ex.pv) ∧ f 1 = .sl o' (r.map Ex.pv) ∧ f 5 = pI k ∧ sameL Ex.same l r = sameL Ex.same (l.drop k) (r.drop k) ∧ m = m') := ⟨_, fun _ _ => rfl⟩
 refine aLoop I (fun f m => l.length - numOf (f 5)) ?_ ?_
 ·rw [hI]; exact ⟨0, by omega, (by first | rfl | exact h0), (by first | rfl | exact h1), rfl, rfl, rfl⟩
 intro f m' hrel
 rw [hI] at hrel
 obtain ⟨k, hk, h0, h1, hk0, hs, rfl⟩ := hrel
 (repeat (first | refine aSeq fun X hX => ?_ | refine aReg ?_; simp -implicitDefEqProofs only [↓slp, ↓reduceIte, reduceCtorEq, jA, Y3, h0, hk0, pI] | apply hX; clear hX X | intro hlen; unfold maxLen at hlen))
 refine aIf ?_; simp -implicitDefEqProofs only [slb, ↓reduceIte]; refine ⟨fun hb => ?_, fun hb => ?_⟩
 ·have hlt : k < l.length := by simpa using hb
  have hlt' : k < r.length := by omega
  have g0 := getD_map Ex.pv l k hlt
  have g1 := getD_map Ex.pv r k hlt'
  have hi : IntKind.i64.wrap ((k : Int) + 1) = ((k + 1 : Nat) : Int) := by rw [wrap64 (by omega)]; omega
  have hd := sameL_drop (R := Ex.same) hlt hlt'
  have hsame : Ex.same l[k] r[k] = (Ex.same l[k] r[k]) := rfl
  have q0 : (k : Int) < (l.length : Int) := by omega
  have q1 : (k : Int) < (r.length : Int) := by omega
  (repeat (first | refine aSeq fun X hX => ?_ | refine aSkip ?_ | refine aDrE ?_; simp -implicitDefEqProofs only [↓slp, ↓reduceIte, reduceCtorEq, jA, jB, jE, Y3, h0, h1, hk0, pI, g0, g1, q0]; try simp only [fo] | apply hX; clear hX X | apply And.intro; focus omega))
  refine callE (rSameExpr_any _ _ _) ?_
  cases c1 : (l[k].same r[k]) with
  | false =>
   simp -implicitDefEqProofs only [↓slp, slb, ↓reduceIte, hk0, pI, q0]; try simp only [fo]
   (repeat (apply hX; clear hX X))
   try (refine aIf ?_; simp -implicitDefEqProofs only [slb, ↓reduceIte, reduceCtorEq, hk0, pI])
   (repeat (first | refine aSeq fun X hX => ?_ | refine aRet ?_; try simp only [slx, ↓reduceIte, jA, reduceCtorEq] | refine aReg ?_; simp -implicitDefEqProofs only [↓slp, Y3]; try simp only [fo] | apply hX; clear hX X))
   simp only [aPost, Try.results113, aRes_n, aRes_t, aRes_c, pack_one, pack_two]
   refine leave_same rfl ⟨?_, rfl⟩
   have hv : (sameL Ex.same l r) = false := by rw [hs, hd]; simp [hs, hd, hsame, c1, eqS, Ty.eq]
   rw [hv]; rfl
  | true =>
   simp -implicitDefEqProofs only [↓slp, slb, ↓reduceIte, hk0, pI, q0]; try simp only [fo]
   (repeat (apply hX; clear hX X))
   try (refine aIf ?_; simp -implicitDefEqProofs only [slb, ↓reduceIte, hk0, pI])
   have he : Ex.same l[k] r[k] = true := by rw [hsame]; simp [c1, eqS, Ty.eq]
   (repeat (first | refine aSkip ?_ | refine aReg ?_; simp -implicitDefEqProofs only [↓slp, ↓reduceIte, jA, Y3, hk0, pI, hi]; try simp only [fo] | apply hX; clear hX X))
   rw [hI]
   refine ⟨⟨k + 1, hlt, h0, h1, rfl, by rw [hs, hd, he]; rfl, rfl⟩, ?_⟩
   first | omega | (simp only [↓slp, slb, ↓reduceIte, reduceCtorEq, jA, jB, jC, jD, jE, jF, jG, jH, jI, jJ, jK, hk0, pI]; omega)
 ·have hlt : k = l.length := by simp at hb; omega
  subst hlt
  (repeat (first | refine aSeq fun X hX => ?_ | (first | refine aExit ?_ | refine aRet ?_); try simp only [slx, ↓reduceIte, jA, reduceCtorEq] | refine aReg ?_; simp -implicitDefEqProofs only [↓slp, slb] | apply hX; clear hX X | clear hX X; apply hX; clear hX X))
  simp only [aPost, Try.results113, aRes_n, aRes_t, aRes_c, pack_one, pack_two]
  refine leave_same rfl ⟨?_, rfl⟩
  have hv : sameL Ex.same l r = true := by rw [hs, sameL_end hl]
  rw [hv]; rfl
set_option maxHeartbeats 2000000 in
theorem rBlock_step {sb : SbT} (V : List Va) (Q : List Qu) (V' : List Va) (Q' : List Qu) (hQ : ∀ x ∈ Q, ∀ (y : Qu) (m : M), ACalls Try.prog 97 [x.pv, y.pv] m (fun v m' => v = pB (smQ sb x y) ∧ m' = m)) (m : M) : ACalls Try.prog 49 [bkPV V Q, bkPV V' Q'] m (fun v m' => v = pB (smB sb V Q V' Q') ∧ m' = m) := by
 have hsame0 : smB sb V Q V' Q' = (sameL Va.same V V' && sameL (smQ sb) Q Q') := rfl
 refine ACalls.enter (mu := []) ok_mix Try.func49 rfl (by kernel_rfl) (by kernel_rfl) (by simp only [List.length_cons, List.length_nil, Try.ntmps49]; omega) ?_
 (repeat (first | refine aSeq fun X hX => ?_ | refine aReg ?_; simp -implicitDefEqProofs only [↓slp, ↓reduceIte, reduceCtorEq, jA, jB, jE, Y3] | apply hX; clear hX X))
 refine callE (sameVars_any _ _ _ _ _) ?_
 cases c0 : sameL Va.same V V' with
 | false =>
  simp -implicitDefEqProofs only [↓slp, slb, ↓reduceIte, jA, pB]
  (repeat (apply hX; clear hX X))
  try (refine aIf ?_; simp -implicitDefEqProofs only [slb, ↓reduceIte, reduceCtorEq])
  (repeat (first | refine aSeq fun X hX => ?_ | refine aRet ?_; try simp only [slx, ↓reduceIte, jA, reduceCtorEq] | refine aReg ?_; simp -implicitDefEqProofs only [↓slp, slb] | apply hX; clear hX X))
  simp only [aPost, Try.results49, aRes_n, aRes_t, aRes_c, pack_one, pack_two]
  refine leave_same rfl ⟨?_, rfl⟩
  have hv : smB sb V Q V' Q' = false := by rw [hsame0, c0]; rfl
  rw [hv]; rfl
 | true =>
  simp -implicitDefEqProofs only [↓slp, ↓reduceIte, reduceCtorEq, jA, jB, jE, Y3, pB]
  (repeat (apply hX; clear hX X))
  refine aIf ?_; simp -implicitDefEqProofs only [slb, ↓reduceIte]; refine ⟨fun hb => ?_, fun hb => ?_⟩
  ·(repeat (first | refine aSeq fun X hX => ?_ | refine aRet ?_; try simp only [slx, ↓reduceIte, jA, reduceCtorEq] | refine aReg ?_; simp -implicitDefEqProofs only [↓slp, slb] | apply hX; clear hX X))
   simp only [aPost, Try.results49, aRes_n, aRes_t, aRes_c, pack_one, pack_two]
   refine leave_same rfl ⟨?_, rfl⟩
   have hv : smB sb V Q V' Q' = false := by rw [hsame0, sameL_ne (R := smQ sb) (by simp at hb; omega), Bool.and_false]
   rw [hv]; rfl
  have hl : Q.length = Q'.length := by simp at hb; omega
  (repeat (first | refine aSeq fun X hX => ?_ | refine aBlk ?_ | refine aSkip ?_ | refine aReg ?_; simp -implicitDefEqProofs only [↓slp, slb] | apply hX; clear hX X))
  obtain ⟨I, hI⟩ : ∃ I : F → M → Prop, ∀ f m', I f m' = (∃ k : Nat, k ≤ Q.length ∧ f 2 = .ep [.sl .no (V.map Va.pv), .sl .no (Q.map Qu.pv)] ∧ f 3 = PV.ep [.sl .no (V'.map Va.pv), .sl .no (Q'.map Qu.pv)] ∧ f 5 = pI k ∧ sameL (smQ sb) Q Q' = sameL (smQ sb) (Q.drop k) (Q'.drop k) ∧ m = m') := ⟨_, fun _ _ => rfl⟩
  refine aLoop I (fun f m => Q.length - numOf (f 5)) ?_ ?_
  ·rw [hI]; exact ⟨0, by omega, (by first | rfl | exact h2), (by first | rfl | exact h3), rfl, rfl, rfl⟩
  intro f m' hrel
  rw [hI] at hrel
  obtain ⟨k, hk, h2, h3, hk0, hs, rfl⟩ := hrel
  (repeat (first | refine aSeq fun X hX => ?_ | refine aReg ?_; simp -implicitDefEqProofs only [↓slp, ↓reduceIte, reduceCtorEq, jA, jB, jE, Y3, h2, hk0, pI] | apply hX; clear hX X | intro hlen; unfold maxLen at hlen))
  refine aIf ?_; simp -implicitDefEqProofs only [slb, ↓reduceIte]; refine ⟨fun hb => ?_, fun hb => ?_⟩
  ·have hlt : k < Q.length := by simpa using hb
   have hlt' : k < Q'.length := by omega
   have g0 := getD_map Qu.pv Q k hlt
   have g1 := getD_map Qu.pv Q' k hlt'
   have hi : IntKind.i64.wrap ((k : Int) + 1) = ((k + 1 : Nat) : Int) := by rw [wrap64 (by omega)]; omega
   have hd := sameL_drop (R := (smQ sb)) hlt hlt'
   have hsame : (smQ sb) Q[k] Q'[k] = (smQ sb Q[k] Q'[k]) := rfl
   have q0 : (k : Int) < (Q.length : Int) := by omega
   have q1 : (k : Int) < (Q'.length : Int) := by omega
   (repeat (first | refine aSeq fun X hX => ?_ | refine aSkip ?_ | refine aDrE ?_; simp -implicitDefEqProofs only [↓slp, ↓reduceIte, reduceCtorEq, jA, jB, jE, Y3, h2, h3, hk0, pI, g0, g1, q0] | apply hX; clear hX X | apply And.intro; focus omega))
   refine callE (by have h := hQ _ (List.getElem_mem hlt) Q'[k] m; rw [Qu.pv_eq, Qu.pv_eq] at h; exact h) ?_
   cases c1 : (smQ sb Q[k] Q'[k]) with
   | false =>
    simp -implicitDefEqProofs only [↓slp, slb, ↓reduceIte, hk0, pI, q0]
    (repeat (apply hX; clear hX X))
    try (refine aIf ?_; simp -implicitDefEqProofs only [slb, ↓reduceIte, reduceCtorEq, hk0, pI])
    (repeat (first | refine aSeq fun X hX => ?_ | refine aRet ?_; try simp only [slx, ↓reduceIte, jA, reduceCtorEq] | refine aReg ?_; simp -implicitDefEqProofs only [↓slp, slb] | apply hX; clear hX X))
    simp only [aPost, Try.results49, aRes_n, aRes_t, aRes_c, pack_one, pack_two]
    refine leave_same rfl ⟨?_, rfl⟩
    have hv : (smB sb V Q V' Q') = false := by rw [hsame0, c0]; simp [hs, hd, hsame, c1, eqS, Ty.eq]
    rw [hv]; rfl
   | true =>
    simp -implicitDefEqProofs only [↓slp, slb, ↓reduceIte, hk0, pI, q0]
    (repeat (apply hX; clear hX X))
    try (refine aIf ?_; simp -implicitDefEqProofs only [slb, ↓reduceIte, hk0, pI])
    have he : (smQ sb) Q[k] Q'[k] = true := by rw [hsame]; simp [c1, eqS, Ty.eq]
    (repeat (first | refine aSkip ?_ | refine aReg ?_; simp -implicitDefEqProofs only [↓slp, slb, ↓reduceIte, jA, hk0, pI, hi] | apply hX; clear hX X))
    rw [hI]
    refine ⟨⟨k + 1, hlt, h2, h3, rfl, by rw [hs, hd, he]; rfl, rfl⟩, ?_⟩
    first | omega | (simp only [↓slp, slb, ↓reduceIte, reduceCtorEq, jA, jB, jC, jD, jE, jF, jG, jH, jI, jJ, jK, hk0, pI]; omega)
  ·have hlt : k = Q.length := by simp at hb; omega
   subst hlt
   (repeat (first | refine aSeq fun X hX => ?_ | (first | refine aExit ?_ | refine aRet ?_); try simp only [slx, ↓reduceIte, jA, reduceCtorEq] | refine aReg ?_; simp -implicitDefEqProofs only [↓slp, slb] | apply hX; clear hX X | clear hX X; apply hX; clear hX X))
   simp only [aPost, Try.results49, aRes_n, aRes_t, aRes_c, pack_one, pack_two]
   refine leave_same rfl ⟨?_, rfl⟩
   have hv : smB sb V Q V' Q' = true := by rw [hsame0, c0, hs, sameL_end hl]; rfl
   rw [hv]; rfl
set_option maxHeartbeats 2000000 in
theorem rEq_step {sb : SbT} (a b : Qu) (hA : ∀ x ∈ a.arms, ∀ (y : Am) (m : M), ACalls Try.prog 49 [bkPV x.vars x.eqs, bkPV y.vars y.eqs] m (fun v m' => v = pB (sb x.vars x.eqs y.vars y.eqs) ∧ m' = m)) (m : M) : ACalls Try.prog 97 [a.pv, b.pv] m (fun v m' => v = pB (smQ sb a b) ∧ m' = m) := by
 have hsame0 : smQ sb a b = ((a.kind == b.kind) && sameL eqS a.lhs b.lhs && eqS a.name b.name && (a.has == b.has) && sameL Ex.same a.args b.args && a.e.same b.e && sameL (smA sb) a.arms b.arms) := by unfold smQ; cases (a.kind == b.kind) <;> cases sameL eqS a.lhs b.lhs <;> cases eqS a.name b.name <;> cases (a.has == b.has) <;> cases sameL Ex.same a.args b.args <;> cases a.e.same b.e <;> rfl
 refine ACalls.enter (mu := []) ok_mix Try.func97 rfl (by kernel_rfl) (by kernel_rfl) (by simp only [List.length_cons, List.length_nil, Try.ntmps97]; omega) ?_

 cases c1 : (a.kind == b.kind) with
 | false =>
  (repeat (first | refine aSeq fun X hX => ?_ | refine aReg ?_; simp -implicitDefEqProofs only [↓slp, ↓reduceIte, reduceCtorEq, jA, jB, jE, Y3, c1] | apply hX; clear hX X))
  try (refine aIf ?_; simp -implicitDefEqProofs only [slb, ↓reduceIte, reduceCtorEq])
  (repeat (first | refine aSeq fun X hX => ?_ | refine aRet ?_; try simp only [slx, ↓reduceIte, jA, reduceCtorEq] | refine aReg ?_; simp -implicitDefEqProofs only [↓slp, slb] | apply hX; clear hX X))
  simp only [aPost, Try.results97, aRes_n, aRes_t, aRes_c, pack_one, pack_two]
  refine leave_same rfl ⟨?_, rfl⟩
  have hv : smQ sb a b = false := by rw [hsame0]; simp [c1, eqS]
  rw [hv]; rfl
 | true =>
  (repeat (first | refine aSeq fun X hX => ?_ | refine aReg ?_; simp -implicitDefEqProofs only [↓slp, ↓reduceIte, reduceCtorEq, jA, jB, jE, Y3, c1] | apply hX; clear hX X))
  refine callE (sameNames_any _ _ _ _ _) ?_
  cases c2 : (sameL eqS a.lhs b.lhs) with
  | false =>
   simp -implicitDefEqProofs only [↓slp, slb, ↓reduceIte, jA]
   (repeat (apply hX; clear hX X))
   try (refine aIf ?_; simp -implicitDefEqProofs only [slb, ↓reduceIte, reduceCtorEq])
   (repeat (first | refine aSeq fun X hX => ?_ | refine aRet ?_; try simp only [slx, ↓reduceIte, jA, reduceCtorEq] | refine aReg ?_; simp -implicitDefEqProofs only [↓slp, slb] | apply hX; clear hX X))
   simp only [aPost, Try.results97, aRes_n, aRes_t, aRes_c, pack_one, pack_two]
   refine leave_same rfl ⟨?_, rfl⟩
   have hv : smQ sb a b = false := by rw [hsame0]; simp [c1, c2, eqS]
   rw [hv]; rfl
  | true =>
   cases c3 : (a.name.toList == b.name.toList) with
   | false =>
    simp -implicitDefEqProofs only [↓slp, ↓reduceIte, reduceCtorEq, jA, jB, jE, Y3, c3]
    (repeat (apply hX; clear hX X))
    try (refine aIf ?_; simp -implicitDefEqProofs only [slb, ↓reduceIte, reduceCtorEq])
    (repeat (first | refine aSeq fun X hX => ?_ | refine aRet ?_; try simp only [slx, ↓reduceIte, jA, reduceCtorEq] | refine aReg ?_; simp -implicitDefEqProofs only [↓slp, slb] | apply hX; clear hX X))
    simp only [aPost, Try.results97, aRes_n, aRes_t, aRes_c, pack_one, pack_two]
    refine leave_same rfl ⟨?_, rfl⟩
    have hv : smQ sb a b = false := by rw [hsame0]; simp [c1, c2, c3, eqS]
    rw [hv]; rfl
   | true =>
    cases c4 : (a.has == b.has) with
    | false =>
     simp -implicitDefEqProofs only [↓slp, ↓reduceIte, reduceCtorEq, jA, jB, jE, Y3, c3, c4]
     (repeat (apply hX; clear hX X))
     try (refine aIf ?_; simp -implicitDefEqProofs only [slb, ↓reduceIte, reduceCtorEq])
     (repeat (first | refine aSeq fun X hX => ?_ | refine aRet ?_; try simp only [slx, ↓reduceIte, jA, reduceCtorEq] | refine aReg ?_; simp -implicitDefEqProofs only [↓slp, slb] | apply hX; clear hX X))
     simp only [aPost, Try.results97, aRes_n, aRes_t, aRes_c, pack_one, pack_two]
     refine leave_same rfl ⟨?_, rfl⟩
     have hv : smQ sb a b = false := by rw [hsame0]; simp [c1, c2, c3, c4, eqS]
     rw [hv]; rfl
    | true =>
     simp -implicitDefEqProofs only [↓slp, ↓reduceIte, reduceCtorEq, jA, jB, jE, Y3, c3, c4]
     (repeat (refine And.intro (by first | assumption | omega) ?_))
     refine callE (rExprs_any _ _ _ _ _) ?_
     cases c5 : (sameL Ex.same a.args b.args) with
     | false =>
      simp -implicitDefEqProofs only [↓slp, slb, ↓reduceIte, jA]
      (repeat (apply hX; clear hX X))
      try (refine aIf ?_; simp -implicitDefEqProofs only [slb, ↓reduceIte, reduceCtorEq])
      (repeat (first | refine aSeq fun X hX => ?_ | refine aRet ?_; try simp only [slx, ↓reduceIte, jA, reduceCtorEq] | refine aReg ?_; simp -implicitDefEqProofs only [↓slp, slb] | apply hX; clear hX X))
      simp only [aPost, Try.results97, aRes_n, aRes_t, aRes_c, pack_one, pack_two]
      refine leave_same rfl ⟨?_, rfl⟩
      have hv : smQ sb a b = false := by rw [hsame0]; simp [c1, c2, c3, c4, c5, eqS]
      rw [hv]; rfl
     | true =>
      simp -implicitDefEqProofs only [↓slp, ↓reduceIte, reduceCtorEq, jA, jB, jE, Y3]; try simp only [fo]
      (repeat (refine And.intro (by first | assumption | omega) ?_))
      refine callE (rSameExpr_any _ _ _) ?_
      cases c6 : (a.e.same b.e) with
      | false =>
       simp -implicitDefEqProofs only [↓slp, slb, ↓reduceIte, jA]; try simp only [fo]
       (repeat (apply hX; clear hX X))
       try (refine aIf ?_; simp -implicitDefEqProofs only [slb, ↓reduceIte, reduceCtorEq])
       (repeat (first | refine aSeq fun X hX => ?_ | refine aRet ?_; try simp only [slx, ↓reduceIte, jA, reduceCtorEq] | refine aReg ?_; simp -implicitDefEqProofs only [↓slp, slb] | apply hX; clear hX X))
       simp only [aPost, Try.results97, aRes_n, aRes_t, aRes_c, pack_one, pack_two]
       refine leave_same rfl ⟨?_, rfl⟩
       have hv : smQ sb a b = false := by rw [hsame0]; simp [c1, c2, c3, c4, c5, c6, eqS]
       rw [hv]; rfl
      | true =>
       simp -implicitDefEqProofs only [↓slp, ↓reduceIte, reduceCtorEq, jA, jB, jE, Y3]; try simp only [fo]
       (repeat (apply hX; clear hX X))
       refine aIf ?_; simp -implicitDefEqProofs only [slb, ↓reduceIte]; refine ⟨fun hb => ?_, fun hb => ?_⟩
       ·(repeat (first | refine aSeq fun X hX => ?_ | refine aRet ?_; try simp only [slx, ↓reduceIte, jA, reduceCtorEq] | refine aReg ?_; simp -implicitDefEqProofs only [↓slp, slb] | apply hX; clear hX X))
        simp only [aPost, Try.results97, aRes_n, aRes_t, aRes_c, pack_one, pack_two]
        refine leave_same rfl ⟨?_, rfl⟩
        have hv : smQ sb a b = false := by rw [hsame0, sameL_ne (R := smA sb) (by simp at hb; omega), Bool.and_false]
        rw [hv]; rfl
       have hl : a.arms.length = b.arms.length := by simp at hb; omega
       (repeat (first | refine aSeq fun X hX => ?_ | refine aBlk ?_ | refine aSkip ?_ | refine aReg ?_; simp -implicitDefEqProofs only [↓slp, slb] | apply hX; clear hX X))
       have hpre : ((a.kind == b.kind) && sameL eqS a.lhs b.lhs && eqS a.name b.name && (a.has == b.has) && sameL Ex.same a.args b.args && a.e.same b.e) = true := by simp [c1, c2, c3, c4, c5, c6, eqS]
       have ar : ∀ (x y : Am), smA sb x y = (eqS x.name y.name && sb x.vars x.eqs y.vars y.eqs && sameL smT x.unl y.unl && sameL smT x.til y.til) := fun _ _ => rfl
       obtain ⟨I, hI⟩ : ∃ I : F → M → Prop, ∀ f m', I f m' = (∃ k : Nat, k ≤ a.arms.length ∧ f 2 = .ep a.cs ∧ f 3 = PV.ep b.cs ∧ f 5 = pI k ∧ sameL (smA sb) a.arms b.arms = sameL (smA sb) (a.arms.drop k) (b.arms.drop k) ∧ m = m') := ⟨_, fun _ _ => rfl⟩
       refine aLoop I (fun f m => a.arms.length - numOf (f 5)) ?_ ?_
       ·rw [hI]; exact ⟨0, by omega, (by first | rfl | exact h2), (by first | rfl | exact h3), rfl, rfl, rfl⟩
       intro f m' hrel
       rw [hI] at hrel
       obtain ⟨k, hk, h2, h3, hk0, hs, rfl⟩ := hrel
       (repeat (first | refine aSeq fun X hX => ?_ | refine aReg ?_; simp -implicitDefEqProofs only [↓slp, ↓reduceIte, reduceCtorEq, jA, jB, jE, Y3, h2, hk0, pI] | apply hX; clear hX X | intro hlen; unfold maxLen at hlen))
       refine aIf ?_; simp -implicitDefEqProofs only [slb, ↓reduceIte]; refine ⟨fun hb => ?_, fun hb => ?_⟩
       ·have hlt : k < a.arms.length := by simpa using hb
        have hlt' : k < b.arms.length := by omega
        have g0 := getD_map Am.pv a.arms k hlt
        have g1 := getD_map Am.pv b.arms k hlt'
        have hi : IntKind.i64.wrap ((k : Int) + 1) = ((k + 1 : Nat) : Int) := by rw [wrap64 (by omega)]; omega
        have hd := sameL_drop (R := (smA sb)) hlt hlt'
        have hsame : (smA sb) a.arms[k] b.arms[k] = (eqS a.arms[k].name b.arms[k].name && sb a.arms[k].vars a.arms[k].eqs b.arms[k].vars b.arms[k].eqs && sameL smT a.arms[k].unl b.arms[k].unl && sameL smT a.arms[k].til b.arms[k].til) := rfl
        have q0 : (k : Int) < (a.arms.length : Int) := by omega
        have q1 : (k : Int) < (b.arms.length : Int) := by omega
        cases c1 : (a.arms[k].name.toList == b.arms[k].name.toList) with
        | false =>
         (repeat (first | refine aSeq fun X hX => ?_ | refine aSkip ?_ | refine aReg ?_; simp -implicitDefEqProofs only [↓slp, ↓reduceIte, reduceCtorEq, jA, jB, jE, jF, Y3, c1, h2, h3, hk0, pI, g0, g1, q0] | apply hX; clear hX X | apply And.intro; focus omega))
         try (refine aIf ?_; simp -implicitDefEqProofs only [slb, ↓reduceIte, reduceCtorEq, hk0, pI])
         (repeat (first | refine aSeq fun X hX => ?_ | refine aRet ?_; try simp only [slx, ↓reduceIte, jA, reduceCtorEq] | refine aReg ?_; simp -implicitDefEqProofs only [↓slp, slb] | apply hX; clear hX X))
         simp only [aPost, Try.results97, aRes_n, aRes_t, aRes_c, pack_one, pack_two]
         refine leave_same rfl ⟨?_, rfl⟩
         have hv : (smQ sb a b) = false := by rw [hsame0, hpre]; simp [hs, hd, hsame, c1, eqS, Ty.eq]
         rw [hv]; rfl
        | true =>
         (repeat (first | refine aSeq fun X hX => ?_ | refine aSkip ?_ | refine aReg ?_; simp -implicitDefEqProofs only [↓slp, ↓reduceIte, reduceCtorEq, jA, jB, jE, jF, Y3, c1, h2, h3, hk0, pI, g0, g1, q0] | apply hX; clear hX X | apply And.intro; focus omega))
         refine callE (hA _ (List.getElem_mem hlt) b.arms[k] _) ?_
         cases c2 : (sb a.arms[k].vars a.arms[k].eqs b.arms[k].vars b.arms[k].eqs) with
         | false =>
          simp -implicitDefEqProofs only [↓slp, slb, ↓reduceIte, jA, hk0, pI]
          (repeat (apply hX; clear hX X))
          try (refine aIf ?_; simp -implicitDefEqProofs only [slb, ↓reduceIte, reduceCtorEq, hk0, pI])
          (repeat (first | refine aSeq fun X hX => ?_ | refine aRet ?_; try simp only [slx, ↓reduceIte, jA, reduceCtorEq] | refine aReg ?_; simp -implicitDefEqProofs only [↓slp, slb] | apply hX; clear hX X))
          simp only [aPost, Try.results97, aRes_n, aRes_t, aRes_c, pack_one, pack_two]
          refine leave_same rfl ⟨?_, rfl⟩
          have hv : (smQ sb a b) = false := by rw [hsame0, hpre]; simp [hs, hd, hsame, c1, c2, eqS, Ty.eq]
          rw [hv]; rfl
         | true =>
          simp -implicitDefEqProofs only [↓slp, ↓reduceIte, reduceCtorEq, jA, jB, jE, Y3]
          (repeat (refine And.intro (by first | assumption | omega) ?_))
          refine callE (rWays_any _ _ _ _ _) ?_
          cases c3 : (sameL smT a.arms[k].unl b.arms[k].unl) with
          | false =>
           simp -implicitDefEqProofs only [↓slp, slb, ↓reduceIte, jA, hk0, pI]
           (repeat (apply hX; clear hX X))
           try (refine aIf ?_; simp -implicitDefEqProofs only [slb, ↓reduceIte, reduceCtorEq, hk0, pI])
           (repeat (first | refine aSeq fun X hX => ?_ | refine aRet ?_; try simp only [slx, ↓reduceIte, jA, reduceCtorEq] | refine aReg ?_; simp -implicitDefEqProofs only [↓slp, slb] | apply hX; clear hX X))
           simp only [aPost, Try.results97, aRes_n, aRes_t, aRes_c, pack_one, pack_two]
           refine leave_same rfl ⟨?_, rfl⟩
           have hv : (smQ sb a b) = false := by rw [hsame0, hpre]; simp [hs, hd, hsame, c1, c2, c3, eqS, Ty.eq]
           rw [hv]; rfl
          | true =>
           simp -implicitDefEqProofs only [↓slp, ↓reduceIte, reduceCtorEq, jA, jB, jE, Y3]
           (repeat (refine And.intro (by first | assumption | omega) ?_))
           refine callE (rWays_any _ _ _ _ _) ?_
           cases c4 : (sameL smT a.arms[k].til b.arms[k].til) with
           | false =>
            simp -implicitDefEqProofs only [↓slp, slb, ↓reduceIte, jA, hk0, pI]
            (repeat (apply hX; clear hX X))
            try (refine aIf ?_; simp -implicitDefEqProofs only [slb, ↓reduceIte, reduceCtorEq, hk0, pI])
            (repeat (first | refine aSeq fun X hX => ?_ | refine aRet ?_; try simp only [slx, ↓reduceIte, jA, reduceCtorEq] | refine aReg ?_; simp -implicitDefEqProofs only [↓slp, slb] | apply hX; clear hX X))
            simp only [aPost, Try.results97, aRes_n, aRes_t, aRes_c, pack_one, pack_two]
            refine leave_same rfl ⟨?_, rfl⟩
            have hv : (smQ sb a b) = false := by rw [hsame0, hpre]; simp [hs, hd, hsame, c1, c2, c3, c4, eqS, Ty.eq]
            rw [hv]; rfl
           | true =>
            simp -implicitDefEqProofs only [↓slp, slb, ↓reduceIte, jA, hk0, pI]
            (repeat (apply hX; clear hX X))
            try (refine aIf ?_; simp -implicitDefEqProofs only [slb, ↓reduceIte, hk0, pI])
            have he : (smA sb) a.arms[k] b.arms[k] = true := by rw [hsame]; simp [c1, c2, c3, c4, eqS, Ty.eq]
            (repeat (first | refine aSkip ?_ | refine aReg ?_; simp -implicitDefEqProofs only [↓slp, slb, ↓reduceIte, jA, hk0, pI, hi] | apply hX; clear hX X))
            rw [hI]
            refine ⟨⟨k + 1, hlt, h2, h3, rfl, by rw [hs, hd, he]; rfl, rfl⟩, ?_⟩
            first | omega | (simp only [↓slp, slb, ↓reduceIte, reduceCtorEq, jA, jB, jC, jD, jE, jF, jG, jH, jI, jJ, jK, hk0, pI]; omega)
       ·have hlt : k = a.arms.length := by simp at hb; omega
        subst hlt
        (repeat (first | refine aSeq fun X hX => ?_ | (first | refine aExit ?_ | refine aRet ?_); try simp only [slx, ↓reduceIte, jA, reduceCtorEq] | refine aReg ?_; simp -implicitDefEqProofs only [↓slp, slb] | apply hX; clear hX X | clear hX X; apply hX; clear hX X))
        simp only [aPost, Try.results97, aRes_n, aRes_t, aRes_c, pack_one, pack_two]
        refine leave_same rfl ⟨?_, rfl⟩
        have hv : smQ sb a b = true := by rw [hsame0, hpre, hs, sameL_end hl]; rfl
        rw [hv]; rfl
theorem rBlock_any : ∀ (d : Nat) (V : List Va) (Q : List Qu), DpB d Q → ∀ (V' : List Va) (Q' : List Qu) (m : M), ACalls Try.prog 49 [bkPV V Q, bkPV V' Q'] m (fun v m' => v = pB (smF d V Q V' Q') ∧ m' = m)
 | 0, V, Q, h, V', Q', m => rBlock_step V Q V' Q' (fun x hx y m => rEq_step x y (fun z hz => by rw [h x hx] at hz; cases hz) m) m
 | d + 1, V, Q, h, V', Q', m => rBlock_step V Q V' Q' (fun x hx y m => rEq_step x y (fun z hz w m => rBlock_any d z.vars z.eqs (h x hx z hz) w.vars w.eqs m) m) m

set_option maxHeartbeats 2000000 in
theorem rSame_any {d : Nat} (E : List En) (l : List No) (E' : List En) (l' : List No) (h : ∀ n ∈ l, DpB d n.b.eqs) (m : M) : ACalls Try.prog 36 [prPV E l, prPV E' l'] m (fun v m' => v = pB (sameL smE E E' && sameL (smN d) l l') ∧ m' = m) := by
 refine ACalls.enter (mu := []) ok_mix Try.func36 rfl (by kernel_rfl) (by kernel_rfl) (by simp only [List.length_cons, List.length_nil, Try.ntmps36]; omega) ?_
 by_cases hlE : E.length = E'.length
 case neg =>
  have q0 : ((E.length : Int) == (E'.length : Int)) = false := by simp; omega
  (repeat (first | refine aSeq fun X hX => ?_ | refine aReg ?_; simp -implicitDefEqProofs only [↓slp, ↓reduceIte, reduceCtorEq, jA, jB, jE, Y3, q0] | apply hX; clear hX X | intro hlen; unfold maxLen at hlen))
  try (refine aIf ?_; simp -implicitDefEqProofs only [slb, ↓reduceIte, reduceCtorEq])
  (repeat (first | refine aSeq fun X hX => ?_ | refine aRet ?_; try simp only [slx, ↓reduceIte, jA, reduceCtorEq] | refine aReg ?_; simp -implicitDefEqProofs only [↓slp, slb] | apply hX; clear hX X))
  simp only [aPost, Try.results36, aRes_n, aRes_t, aRes_c, pack_one, pack_two]
  refine leave_same rfl ⟨?_, rfl⟩
  have hv : (sameL smE E E' && sameL (smN d) l l') = false := by rw [sameL_ne (R := smE) hlE]; rfl
  rw [hv]; rfl
 have q0 : ((E.length : Int) == (E'.length : Int)) = true := by simp; omega
 by_cases hl : l.length = l'.length
 case neg =>
  have q1 : ((l.length : Int) == (l'.length : Int)) = false := by simp; omega
  (repeat (first | refine aSeq fun X hX => ?_ | refine aReg ?_; simp -implicitDefEqProofs only [↓slp, ↓reduceIte, reduceCtorEq, jA, jB, jE, Y3, q0, q1] | apply hX; clear hX X | intro hlen; unfold maxLen at hlen))
  try (refine aIf ?_; simp -implicitDefEqProofs only [slb, ↓reduceIte, reduceCtorEq])
  (repeat (first | refine aSeq fun X hX => ?_ | refine aRet ?_; try simp only [slx, ↓reduceIte, jA, reduceCtorEq] | refine aReg ?_; simp -implicitDefEqProofs only [↓slp, slb] | apply hX; clear hX X))
  simp only [aPost, Try.results36, aRes_n, aRes_t, aRes_c, pack_one, pack_two]
  refine leave_same rfl ⟨?_, rfl⟩
  have hv : (sameL smE E E' && sameL (smN d) l l') = false := by rw [sameL_ne (R := smN d) hl, Bool.and_false]
  rw [hv]; rfl
 have q1 : ((l.length : Int) == (l'.length : Int)) = true := by simp; omega
 (repeat (first | refine aSeq fun X hX => ?_ | refine aReg ?_; simp -implicitDefEqProofs only [↓slp, ↓reduceIte, reduceCtorEq, jA, jB, jE, Y3, q0, q1] | apply hX; clear hX X | intro hlen; unfold maxLen at hlen))
 try (refine aIf ?_; simp -implicitDefEqProofs only [slb, ↓reduceIte])
 (repeat (first | refine aSeq fun X hX => ?_ | refine aBlk ?_ | refine aSkip ?_ | refine aReg ?_; simp -implicitDefEqProofs only [↓slp, slb] | apply hX; clear hX X))
 clear q0 q1
 obtain ⟨I, hI⟩ : ∃ I : F → M → Prop, ∀ f m', I f m' = (∃ k : Nat, k ≤ E.length ∧ f 2 = .ep [.sl .no (E.map En.pv), .sl .no (l.map No.pv)] ∧ f 3 = PV.ep [.sl .no (E'.map En.pv), .sl .no (l'.map No.pv)] ∧ f 5 = pI k ∧ sameL smE E E' = sameL smE (E.drop k) (E'.drop k) ∧ m = m') := ⟨_, fun _ _ => rfl⟩
 refine aLoop I (fun f m => E.length - numOf (f 5)) ?_ ?_
 ·rw [hI]; exact ⟨0, by omega, (by first | rfl | exact h2), (by first | rfl | exact h3), rfl, rfl, rfl⟩
 intro f m' hrel
 rw [hI] at hrel
 obtain ⟨k, hk, h2, h3, hk0, hs, rfl⟩ := hrel
 (repeat (first | refine aSeq fun X hX => ?_ | refine aReg ?_; simp -implicitDefEqProofs only [↓slp, ↓reduceIte, reduceCtorEq, jA, jB, jE, Y3, h2, hk0, pI] | apply hX; clear hX X | intro hlen; unfold maxLen at hlen))
 refine aIf ?_; simp -implicitDefEqProofs only [slb, ↓reduceIte]; refine ⟨fun hb => ?_, fun hb => ?_⟩
 ·have hlt : k < E.length := by simpa using hb
  have hlt' : k < E'.length := by omega
  have g0 := getD_map En.pv E k hlt
  have g1 := getD_map En.pv E' k hlt'
  have hi : IntKind.i64.wrap ((k : Int) + 1) = ((k + 1 : Nat) : Int) := by rw [wrap64 (by omega)]; omega
  have hd := sameL_drop (R := smE) hlt hlt'
  have hsame : smE E[k] E'[k] = (eqS E[k].name E'[k].name && sameL eqS E[k].ctors E'[k].ctors) := rfl
  have q0 : (k : Int) < (E.length : Int) := by omega
  have q1 : (k : Int) < (E'.length : Int) := by omega
  cases c1 : (E[k].name.toList == E'[k].name.toList) with
  | false =>
   (repeat (first | refine aSeq fun X hX => ?_ | refine aSkip ?_ | refine aDrE ?_; simp -implicitDefEqProofs only [↓slp, ↓reduceIte, reduceCtorEq, jA, jB, jE, Y3, c1, h2, h3, hk0, pI, g0, g1, q0] | apply hX; clear hX X | apply And.intro; focus omega))
   try (refine aIf ?_; simp -implicitDefEqProofs only [slb, ↓reduceIte, reduceCtorEq, hk0, pI])
   (repeat (first | refine aSeq fun X hX => ?_ | refine aRet ?_; try simp only [slx, ↓reduceIte, jA, reduceCtorEq] | refine aReg ?_; simp -implicitDefEqProofs only [↓slp, slb] | apply hX; clear hX X))
   simp only [aPost, Try.results36, aRes_n, aRes_t, aRes_c, pack_one, pack_two]
   refine leave_same rfl ⟨?_, rfl⟩
   have hv : ((sameL smE E E' && sameL (smN d) l l')) = false := by rw [Bool.and_eq_false_iff]; simp [hs, hd, hsame, c1, eqS, Ty.eq]
   rw [hv]; rfl
  | true =>
   (repeat (first | refine aSeq fun X hX => ?_ | refine aSkip ?_ | refine aDrE ?_; simp -implicitDefEqProofs only [↓slp, ↓reduceIte, reduceCtorEq, jA, jB, jE, Y3, c1, h2, h3, hk0, pI, g0, g1, q0] | apply hX; clear hX X | apply And.intro; focus omega))
   refine callE (sameNames_any _ _ _ _ _) ?_
   cases c2 : (sameL eqS E[k].ctors E'[k].ctors) with
   | false =>
    simp -implicitDefEqProofs only [↓slp, slb, ↓reduceIte, jA, hk0, pI, q0]
    (repeat (apply hX; clear hX X))
    try (refine aIf ?_; simp -implicitDefEqProofs only [slb, ↓reduceIte, reduceCtorEq, hk0, pI])
    (repeat (first | refine aSeq fun X hX => ?_ | refine aRet ?_; try simp only [slx, ↓reduceIte, jA, reduceCtorEq] | refine aReg ?_; simp -implicitDefEqProofs only [↓slp, slb] | apply hX; clear hX X))
    simp only [aPost, Try.results36, aRes_n, aRes_t, aRes_c, pack_one, pack_two]
    refine leave_same rfl ⟨?_, rfl⟩
    have hv : ((sameL smE E E' && sameL (smN d) l l')) = false := by rw [Bool.and_eq_false_iff]; simp [hs, hd, hsame, c1, c2, eqS, Ty.eq]
    rw [hv]; rfl
   | true =>
    simp -implicitDefEqProofs only [↓slp, slb, ↓reduceIte, jA, hk0, pI, q0]
    (repeat (apply hX; clear hX X))
    try (refine aIf ?_; simp -implicitDefEqProofs only [slb, ↓reduceIte, hk0, pI])
    have he : smE E[k] E'[k] = true := by rw [hsame]; simp [c1, c2, eqS, Ty.eq]
    (repeat (first | refine aSkip ?_ | refine aReg ?_; simp -implicitDefEqProofs only [↓slp, slb, ↓reduceIte, jA, hk0, pI, hi] | apply hX; clear hX X))
    rw [hI]
    refine ⟨⟨k + 1, hlt, h2, h3, rfl, by rw [hs, hd, he]; rfl, rfl⟩, ?_⟩
    first | omega | (simp only [↓slp, slb, ↓reduceIte, reduceCtorEq, jA, jB, jC, jD, jE, jF, jG, jH, jI, jJ, jK, hk0, pI]; omega)
 ·have hlt : k = E.length := by simp at hb; omega
  subst hlt
  have hE : sameL smE E E' = true := by rw [hs, sameL_end hlE]
  clear hs
  (repeat (first | refine aSeq fun X hX => ?_ | refine aBlk ?_ | refine aExit ?_; try simp only [slx, ↓reduceIte, jA, reduceCtorEq] | refine aReg ?_; simp -implicitDefEqProofs only [↓slp, slb] | apply hX; clear hX X | clear hX X; apply hX; clear hX X))
  obtain ⟨I, hI⟩ : ∃ I : F → M → Prop, ∀ f m', I f m' = (∃ k : Nat, k ≤ l.length ∧ f 2 = .ep [.sl .no (E.map En.pv), .sl .no (l.map No.pv)] ∧ f 3 = PV.ep [.sl .no (E'.map En.pv), .sl .no (l'.map No.pv)] ∧ f 6 = pI k ∧ sameL (smN d) l l' = sameL (smN d) (l.drop k) (l'.drop k) ∧ m = m') := ⟨_, fun _ _ => rfl⟩
  refine aLoop I (fun f m => l.length - numOf (f 6)) ?_ ?_
  ·rw [hI]; exact ⟨0, by omega, (by first | rfl | exact h2), (by first | rfl | exact h3), rfl, rfl, rfl⟩
  intro f m' hrel
  rw [hI] at hrel
  obtain ⟨k, hk, h2, h3, hk0, hs, rfl⟩ := hrel
  (repeat (first | refine aSeq fun X hX => ?_ | refine aReg ?_; simp -implicitDefEqProofs only [↓slp, ↓reduceIte, reduceCtorEq, jA, jB, jE, Y3, h2, hk0, pI] | apply hX; clear hX X | intro hlen; unfold maxLen at hlen))
  refine aIf ?_; simp -implicitDefEqProofs only [slb, ↓reduceIte]; refine ⟨fun hb => ?_, fun hb => ?_⟩
  ·have hlt : k < l.length := by simpa using hb
   have hlt' : k < l'.length := by omega
   have g0 := getD_map No.pv l k hlt
   have g1 := getD_map No.pv l' k hlt'
   have hi : IntKind.i64.wrap ((k : Int) + 1) = ((k + 1 : Nat) : Int) := by rw [wrap64 (by omega)]; omega
   have hd := sameL_drop (R := (smN d)) hlt hlt'
   have hsame : (smN d) l[k] l'[k] = (eqS l[k].name l'[k].name && sameL Va.same l[k].ins l'[k].ins && sameL Va.same l[k].outs l'[k].outs && smF d l[k].b.vars l[k].b.eqs l'[k].b.vars l'[k].b.eqs) := rfl
   have q0 : (k : Int) < (l.length : Int) := by omega
   have q1 : (k : Int) < (l'.length : Int) := by omega
   cases c1 : (l[k].name.toList == l'[k].name.toList) with
   | false =>
    (repeat (first | refine aSeq fun X hX => ?_ | refine aSkip ?_ | refine aReg ?_; simp -implicitDefEqProofs only [↓slp, ↓reduceIte, reduceCtorEq, jA, jB, jE, jF, Y3, c1, h2, h3, hk0, pI, g0, g1, q0] | apply hX; clear hX X | apply And.intro; focus omega))
    try (refine aIf ?_; simp -implicitDefEqProofs only [slb, ↓reduceIte, reduceCtorEq, hk0, pI])
    (repeat (first | refine aSeq fun X hX => ?_ | refine aRet ?_; try simp only [slx, ↓reduceIte, jA, reduceCtorEq] | refine aReg ?_; simp -implicitDefEqProofs only [↓slp, slb] | apply hX; clear hX X))
    simp only [aPost, Try.results36, aRes_n, aRes_t, aRes_c, pack_one, pack_two]
    refine leave_same rfl ⟨?_, rfl⟩
    have hv : ((sameL smE E E' && sameL (smN d) l l')) = false := by rw [hE]; simp [hs, hd, hsame, c1, eqS, Ty.eq]
    rw [hv]; rfl
   | true =>
    (repeat (first | refine aSeq fun X hX => ?_ | refine aSkip ?_ | refine aReg ?_; simp -implicitDefEqProofs only [↓slp, ↓reduceIte, reduceCtorEq, jA, jB, jE, jF, Y3, c1, h2, h3, hk0, pI, g0, g1, q0] | apply hX; clear hX X | apply And.intro; focus omega))
    refine callE (sameVars_any _ _ _ _ _) ?_
    cases c2 : (sameL Va.same l[k].ins l'[k].ins) with
    | false =>
     simp -implicitDefEqProofs only [↓slp, slb, ↓reduceIte, jA, hk0, pI]
     (repeat (apply hX; clear hX X))
     try (refine aIf ?_; simp -implicitDefEqProofs only [slb, ↓reduceIte, reduceCtorEq, hk0, pI])
     (repeat (first | refine aSeq fun X hX => ?_ | refine aRet ?_; try simp only [slx, ↓reduceIte, jA, reduceCtorEq] | refine aReg ?_; simp -implicitDefEqProofs only [↓slp, slb] | apply hX; clear hX X))
     simp only [aPost, Try.results36, aRes_n, aRes_t, aRes_c, pack_one, pack_two]
     refine leave_same rfl ⟨?_, rfl⟩
     have hv : ((sameL smE E E' && sameL (smN d) l l')) = false := by rw [hE]; simp [hs, hd, hsame, c1, c2, eqS, Ty.eq]
     rw [hv]; rfl
    | true =>
     simp -implicitDefEqProofs only [↓slp, ↓reduceIte, reduceCtorEq, jA, jB, jE, Y3]
     (repeat (refine And.intro (by first | assumption | omega) ?_))
     refine callE (sameVars_any _ _ _ _ _) ?_
     cases c3 : (sameL Va.same l[k].outs l'[k].outs) with
     | false =>
      simp -implicitDefEqProofs only [↓slp, slb, ↓reduceIte, jA, hk0, pI]
      (repeat (apply hX; clear hX X))
      try (refine aIf ?_; simp -implicitDefEqProofs only [slb, ↓reduceIte, reduceCtorEq, hk0, pI])
      (repeat (first | refine aSeq fun X hX => ?_ | refine aRet ?_; try simp only [slx, ↓reduceIte, jA, reduceCtorEq] | refine aReg ?_; simp -implicitDefEqProofs only [↓slp, slb] | apply hX; clear hX X))
      simp only [aPost, Try.results36, aRes_n, aRes_t, aRes_c, pack_one, pack_two]
      refine leave_same rfl ⟨?_, rfl⟩
      have hv : ((sameL smE E E' && sameL (smN d) l l')) = false := by rw [hE]; simp [hs, hd, hsame, c1, c2, c3, eqS, Ty.eq]
      rw [hv]; rfl
     | true =>
      simp -implicitDefEqProofs only [↓slp, ↓reduceIte, reduceCtorEq, jA, jB, jE, Y3]
      (repeat (refine And.intro (by first | assumption | omega) ?_))
      refine callE (rBlock_any d _ _ (h _ (List.getElem_mem hlt)) _ _ _) ?_
      cases c4 : (smF d l[k].b.vars l[k].b.eqs l'[k].b.vars l'[k].b.eqs) with
      | false =>
       simp -implicitDefEqProofs only [↓slp, slb, ↓reduceIte, jA, hk0, pI]
       (repeat (apply hX; clear hX X))
       try (refine aIf ?_; simp -implicitDefEqProofs only [slb, ↓reduceIte, reduceCtorEq, hk0, pI])
       (repeat (first | refine aSeq fun X hX => ?_ | refine aRet ?_; try simp only [slx, ↓reduceIte, jA, reduceCtorEq] | refine aReg ?_; simp -implicitDefEqProofs only [↓slp, slb] | apply hX; clear hX X))
       simp only [aPost, Try.results36, aRes_n, aRes_t, aRes_c, pack_one, pack_two]
       refine leave_same rfl ⟨?_, rfl⟩
       have hv : ((sameL smE E E' && sameL (smN d) l l')) = false := by rw [hE]; simp [hs, hd, hsame, c1, c2, c3, c4, eqS, Ty.eq]
       rw [hv]; rfl
      | true =>
       simp -implicitDefEqProofs only [↓slp, slb, ↓reduceIte, jA, hk0, pI]
       (repeat (apply hX; clear hX X))
       try (refine aIf ?_; simp -implicitDefEqProofs only [slb, ↓reduceIte, hk0, pI])
       have he : (smN d) l[k] l'[k] = true := by rw [hsame]; simp [c1, c2, c3, c4, eqS, Ty.eq]
       (repeat (first | refine aSkip ?_ | refine aReg ?_; simp -implicitDefEqProofs only [↓slp, slb, ↓reduceIte, jA, hk0, pI, hi] | apply hX; clear hX X))
       rw [hI]
       refine ⟨⟨k + 1, hlt, h2, h3, rfl, by rw [hs, hd, he]; rfl, rfl⟩, ?_⟩
       first | omega | (simp only [↓slp, slb, ↓reduceIte, reduceCtorEq, jA, jB, jC, jD, jE, jF, jG, jH, jI, jJ, jK, hk0, pI]; omega)
  ·have hlt : k = l.length := by simp at hb; omega
   subst hlt
   (repeat (first | refine aSeq fun X hX => ?_ | (first | refine aExit ?_ | refine aRet ?_); try simp only [slx, ↓reduceIte, jA, reduceCtorEq] | refine aReg ?_; simp -implicitDefEqProofs only [↓slp, slb] | apply hX; clear hX X | clear hX X; apply hX; clear hX X))
   simp only [aPost, Try.results36, aRes_n, aRes_t, aRes_c, pack_one, pack_two]
   refine leave_same rfl ⟨?_, rfl⟩
   have hv : (sameL smE E E' && sameL (smN d) l l') = true := by rw [hE, hs, sameL_end hl]; rfl
   rw [hv]; rfl
end Go.Proofs.Ytibhhoknipdlpaa
