/-
 Programs compared: what is answered; package tree's functions.
-/
-- halved
import Derived.Test.YtibhhoknipdlpaaNW
set_option linter.unusedVariables false
set_option linter.unusedSimpArgs false
namespace Go.Proofs.Ytibhhoknipdlpaa
open Nat renaming reduceEqDiff → jA, reduceAdd → jB, reduceMul → jC, reduceLT → jD, reduceLeDiff → jE, reduceBEq → jF, reduceBNe → jG
open Int renaming reduceLE → jH, reduceLT → jI, reduceToNat → jJ, reduceEq → jK
open Go
-- EXX: Qu.settle_pv, Qu.pure_pv, Qu.cells_pv, Qu.cs, Am.settle_pv, Am.pure_pv, Am.cells_pv, Am.cs, Tr.settle_pv, Tr.pure_pv, Tr.cells_pv, Tr.cs, No.settle_pv, No.pure_pv, No.cells_pv, No.cs, No.pv.eq_1, En.settle_pv, En.pure_pv, En.cells_pv, En.cs
set_option maxRecDepth 20000
-- TNAMES: int; uint8; int32; string; bool; []string; []api.Expr; api.Expr; api.Pos; api.Type; api.On; []api.On; api.Var; []api.Var; api.Equation; []api.Equation; api.Block; api.Trans; []api.Trans; api.Arm; []api.Arm; api.Node; []api.Node; api.Enum; []api.Enum; api.Program
set_option linter.defProp false
def Y3 := And.intro @slb (And.intro @tfA (And.intro @Ex.settle_pv (And.intro @Ex.pure_pv (And.intro @Ex.cells_pv (And.intro @Ex.cs.eq_1 (And.intro @On.pv.eq_1 (And.intro @Ty.pv.eq_1 (And.intro @Va.settle_pv (And.intro @Va.pure_pv (And.intro @Va.cells_pv (And.intro @Va.cs.eq_1 (And.intro @Qu.settle_pv (And.intro @Qu.pure_pv (And.intro @Qu.cells_pv (And.intro @Qu.cs.eq_1 (And.intro @Am.settle_pv (And.intro @Am.pure_pv (And.intro @Am.cells_pv (And.intro @Am.cs.eq_1 (And.intro @Tr.settle_pv (And.intro @Tr.pure_pv (And.intro @Tr.cells_pv (And.intro @Tr.cs.eq_1 (And.intro @No.settle_pv (And.intro @No.pure_pv (And.intro @No.cells_pv (And.intro @No.cs.eq_1 (And.intro @No.pv.eq_1 (And.intro @En.settle_pv (And.intro @En.pure_pv (And.intro @En.cells_pv @En.cs.eq_1)))))))))))))))))))))))))))))))

def smE (a b : En) : Bool := eqS a.name b.name && sameL eqS a.ctors b.ctors
def smT (a b : Tr) : Bool := eqS a.to b.to && (a.resume == b.resume) && a.e.same b.e
abbrev SbT := List Va → List Qu → List Va → List Qu → Bool
def smA (sb : SbT) (a b : Am) : Bool := eqS a.name b.name && sb a.vars a.eqs b.vars b.eqs && sameL smT a.unl b.unl && sameL smT a.til b.til
def smQ (sb : SbT) (a b : Qu) : Bool := (a.kind == b.kind) && sameL eqS a.lhs b.lhs && eqS a.name b.name && sameL Ex.same a.args b.args && (a.has == b.has) && a.e.same b.e && sameL (smA sb) a.arms b.arms
def smB (sb : SbT) : SbT := fun V Q V' Q' => sameL Va.same V V' && sameL (smQ sb) Q Q'
def smF : Nat → SbT
 | 0 => smB (fun _ _ _ _ => false)
 | d + 1 => smB (smF d)
def smN (d : Nat) (a b : No) : Bool := eqS a.name b.name && sameL Va.same a.ins b.ins && sameL Va.same a.outs b.outs && smF d a.b.vars a.b.eqs b.b.vars b.b.eqs
/-- How deep arms stand in a block. -/
def DpB : Nat → List Qu → Prop
 | 0, Q => ∀ q ∈ Q, q.arms = []
 | d + 1, Q => ∀ q ∈ Q, ∀ a ∈ q.arms, DpB d a.eqs
abbrev bkPV (V : List Va) (Q : List Qu) : PV := .ag [.sl .no (V.map Va.pv), .sl .no (Q.map Qu.pv)]

set_option maxHeartbeats 2000000 in
theorem sameTr_any (a b : Tr) (m : M) : ACalls Try.prog 112 [a.pv, b.pv] m (fun v m' => v = pB (smT a b) ∧ m' = m) := by
 have hsame : (smT a b) = (eqS a.to b.to && (a.resume == b.resume) && a.e.same b.e) := rfl
 refine ACalls.enter (mu := []) ok_mix Try.func112 rfl (by kernel_rfl) (by kernel_rfl) (by simp only [List.length_cons, List.length_nil, Try.ntmps112]; omega) ?_
 refine aSeq (fun X hX => ?_)
 refine aReg ?_; simp -implicitDefEqProofs only [↓slp, ↓reduceIte, jA, Y3]
 apply hX; clear hX X
 cases c1 : (a.to.toList == b.to.toList) with
 | false =>
  (repeat (first | refine aSeq fun X hX => ?_ | refine aRet ?_ | refine aReg ?_; simp -implicitDefEqProofs only [↓slp, ↓reduceIte, reduceCtorEq, jA, jB, jE, Y3, c1] | apply hX; clear hX X))
  simp only [aPost, Try.results112, aRes_n, aRes_t, aRes_c, pack_one, pack_two]
  refine leave_same rfl ⟨?_, rfl⟩
  have hv : (smT a b) = false := by rw [hsame]; simp [c1, eqS]
  rw [hv]; rfl
 | true =>
  cases c2 : (a.resume == b.resume) with
  | false =>
   (repeat (first | refine aSeq fun X hX => ?_ | refine aRet ?_ | refine aReg ?_; simp -implicitDefEqProofs only [↓slp, ↓reduceIte, reduceCtorEq, jA, jB, jE, Y3, c1, c2] | apply hX; clear hX X))
   simp only [aPost, Try.results112, aRes_n, aRes_t, aRes_c, pack_one, pack_two]
   refine leave_same rfl ⟨?_, rfl⟩
   have hv : (smT a b) = false := by rw [hsame]; simp [c1, c2, eqS]
   rw [hv]; rfl
  | true =>
   (repeat (first | refine aSeq fun X hX => ?_ | refine aReg ?_; simp -implicitDefEqProofs only [↓slp, ↓reduceIte, reduceCtorEq, jA, jB, jE, Y3, c1, c2]; try simp only [fo]))
   refine callE (sameExpr_any _ _ _) ?_
   cases c3 : (a.e.same b.e) with
   | false =>
    simp -implicitDefEqProofs only [↓slp, slb, ↓reduceIte, jA, pB]; try simp only [fo]
    (repeat (first | refine aRet ?_ | apply hX; clear hX X))
    simp only [aPost, Try.results112, aRes_n, aRes_t, aRes_c, pack_one, pack_two]
    refine leave_same rfl ⟨?_, rfl⟩
    have hv : (smT a b) = false := by rw [hsame]; simp [c1, c2, c3, eqS]
    rw [hv]; rfl
   | true =>
    simp -implicitDefEqProofs only [↓slp, slb, ↓reduceIte, jA, pB]; try simp only [fo]
    (repeat (first | refine aRet ?_ | apply hX; clear hX X))
    simp only [aPost, Try.results112, aRes_n, aRes_t, aRes_c, pack_one, pack_two]
    refine leave_same rfl ⟨?_, rfl⟩
    have hv : (smT a b) = true := by rw [hsame]; simp [c1, c2, c3, eqS]
    rw [hv]; rfl

set_option maxRecDepth 20000 in
set_option maxHeartbeats 400000 in
theorem eqFuncTr_any (o o' : Own) (l r : List Tr) (m : M) (hf : ∀ k (hk : k < l.length) (hk' : k < r.length) (m : M), ACalls Try.prog 112 [Tr.pv l[k], Tr.pv r[k]] m (fun v m' => v = pB (smT l[k] r[k]) ∧ m' = m)) :
    ACalls Try.prog 111 [.sl o (l.map Tr.pv), .sl o' (r.map Tr.pv), .fn (.func 112) [] []] m (fun v m' => v = pB (sameL smT l r) ∧ m' = m) := by
 refine ACalls.enter (mu := []) ok_mix Try.func111 rfl (by kernel_rfl) (by kernel_rfl) (by simp only [List.length_cons, List.length_nil, Try.ntmps111]; omega) ?_
 (repeat (first | refine aSeq fun X hX => ?_ | refine aReg ?_; simp -implicitDefEqProofs only [↓slp, ↓reduceIte, reduceCtorEq, jA, Y3] | apply hX; clear hX X | intro hlen; unfold maxLen at hlen))
 refine aIf ?_; simp -implicitDefEqProofs only [slb, ↓reduceIte]; refine ⟨fun hb => ?_, fun hb => ?_⟩
 ·(repeat (first | refine aSeq fun X hX => ?_ | refine aRet ?_; try simp only [slx, ↓reduceIte, jA, reduceCtorEq] | refine aReg ?_; simp -implicitDefEqProofs only [↓slp, slb] | apply hX; clear hX X))
  simp only [aPost, Try.results111, aRes_n, aRes_t, aRes_c, pack_one, pack_two]
  refine leave_same rfl ⟨?_, rfl⟩
  rw [sameL_ne (by simp at hb; omega)]; rfl
 have hl : l.length = r.length := by simp at hb; omega
 (repeat (first | refine aSeq fun X hX => ?_ | refine aBlk ?_ | refine aSkip ?_ | refine aReg ?_; simp -implicitDefEqProofs only [↓slp, ↓reduceIte, reduceCtorEq, Y3] | apply hX; clear hX X | intro hlen; unfold maxLen at hlen))
 obtain ⟨I, hI⟩ : ∃ I : F → M → Prop, ∀ f m', I f m' = (∃ k : Nat, k ≤ l.length ∧ f 1 = .sl o' (r.map Tr.pv) ∧ f 2 = .fn (.func 112) [] [] ∧ f 15 = .sl o (l.map Tr.pv) ∧ f 16 = pI l.length ∧ f 17 = pI k ∧ sameL smT l r = sameL smT (l.drop k) (r.drop k) ∧ m' = m) := ⟨_, fun _ _ => rfl⟩
 refine aLoop I (fun f m => l.length - numOf (f 17)) ?_ ?_
 ·rw [hI]; exact ⟨0, by omega, rfl, rfl, rfl, rfl, rfl, rfl, rfl⟩
 intro f m' hrel
 rw [hI] at hrel
 obtain ⟨k, hk, h1, h2, h15, h16, h17, hs, rfl⟩ := hrel
 (repeat (first | refine aSeq fun X hX => ?_ | refine aReg ?_; simp -implicitDefEqProofs only [↓slp, slb, ↓reduceIte, h16, h17, pI] | apply hX; clear hX X))
 refine aIf ?_; simp -implicitDefEqProofs only [slb, ↓reduceIte]; refine ⟨fun hb => ?_, fun hb => ?_⟩
 ·have hlt : k < l.length := by simpa using hb
  have hlt' : k < r.length := by omega
  have g0 := getD_map Tr.pv l k hlt
  have g1 := getD_map Tr.pv r k hlt'
  have hi : IntKind.i64.wrap ((k : Int) + 1) = ((k + 1 : Nat) : Int) := by rw [wrap64 (by omega)]; omega
  have hd := sameL_drop (R := smT) hlt hlt'
  (repeat (first | refine aSeq fun X hX => ?_ | refine aSkip ?_ | refine aReg ?_; simp -implicitDefEqProofs only [↓slp, ↓reduceIte, jA, jB, jE, jF, Y3, h1, h2, h15, h17, pI, g0, g1] | apply hX; clear hX X | apply And.intro; focus omega))
  refine callE (hf k hlt hlt' _) ?_
  simp -implicitDefEqProofs only [↓slp, slb, ↓reduceIte, h17, pI, pB]
  (repeat (apply hX; clear hX X))
  refine aIf ?_; simp -implicitDefEqProofs only [slb, ↓reduceIte]; refine ⟨fun hb => ?_, fun hb => ?_⟩
  ·(repeat (first | refine aSeq fun X hX => ?_ | refine aRet ?_; try simp only [slx, ↓reduceIte, jA, reduceCtorEq] | refine aReg ?_; simp -implicitDefEqProofs only [↓slp, slb] | apply hX; clear hX X))
   simp only [aPost, Try.results111, aRes_n, aRes_t, aRes_c, pack_one, pack_two]
   refine leave_same rfl ⟨?_, rfl⟩
   have : smT l[k] r[k] = false := by simpa using hb
   rw [hs, hd, this]; rfl
  ·have he : smT l[k] r[k] = true := by simpa using hb
   (repeat (first | refine aSkip ?_ | refine aReg ?_; simp -implicitDefEqProofs only [↓slp, slb, ↓reduceIte, jA, h17, pI, hi] | apply hX; clear hX X))
   rw [hI]
   refine ⟨⟨k + 1, hlt, h1, h2, h15, h16, rfl, by rw [hs, hd, he]; rfl, rfl⟩, ?_⟩
   first | omega | (simp only [↓slp, slb, ↓reduceIte, reduceCtorEq, jA, jB, jC, jD, jE, jF, jG, jH, jI, jJ, jK, h17, pI]; omega)
 ·have hlt : k = l.length := by simp at hb; omega
  subst hlt
  (repeat (first | refine aSeq fun X hX => ?_ | (first | refine aExit ?_ | refine aRet ?_); try simp only [slx, ↓reduceIte, jA, reduceCtorEq] | refine aReg ?_; simp -implicitDefEqProofs only [↓slp, slb] | apply hX; clear hX X | clear hX X; apply hX; clear hX X))
  simp only [aPost, Try.results111, aRes_n, aRes_t, aRes_c, pack_one, pack_two]
  refine leave_same rfl ⟨?_, rfl⟩
  rw [hs, sameL_end hl]; rfl


set_option maxRecDepth 20000 in
set_option maxHeartbeats 400000 in
theorem eqFuncVa_any (o o' : Own) (l r : List Va) (m : M) (hf : ∀ k (hk : k < l.length) (hk' : k < r.length) (m : M), ACalls Try.prog 18 [Va.pv l[k], Va.pv r[k]] m (fun v m' => v = pB (Va.same l[k] r[k]) ∧ m' = m)) :
    ACalls Try.prog 95 [.sl o (l.map Va.pv), .sl o' (r.map Va.pv), .fn (.func 18) [] []] m (fun v m' => v = pB (sameL Va.same l r) ∧ m' = m) := by
 refine ACalls.enter (mu := []) ok_mix Try.func95 rfl (by kernel_rfl) (by kernel_rfl) (by simp only [List.length_cons, List.length_nil, Try.ntmps95]; omega) ?_
 (repeat (first | refine aSeq fun X hX => ?_ | refine aReg ?_; simp -implicitDefEqProofs only [↓slp, ↓reduceIte, reduceCtorEq, jA, Y3] | apply hX; clear hX X | intro hlen; unfold maxLen at hlen))
 refine aIf ?_; simp -implicitDefEqProofs only [slb, ↓reduceIte]; refine ⟨fun hb => ?_, fun hb => ?_⟩
 ·(repeat (first | refine aSeq fun X hX => ?_ | refine aRet ?_; try simp only [slx, ↓reduceIte, jA, reduceCtorEq] | refine aReg ?_; simp -implicitDefEqProofs only [↓slp, slb] | apply hX; clear hX X))
  simp only [aPost, Try.results95, aRes_n, aRes_t, aRes_c, pack_one, pack_two]
  refine leave_same rfl ⟨?_, rfl⟩
  rw [sameL_ne (by simp at hb; omega)]; rfl
 have hl : l.length = r.length := by simp at hb; omega
 (repeat (first | refine aSeq fun X hX => ?_ | refine aBlk ?_ | refine aSkip ?_ | refine aReg ?_; simp -implicitDefEqProofs only [↓slp, ↓reduceIte, reduceCtorEq, Y3] | apply hX; clear hX X | intro hlen; unfold maxLen at hlen))
 obtain ⟨I, hI⟩ : ∃ I : F → M → Prop, ∀ f m', I f m' = (∃ k : Nat, k ≤ l.length ∧ f 1 = .sl o' (r.map Va.pv) ∧ f 2 = .fn (.func 18) [] [] ∧ f 15 = .sl o (l.map Va.pv) ∧ f 16 = pI l.length ∧ f 17 = pI k ∧ sameL Va.same l r = sameL Va.same (l.drop k) (r.drop k) ∧ m' = m) := ⟨_, fun _ _ => rfl⟩
 refine aLoop I (fun f m => l.length - numOf (f 17)) ?_ ?_
 ·rw [hI]; exact ⟨0, by omega, rfl, rfl, rfl, rfl, rfl, rfl, rfl⟩
 intro f m' hrel
 rw [hI] at hrel
 obtain ⟨k, hk, h1, h2, h15, h16, h17, hs, rfl⟩ := hrel
 (repeat (first | refine aSeq fun X hX => ?_ | refine aReg ?_; simp -implicitDefEqProofs only [↓slp, slb, ↓reduceIte, h16, h17, pI] | apply hX; clear hX X))
 refine aIf ?_; simp -implicitDefEqProofs only [slb, ↓reduceIte]; refine ⟨fun hb => ?_, fun hb => ?_⟩
 ·have hlt : k < l.length := by simpa using hb
  have hlt' : k < r.length := by omega
  have g0 := getD_map Va.pv l k hlt
  have g1 := getD_map Va.pv r k hlt'
  have hi : IntKind.i64.wrap ((k : Int) + 1) = ((k + 1 : Nat) : Int) := by rw [wrap64 (by omega)]; omega
  have hd := sameL_drop (R := Va.same) hlt hlt'
  (repeat (first | refine aSeq fun X hX => ?_ | refine aSkip ?_ | refine aReg ?_; simp -implicitDefEqProofs only [↓slp, ↓reduceIte, jA, jB, jE, jF, Y3, h1, h2, h15, h17, pI, g0, g1] | apply hX; clear hX X | apply And.intro; focus omega))
  refine callE (hf k hlt hlt' _) ?_
  simp -implicitDefEqProofs only [↓slp, slb, ↓reduceIte, h17, pI, pB]
  (repeat (apply hX; clear hX X))
  refine aIf ?_; simp -implicitDefEqProofs only [slb, ↓reduceIte]; refine ⟨fun hb => ?_, fun hb => ?_⟩
  ·(repeat (first | refine aSeq fun X hX => ?_ | refine aRet ?_; try simp only [slx, ↓reduceIte, jA, reduceCtorEq] | refine aReg ?_; simp -implicitDefEqProofs only [↓slp, slb] | apply hX; clear hX X))
   simp only [aPost, Try.results95, aRes_n, aRes_t, aRes_c, pack_one, pack_two]
   refine leave_same rfl ⟨?_, rfl⟩
   have : Va.same l[k] r[k] = false := by simpa using hb
   rw [hs, hd, this]; rfl
  ·have he : Va.same l[k] r[k] = true := by simpa using hb
   (repeat (first | refine aSkip ?_ | refine aReg ?_; simp -implicitDefEqProofs only [↓slp, slb, ↓reduceIte, jA, h17, pI, hi] | apply hX; clear hX X))
   rw [hI]
   refine ⟨⟨k + 1, hlt, h1, h2, h15, h16, rfl, by rw [hs, hd, he]; rfl, rfl⟩, ?_⟩
   first | omega | (simp only [↓slp, slb, ↓reduceIte, reduceCtorEq, jA, jB, jC, jD, jE, jF, jG, jH, jI, jJ, jK, h17, pI]; omega)
 ·have hlt : k = l.length := by simp at hb; omega
  subst hlt
  (repeat (first | refine aSeq fun X hX => ?_ | (first | refine aExit ?_ | refine aRet ?_); try simp only [slx, ↓reduceIte, jA, reduceCtorEq] | refine aReg ?_; simp -implicitDefEqProofs only [↓slp, slb] | apply hX; clear hX X | clear hX X; apply hX; clear hX X))
  simp only [aPost, Try.results95, aRes_n, aRes_t, aRes_c, pack_one, pack_two]
  refine leave_same rfl ⟨?_, rfl⟩
  rw [hs, sameL_end hl]; rfl

set_option maxHeartbeats 2000000 in
theorem sameArm_step {sb : SbT} (a b : Am) (hb : ∀ m : M, ACalls Try.prog 48 [bkPV a.vars a.eqs, bkPV b.vars b.eqs] m (fun v m' => v = pB (sb a.vars a.eqs b.vars b.eqs) ∧ m' = m)) (m : M) : ACalls Try.prog 94 [a.pv, b.pv] m (fun v m' => v = pB (smA sb a b) ∧ m' = m) := by
 have hsame : (smA sb a b) = (eqS a.name b.name && sb a.vars a.eqs b.vars b.eqs && sameL smT a.unl b.unl && sameL smT a.til b.til) := rfl
 refine ACalls.enter (mu := []) ok_mix Try.func94 rfl (by kernel_rfl) (by kernel_rfl) (by simp only [List.length_cons, List.length_nil, Try.ntmps94]; omega) ?_
 refine aSeq (fun X hX => ?_)
 refine aReg ?_; simp -implicitDefEqProofs only [↓slp, ↓reduceIte, jA, Y3]
 apply hX; clear hX X
 cases c1 : (a.name.toList == b.name.toList) with
 | false =>
  (repeat (first | refine aSeq fun X hX => ?_ | refine aRet ?_ | refine aReg ?_; simp -implicitDefEqProofs only [↓slp, ↓reduceIte, reduceCtorEq, jA, jB, jE, Y3, c1] | apply hX; clear hX X))
  simp only [aPost, Try.results94, aRes_n, aRes_t, aRes_c, pack_one, pack_two]
  refine leave_same rfl ⟨?_, rfl⟩
  have hv : (smA sb a b) = false := by rw [hsame]; simp [c1, eqS]
  rw [hv]; rfl
 | true =>
  (repeat (first | refine aSeq fun X hX => ?_ | refine aReg ?_; simp -implicitDefEqProofs only [↓slp, ↓reduceIte, reduceCtorEq, jA, jB, jE, Y3, c1]))
  refine callE (hb _) ?_
  cases c2 : (sb a.vars a.eqs b.vars b.eqs) with
  | false =>
   simp -implicitDefEqProofs only [↓slp, slb, ↓reduceIte, jA, pB]
   (repeat (first | refine aRet ?_ | apply hX; clear hX X))
   simp only [aPost, Try.results94, aRes_n, aRes_t, aRes_c, pack_one, pack_two]
   refine leave_same rfl ⟨?_, rfl⟩
   have hv : (smA sb a b) = false := by rw [hsame]; simp [c1, c2, eqS]
   rw [hv]; rfl
  | true =>
   simp -implicitDefEqProofs only [↓slp, ↓reduceIte, reduceCtorEq, jA, jB, jE, Y3]
   (repeat (refine And.intro (by first | assumption | omega) ?_))
   refine callE (eqFuncTr_any _ _ _ _ _ (fun k _ _ m => sameTr_any _ _ m)) ?_
   cases c3 : (sameL smT a.unl b.unl) with
   | false =>
    simp -implicitDefEqProofs only [↓slp, slb, ↓reduceIte, jA, pB]
    (repeat (first | refine aRet ?_ | apply hX; clear hX X))
    simp only [aPost, Try.results94, aRes_n, aRes_t, aRes_c, pack_one, pack_two]
    refine leave_same rfl ⟨?_, rfl⟩
    have hv : (smA sb a b) = false := by rw [hsame]; simp [c1, c2, c3, eqS]
    rw [hv]; rfl
   | true =>
    simp -implicitDefEqProofs only [↓slp, ↓reduceIte, reduceCtorEq, jA, jB, jE, Y3]
    (repeat (refine And.intro (by first | assumption | omega) ?_))
    refine callE (eqFuncTr_any _ _ _ _ _ (fun k _ _ m => sameTr_any _ _ m)) ?_
    cases c4 : (sameL smT a.til b.til) with
    | false =>
     simp -implicitDefEqProofs only [↓slp, slb, ↓reduceIte, jA, pB]
     (repeat (first | refine aRet ?_ | apply hX; clear hX X))
     simp only [aPost, Try.results94, aRes_n, aRes_t, aRes_c, pack_one, pack_two]
     refine leave_same rfl ⟨?_, rfl⟩
     have hv : (smA sb a b) = false := by rw [hsame]; simp [c1, c2, c3, c4, eqS]
     rw [hv]; rfl
    | true =>
     simp -implicitDefEqProofs only [↓slp, slb, ↓reduceIte, jA, pB]
     (repeat (first | refine aRet ?_ | apply hX; clear hX X))
     simp only [aPost, Try.results94, aRes_n, aRes_t, aRes_c, pack_one, pack_two]
     refine leave_same rfl ⟨?_, rfl⟩
     have hv : (smA sb a b) = true := by rw [hsame]; simp [c1, c2, c3, c4, eqS]
     rw [hv]; rfl

set_option maxRecDepth 20000 in
set_option maxHeartbeats 400000 in
theorem eqFuncAm_any {sb : SbT} (o o' : Own) (l r : List Am) (m : M) (hf : ∀ k (hk : k < l.length) (hk' : k < r.length) (m : M), ACalls Try.prog 94 [Am.pv l[k], Am.pv r[k]] m (fun v m' => v = pB ((smA sb) l[k] r[k]) ∧ m' = m)) :
    ACalls Try.prog 93 [.sl o (l.map Am.pv), .sl o' (r.map Am.pv), .fn (.func 94) [] []] m (fun v m' => v = pB (sameL (smA sb) l r) ∧ m' = m) := by
 refine ACalls.enter (mu := []) ok_mix Try.func93 rfl (by kernel_rfl) (by kernel_rfl) (by simp only [List.length_cons, List.length_nil, Try.ntmps93]; omega) ?_
 (repeat (first | refine aSeq fun X hX => ?_ | refine aReg ?_; simp -implicitDefEqProofs only [↓slp, ↓reduceIte, reduceCtorEq, jA, Y3] | apply hX; clear hX X | intro hlen; unfold maxLen at hlen))
 refine aIf ?_; simp -implicitDefEqProofs only [slb, ↓reduceIte]; refine ⟨fun hb => ?_, fun hb => ?_⟩
 ·(repeat (first | refine aSeq fun X hX => ?_ | refine aRet ?_; try simp only [slx, ↓reduceIte, jA, reduceCtorEq] | refine aReg ?_; simp -implicitDefEqProofs only [↓slp, slb] | apply hX; clear hX X))
  simp only [aPost, Try.results93, aRes_n, aRes_t, aRes_c, pack_one, pack_two]
  refine leave_same rfl ⟨?_, rfl⟩
  rw [sameL_ne (by simp at hb; omega)]; rfl
 have hl : l.length = r.length := by simp at hb; omega
 (repeat (first | refine aSeq fun X hX => ?_ | refine aBlk ?_ | refine aSkip ?_ | refine aReg ?_; simp -implicitDefEqProofs only [↓slp, ↓reduceIte, reduceCtorEq, Y3] | apply hX; clear hX X | intro hlen; unfold maxLen at hlen))
 obtain ⟨I, hI⟩ : ∃ I : F → M → Prop, ∀ f m', I f m' = (∃ k : Nat, k ≤ l.length ∧ f 1 = .sl o' (r.map Am.pv) ∧ f 2 = .fn (.func 94) [] [] ∧ f 15 = .sl o (l.map Am.pv) ∧ f 16 = pI l.length ∧ f 17 = pI k ∧ sameL (smA sb) l r = sameL (smA sb) (l.drop k) (r.drop k) ∧ m' = m) := ⟨_, fun _ _ => rfl⟩
 refine aLoop I (fun f m => l.length - numOf (f 17)) ?_ ?_
 ·rw [hI]; exact ⟨0, by omega, rfl, rfl, rfl, rfl, rfl, rfl, rfl⟩
 intro f m' hrel
 rw [hI] at hrel
 obtain ⟨k, hk, h1, h2, h15, h16, h17, hs, rfl⟩ := hrel
 (repeat (first | refine aSeq fun X hX => ?_ | refine aReg ?_; simp -implicitDefEqProofs only [↓slp, slb, ↓reduceIte, h16, h17, pI] | apply hX; clear hX X))
 refine aIf ?_; simp -implicitDefEqProofs only [slb, ↓reduceIte]; refine ⟨fun hb => ?_, fun hb => ?_⟩
 ·have hlt : k < l.length := by simpa using hb
  have hlt' : k < r.length := by omega
  have g0 := getD_map Am.pv l k hlt
  have g1 := getD_map Am.pv r k hlt'
  have hi : IntKind.i64.wrap ((k : Int) + 1) = ((k + 1 : Nat) : Int) := by rw [wrap64 (by omega)]; omega
  have hd := sameL_drop (R := (smA sb)) hlt hlt'
  (repeat (first | refine aSeq fun X hX => ?_ | refine aSkip ?_ | refine aReg ?_; simp -implicitDefEqProofs only [↓slp, ↓reduceIte, jA, jB, jE, jF, Y3, h1, h2, h15, h17, pI, g0, g1] | apply hX; clear hX X | apply And.intro; focus omega))
  have hfk := hf k hlt hlt' m'
  rw [Am.pv_eq, Am.pv_eq] at hfk
  refine callE hfk ?_
  simp -implicitDefEqProofs only [↓slp, slb, ↓reduceIte, h17, pI, pB]
  (repeat (apply hX; clear hX X))
  refine aIf ?_; simp -implicitDefEqProofs only [slb, ↓reduceIte]; refine ⟨fun hb => ?_, fun hb => ?_⟩
  ·(repeat (first | refine aSeq fun X hX => ?_ | refine aRet ?_; try simp only [slx, ↓reduceIte, jA, reduceCtorEq] | refine aReg ?_; simp -implicitDefEqProofs only [↓slp, slb] | apply hX; clear hX X))
   simp only [aPost, Try.results93, aRes_n, aRes_t, aRes_c, pack_one, pack_two]
   refine leave_same rfl ⟨?_, rfl⟩
   have : (smA sb) l[k] r[k] = false := by simpa using hb
   rw [hs, hd, this]; rfl
  ·have he : (smA sb) l[k] r[k] = true := by simpa using hb
   (repeat (first | refine aSkip ?_ | refine aReg ?_; simp -implicitDefEqProofs only [↓slp, slb, ↓reduceIte, jA, h17, pI, hi] | apply hX; clear hX X))
   rw [hI]
   refine ⟨⟨k + 1, hlt, h1, h2, h15, h16, rfl, by rw [hs, hd, he]; rfl, rfl⟩, ?_⟩
   first | omega | (simp only [↓slp, slb, ↓reduceIte, reduceCtorEq, jA, jB, jC, jD, jE, jF, jG, jH, jI, jJ, jK, h17, pI]; omega)
 ·have hlt : k = l.length := by simp at hb; omega
  subst hlt
  (repeat (first | refine aSeq fun X hX => ?_ | (first | refine aExit ?_ | refine aRet ?_); try simp only [slx, ↓reduceIte, jA, reduceCtorEq] | refine aReg ?_; simp -implicitDefEqProofs only [↓slp, slb] | apply hX; clear hX X | clear hX X; apply hX; clear hX X))
  simp only [aPost, Try.results93, aRes_n, aRes_t, aRes_c, pack_one, pack_two]
  refine leave_same rfl ⟨?_, rfl⟩
  rw [hs, sameL_end hl]; rfl

set_option maxHeartbeats 2000000 in
theorem sameEq_step {sb : SbT} (a b : Qu) (hA : ∀ x ∈ a.arms, ∀ (y : Am) (m : M), ACalls Try.prog 94 [x.pv, y.pv] m (fun v m' => v = pB (smA sb x y) ∧ m' = m)) (m : M) : ACalls Try.prog 47 [a.pv, b.pv] m (fun v m' => v = pB (smQ sb a b) ∧ m' = m) := by
 have hsame : (smQ sb a b) = ((a.kind == b.kind) && sameL eqS a.lhs b.lhs && eqS a.name b.name && sameL Ex.same a.args b.args && (a.has == b.has) && a.e.same b.e && sameL (smA sb) a.arms b.arms) := rfl
 refine ACalls.enter (mu := []) ok_mix Try.func47 rfl (by kernel_rfl) (by kernel_rfl) (by simp only [List.length_cons, List.length_nil, Try.ntmps47]; omega) ?_
 refine aSeq (fun X hX => ?_)
 refine aReg ?_; simp -implicitDefEqProofs only [↓slp, ↓reduceIte, jA, Y3]
 apply hX; clear hX X
 cases c1 : (a.kind == b.kind) with
 | false =>
  (repeat (first | refine aSeq fun X hX => ?_ | refine aRet ?_ | refine aReg ?_; simp -implicitDefEqProofs only [↓slp, ↓reduceIte, reduceCtorEq, jA, jB, jE, Y3, c1] | apply hX; clear hX X))
  simp only [aPost, Try.results47, aRes_n, aRes_t, aRes_c, pack_one, pack_two]
  refine leave_same rfl ⟨?_, rfl⟩
  have hv : (smQ sb a b) = false := by rw [hsame]; simp [c1, eqS]
  rw [hv]; rfl
 | true =>
  (repeat (first | refine aSeq fun X hX => ?_ | refine aReg ?_; simp -implicitDefEqProofs only [↓slp, ↓reduceIte, reduceCtorEq, jA, jB, jE, Y3, c1]))
  refine callE (equalS_any _ _ _ _ _) ?_
  cases c2 : (sameL eqS a.lhs b.lhs) with
  | false =>
   simp -implicitDefEqProofs only [↓slp, slb, ↓reduceIte, jA, pB]
   (repeat (first | refine aRet ?_ | apply hX; clear hX X))
   simp only [aPost, Try.results47, aRes_n, aRes_t, aRes_c, pack_one, pack_two]
   refine leave_same rfl ⟨?_, rfl⟩
   have hv : (smQ sb a b) = false := by rw [hsame]; simp [c1, c2, eqS]
   rw [hv]; rfl
  | true =>
   cases c3 : (a.name.toList == b.name.toList) with
   | false =>
    simp -implicitDefEqProofs only [↓slp, ↓reduceIte, reduceCtorEq, jA, jB, jE, Y3, c3, pB]
    (repeat (first | refine aRet ?_ | apply hX; clear hX X))
    simp only [aPost, Try.results47, aRes_n, aRes_t, aRes_c, pack_one, pack_two]
    refine leave_same rfl ⟨?_, rfl⟩
    have hv : (smQ sb a b) = false := by rw [hsame]; simp [c1, c2, c3, eqS]
    rw [hv]; rfl
   | true =>
    simp -implicitDefEqProofs only [↓slp, ↓reduceIte, reduceCtorEq, jA, jB, jE, Y3, c3]
    (repeat (refine And.intro (by first | assumption | omega) ?_))
    refine callE (eqFuncEx_any _ _ _ _ _ (fun k _ _ m => sameExpr_any _ _ m)) ?_
    cases c4 : (sameL Ex.same a.args b.args) with
    | false =>
     simp -implicitDefEqProofs only [↓slp, slb, ↓reduceIte, jA, pB]
     (repeat (first | refine aRet ?_ | apply hX; clear hX X))
     simp only [aPost, Try.results47, aRes_n, aRes_t, aRes_c, pack_one, pack_two]
     refine leave_same rfl ⟨?_, rfl⟩
     have hv : (smQ sb a b) = false := by rw [hsame]; simp [c1, c2, c3, c4, eqS]
     rw [hv]; rfl
    | true =>
     cases c5 : (a.has == b.has) with
     | false =>
      simp -implicitDefEqProofs only [↓slp, ↓reduceIte, reduceCtorEq, jA, jB, jE, Y3, c5, pB]
      (repeat (first | refine aRet ?_ | apply hX; clear hX X))
      simp only [aPost, Try.results47, aRes_n, aRes_t, aRes_c, pack_one, pack_two]
      refine leave_same rfl ⟨?_, rfl⟩
      have hv : (smQ sb a b) = false := by rw [hsame]; simp [c1, c2, c3, c4, c5, eqS]
      rw [hv]; rfl
     | true =>
      simp -implicitDefEqProofs only [↓slp, ↓reduceIte, reduceCtorEq, jA, jB, jE, Y3, c5]; try simp only [fo]
      (repeat (refine And.intro (by first | assumption | omega) ?_))
      refine callE (sameExpr_any _ _ _) ?_
      cases c6 : (a.e.same b.e) with
      | false =>
       simp -implicitDefEqProofs only [↓slp, slb, ↓reduceIte, jA, pB]; try simp only [fo]
       (repeat (first | refine aRet ?_ | apply hX; clear hX X))
       simp only [aPost, Try.results47, aRes_n, aRes_t, aRes_c, pack_one, pack_two]
       refine leave_same rfl ⟨?_, rfl⟩
       have hv : (smQ sb a b) = false := by rw [hsame]; simp [c1, c2, c3, c4, c5, c6, eqS]
       rw [hv]; rfl
      | true =>
       simp -implicitDefEqProofs only [↓slp, ↓reduceIte, reduceCtorEq, jA, jB, jE, Y3]
       (repeat (refine And.intro (by first | assumption | omega) ?_))
       refine callE (eqFuncAm_any _ _ _ _ _ (fun k hk _ m => hA _ (List.getElem_mem hk) _ m)) ?_
       cases c7 : (sameL (smA sb) a.arms b.arms) with
       | false =>
        simp -implicitDefEqProofs only [↓slp, slb, ↓reduceIte, jA, pB]; try simp only [fo]
        (repeat (first | refine aRet ?_ | apply hX; clear hX X))
        simp only [aPost, Try.results47, aRes_n, aRes_t, aRes_c, pack_one, pack_two]
        refine leave_same rfl ⟨?_, rfl⟩
        have hv : (smQ sb a b) = false := by rw [hsame]; simp [c1, c2, c3, c4, c5, c6, c7, eqS]
        rw [hv]; rfl
       | true =>
        simp -implicitDefEqProofs only [↓slp, slb, ↓reduceIte, jA, pB]; try simp only [fo]
        (repeat (first | refine aRet ?_ | apply hX; clear hX X))
        simp only [aPost, Try.results47, aRes_n, aRes_t, aRes_c, pack_one, pack_two]
        refine leave_same rfl ⟨?_, rfl⟩
        have hv : (smQ sb a b) = true := by rw [hsame]; simp [c1, c2, c3, c4, c5, c6, c7, eqS]
        rw [hv]; rfl

set_option maxRecDepth 20000 in
set_option maxHeartbeats 400000 in
theorem eqFuncQu_any {sb : SbT} (o o' : Own) (l r : List Qu) (m : M) (hf : ∀ k (hk : k < l.length) (hk' : k < r.length) (m : M), ACalls Try.prog 47 [Qu.pv l[k], Qu.pv r[k]] m (fun v m' => v = pB ((smQ sb) l[k] r[k]) ∧ m' = m)) :
    ACalls Try.prog 96 [.sl o (l.map Qu.pv), .sl o' (r.map Qu.pv), .fn (.func 47) [] []] m (fun v m' => v = pB (sameL (smQ sb) l r) ∧ m' = m) := by
 refine ACalls.enter (mu := []) ok_mix Try.func96 rfl (by kernel_rfl) (by kernel_rfl) (by simp only [List.length_cons, List.length_nil, Try.ntmps96]; omega) ?_
 (repeat (first | refine aSeq fun X hX => ?_ | refine aReg ?_; simp -implicitDefEqProofs only [↓slp, ↓reduceIte, reduceCtorEq, jA, Y3] | apply hX; clear hX X | intro hlen; unfold maxLen at hlen))
 refine aIf ?_; simp -implicitDefEqProofs only [slb, ↓reduceIte]; refine ⟨fun hb => ?_, fun hb => ?_⟩
 ·(repeat (first | refine aSeq fun X hX => ?_ | refine aRet ?_; try simp only [slx, ↓reduceIte, jA, reduceCtorEq] | refine aReg ?_; simp -implicitDefEqProofs only [↓slp, slb] | apply hX; clear hX X))
  simp only [aPost, Try.results96, aRes_n, aRes_t, aRes_c, pack_one, pack_two]
  refine leave_same rfl ⟨?_, rfl⟩
  rw [sameL_ne (by simp at hb; omega)]; rfl
 have hl : l.length = r.length := by simp at hb; omega
 (repeat (first | refine aSeq fun X hX => ?_ | refine aBlk ?_ | refine aSkip ?_ | refine aReg ?_; simp -implicitDefEqProofs only [↓slp, ↓reduceIte, reduceCtorEq, Y3] | apply hX; clear hX X | intro hlen; unfold maxLen at hlen))
 obtain ⟨I, hI⟩ : ∃ I : F → M → Prop, ∀ f m', I f m' = (∃ k : Nat, k ≤ l.length ∧ f 1 = .sl o' (r.map Qu.pv) ∧ f 2 = .fn (.func 47) [] [] ∧ f 15 = .sl o (l.map Qu.pv) ∧ f 16 = pI l.length ∧ f 17 = pI k ∧ sameL (smQ sb) l r = sameL (smQ sb) (l.drop k) (r.drop k) ∧ m' = m) := ⟨_, fun _ _ => rfl⟩
 refine aLoop I (fun f m => l.length - numOf (f 17)) ?_ ?_
 ·rw [hI]; exact ⟨0, by omega, rfl, rfl, rfl, rfl, rfl, rfl, rfl⟩
 intro f m' hrel
 rw [hI] at hrel
 obtain ⟨k, hk, h1, h2, h15, h16, h17, hs, rfl⟩ := hrel
 (repeat (first | refine aSeq fun X hX => ?_ | refine aReg ?_; simp -implicitDefEqProofs only [↓slp, slb, ↓reduceIte, h16, h17, pI] | apply hX; clear hX X))
 refine aIf ?_; simp -implicitDefEqProofs only [slb, ↓reduceIte]; refine ⟨fun hb => ?_, fun hb => ?_⟩
 ·have hlt : k < l.length := by simpa using hb
  have hlt' : k < r.length := by omega
  have g0 := getD_map Qu.pv l k hlt
  have g1 := getD_map Qu.pv r k hlt'
  have hi : IntKind.i64.wrap ((k : Int) + 1) = ((k + 1 : Nat) : Int) := by rw [wrap64 (by omega)]; omega
  have hd := sameL_drop (R := (smQ sb)) hlt hlt'
  (repeat (first | refine aSeq fun X hX => ?_ | refine aSkip ?_ | refine aReg ?_; simp -implicitDefEqProofs only [↓slp, ↓reduceIte, jA, jB, jE, jF, Y3, h1, h2, h15, h17, pI, g0, g1] | apply hX; clear hX X | apply And.intro; focus omega))
  have hfk := hf k hlt hlt' m'
  rw [Qu.pv_eq, Qu.pv_eq] at hfk
  refine callE hfk ?_
  simp -implicitDefEqProofs only [↓slp, slb, ↓reduceIte, h17, pI, pB]
  (repeat (apply hX; clear hX X))
  refine aIf ?_; simp -implicitDefEqProofs only [slb, ↓reduceIte]; refine ⟨fun hb => ?_, fun hb => ?_⟩
  ·(repeat (first | refine aSeq fun X hX => ?_ | refine aRet ?_; try simp only [slx, ↓reduceIte, jA, reduceCtorEq] | refine aReg ?_; simp -implicitDefEqProofs only [↓slp, slb] | apply hX; clear hX X))
   simp only [aPost, Try.results96, aRes_n, aRes_t, aRes_c, pack_one, pack_two]
   refine leave_same rfl ⟨?_, rfl⟩
   have : (smQ sb) l[k] r[k] = false := by simpa using hb
   rw [hs, hd, this]; rfl
  ·have he : (smQ sb) l[k] r[k] = true := by simpa using hb
   (repeat (first | refine aSkip ?_ | refine aReg ?_; simp -implicitDefEqProofs only [↓slp, slb, ↓reduceIte, jA, h17, pI, hi] | apply hX; clear hX X))
   rw [hI]
   refine ⟨⟨k + 1, hlt, h1, h2, h15, h16, rfl, by rw [hs, hd, he]; rfl, rfl⟩, ?_⟩
   first | omega | (simp only [↓slp, slb, ↓reduceIte, reduceCtorEq, jA, jB, jC, jD, jE, jF, jG, jH, jI, jJ, jK, h17, pI]; omega)
 ·have hlt : k = l.length := by simp at hb; omega
  subst hlt
  (repeat (first | refine aSeq fun X hX => ?_ | (first | refine aExit ?_ | refine aRet ?_); try simp only [slx, ↓reduceIte, jA, reduceCtorEq] | refine aReg ?_; simp -implicitDefEqProofs only [↓slp, slb] | apply hX; clear hX X | clear hX X; apply hX; clear hX X))
  simp only [aPost, Try.results96, aRes_n, aRes_t, aRes_c, pack_one, pack_two]
  refine leave_same rfl ⟨?_, rfl⟩
  rw [hs, sameL_end hl]; rfl

set_option maxHeartbeats 2000000 in
theorem sameBlock_step {sb : SbT} (V : List Va) (Q : List Qu) (V' : List Va) (Q' : List Qu) (hQ : ∀ x ∈ Q, ∀ (y : Qu) (m : M), ACalls Try.prog 47 [x.pv, y.pv] m (fun v m' => v = pB (smQ sb x y) ∧ m' = m)) (m : M) : ACalls Try.prog 48 [bkPV V Q, bkPV V' Q'] m (fun v m' => v = pB (smB sb V Q V' Q') ∧ m' = m) := by
 have hsame : (smB sb V Q V' Q') = (sameL Va.same V V' && sameL (smQ sb) Q Q') := rfl
 refine ACalls.enter (mu := []) ok_mix Try.func48 rfl (by kernel_rfl) (by kernel_rfl) (by simp only [List.length_cons, List.length_nil, Try.ntmps48]; omega) ?_
 refine aSeq (fun X hX => ?_)
 refine aReg ?_; simp -implicitDefEqProofs only [↓slp, slb, ↓reduceIte, jA]
 apply hX; clear hX X
 (repeat (first | refine aSeq fun X hX => ?_ | refine aReg ?_; simp -implicitDefEqProofs only [↓slp, ↓reduceIte, reduceCtorEq, jA, jB, jE, Y3]))
 refine callE (eqFuncVa_any _ _ _ _ _ (fun k _ _ m => sameVar_any _ _ m)) ?_
 cases c1 : (sameL Va.same V V') with
 | false =>
  simp -implicitDefEqProofs only [↓slp, slb, ↓reduceIte, jA, pB]
  (repeat (first | refine aRet ?_ | apply hX; clear hX X))
  simp only [aPost, Try.results48, aRes_n, aRes_t, aRes_c, pack_one, pack_two]
  refine leave_same rfl ⟨?_, rfl⟩
  have hv : (smB sb V Q V' Q') = false := by rw [hsame]; simp [c1, eqS]
  rw [hv]; rfl
 | true =>
  simp -implicitDefEqProofs only [↓slp, ↓reduceIte, reduceCtorEq, jA, jB, jE, Y3]
  (repeat (refine And.intro (by first | assumption | omega) ?_))
  refine callE (eqFuncQu_any _ _ _ _ _ (fun k hk _ m => hQ _ (List.getElem_mem hk) _ m)) ?_
  cases c2 : (sameL (smQ sb) Q Q') with
  | false =>
   simp -implicitDefEqProofs only [↓slp, slb, ↓reduceIte, jA, pB]
   (repeat (first | refine aRet ?_ | apply hX; clear hX X))
   simp only [aPost, Try.results48, aRes_n, aRes_t, aRes_c, pack_one, pack_two]
   refine leave_same rfl ⟨?_, rfl⟩
   have hv : (smB sb V Q V' Q') = false := by rw [hsame]; simp [c1, c2, eqS]
   rw [hv]; rfl
  | true =>
   simp -implicitDefEqProofs only [↓slp, slb, ↓reduceIte, jA, pB]
   (repeat (first | refine aRet ?_ | apply hX; clear hX X))
   simp only [aPost, Try.results48, aRes_n, aRes_t, aRes_c, pack_one, pack_two]
   refine leave_same rfl ⟨?_, rfl⟩
   have hv : (smB sb V Q V' Q') = true := by rw [hsame]; simp [c1, c2, eqS]
   rw [hv]; rfl
theorem sameBlock_any : ∀ (d : Nat) (V : List Va) (Q : List Qu), DpB d Q → ∀ (V' : List Va) (Q' : List Qu) (m : M), ACalls Try.prog 48 [bkPV V Q, bkPV V' Q'] m (fun v m' => v = pB (smF d V Q V' Q') ∧ m' = m)
 | 0, V, Q, h, V', Q', m => sameBlock_step V Q V' Q' (fun x hx y m => sameEq_step x y (fun z hz => by rw [h x hx] at hz; cases hz) m) m
 | d + 1, V, Q, h, V', Q', m => sameBlock_step V Q V' Q' (fun x hx y m => sameEq_step x y (fun z hz w m => sameArm_step z w (fun m => sameBlock_any d z.vars z.eqs (h x hx z hz) w.vars w.eqs m) m) m) m
theorem sameEq_any (d : Nat) (a b : Qu) (h : ∀ x ∈ a.arms, DpB d x.eqs) (m : M) : ACalls Try.prog 47 [a.pv, b.pv] m (fun v m' => v = pB (smQ (smF d) a b) ∧ m' = m) :=
 sameEq_step a b (fun z hz w m => sameArm_step z w (fun m => sameBlock_any d z.vars z.eqs (h z hz) w.vars w.eqs m) m) m

set_option maxHeartbeats 2000000 in
theorem sameNode_any {d : Nat} (a b : No) (h : DpB d a.b.eqs) (m : M) : ACalls Try.prog 50 [a.pv, b.pv] m (fun v m' => v = pB (smN d a b) ∧ m' = m) := by
 have hsame : (smN d a b) = (eqS a.name b.name && sameL Va.same a.ins b.ins && sameL Va.same a.outs b.outs && smF d a.b.vars a.b.eqs b.b.vars b.b.eqs) := rfl
 refine ACalls.enter (mu := []) ok_mix Try.func50 rfl (by kernel_rfl) (by kernel_rfl) (by simp only [List.length_cons, List.length_nil, Try.ntmps50]; omega) ?_
 refine aSeq (fun X hX => ?_)
 refine aReg ?_; simp -implicitDefEqProofs only [↓slp, ↓reduceIte, jA, Y3]
 apply hX; clear hX X
 cases c1 : (a.name.toList == b.name.toList) with
 | false =>
  (repeat (first | refine aSeq fun X hX => ?_ | refine aRet ?_ | refine aReg ?_; simp -implicitDefEqProofs only [↓slp, ↓reduceIte, reduceCtorEq, jA, jB, jE, Y3, c1] | apply hX; clear hX X))
  simp only [aPost, Try.results50, aRes_n, aRes_t, aRes_c, pack_one, pack_two]
  refine leave_same rfl ⟨?_, rfl⟩
  have hv : (smN d a b) = false := by rw [hsame]; simp [c1, eqS]
  rw [hv]; rfl
 | true =>
  (repeat (first | refine aSeq fun X hX => ?_ | refine aReg ?_; simp -implicitDefEqProofs only [↓slp, ↓reduceIte, reduceCtorEq, jA, jB, jE, Y3, c1]))
  refine callE (eqFuncVa_any _ _ _ _ _ (fun k _ _ m => sameVar_any _ _ m)) ?_
  cases c2 : (sameL Va.same a.ins b.ins) with
  | false =>
   simp -implicitDefEqProofs only [↓slp, slb, ↓reduceIte, jA, pB]
   (repeat (first | refine aRet ?_ | apply hX; clear hX X))
   simp only [aPost, Try.results50, aRes_n, aRes_t, aRes_c, pack_one, pack_two]
   refine leave_same rfl ⟨?_, rfl⟩
   have hv : (smN d a b) = false := by rw [hsame]; simp [c1, c2, eqS]
   rw [hv]; rfl
  | true =>
   simp -implicitDefEqProofs only [↓slp, ↓reduceIte, reduceCtorEq, jA, jB, jE, Y3]
   (repeat (refine And.intro (by first | assumption | omega) ?_))
   refine callE (eqFuncVa_any _ _ _ _ _ (fun k _ _ m => sameVar_any _ _ m)) ?_
   cases c3 : (sameL Va.same a.outs b.outs) with
   | false =>
    simp -implicitDefEqProofs only [↓slp, slb, ↓reduceIte, jA, pB]
    (repeat (first | refine aRet ?_ | apply hX; clear hX X))
    simp only [aPost, Try.results50, aRes_n, aRes_t, aRes_c, pack_one, pack_two]
    refine leave_same rfl ⟨?_, rfl⟩
    have hv : (smN d a b) = false := by rw [hsame]; simp [c1, c2, c3, eqS]
    rw [hv]; rfl
   | true =>
    simp -implicitDefEqProofs only [↓slp, ↓reduceIte, reduceCtorEq, jA, jB, jE, Y3]
    (repeat (refine And.intro (by first | assumption | omega) ?_))
    refine callE (sameBlock_any d a.b.vars a.b.eqs h b.b.vars b.b.eqs _) ?_
    cases c4 : (smF d a.b.vars a.b.eqs b.b.vars b.b.eqs) with
    | false =>
     simp -implicitDefEqProofs only [↓slp, slb, ↓reduceIte, jA, pB]
     (repeat (first | refine aRet ?_ | apply hX; clear hX X))
     simp only [aPost, Try.results50, aRes_n, aRes_t, aRes_c, pack_one, pack_two]
     refine leave_same rfl ⟨?_, rfl⟩
     have hv : (smN d a b) = false := by rw [hsame]; simp [c1, c2, c3, c4, eqS]
     rw [hv]; rfl
    | true =>
     simp -implicitDefEqProofs only [↓slp, slb, ↓reduceIte, jA, pB]
     (repeat (first | refine aRet ?_ | apply hX; clear hX X))
     simp only [aPost, Try.results50, aRes_n, aRes_t, aRes_c, pack_one, pack_two]
     refine leave_same rfl ⟨?_, rfl⟩
     have hv : (smN d a b) = true := by rw [hsame]; simp [c1, c2, c3, c4, eqS]
     rw [hv]; rfl

set_option maxRecDepth 20000 in
set_option maxHeartbeats 400000 in
theorem eqFuncNo_any {d : Nat} (o o' : Own) (l r : List No) (m : M) (hf : ∀ k (hk : k < l.length) (hk' : k < r.length) (m : M), ACalls Try.prog 50 [No.pv l[k], No.pv r[k]] m (fun v m' => v = pB ((smN d) l[k] r[k]) ∧ m' = m)) :
    ACalls Try.prog 80 [.sl o (l.map No.pv), .sl o' (r.map No.pv), .fn (.func 50) [] []] m (fun v m' => v = pB (sameL (smN d) l r) ∧ m' = m) := by
 refine ACalls.enter (mu := []) ok_mix Try.func80 rfl (by kernel_rfl) (by kernel_rfl) (by simp only [List.length_cons, List.length_nil, Try.ntmps80]; omega) ?_
 (repeat (first | refine aSeq fun X hX => ?_ | refine aReg ?_; simp -implicitDefEqProofs only [↓slp, ↓reduceIte, reduceCtorEq, jA, Y3] | apply hX; clear hX X | intro hlen; unfold maxLen at hlen))
 refine aIf ?_; simp -implicitDefEqProofs only [slb, ↓reduceIte]; refine ⟨fun hb => ?_, fun hb => ?_⟩
 ·(repeat (first | refine aSeq fun X hX => ?_ | refine aRet ?_; try simp only [slx, ↓reduceIte, jA, reduceCtorEq] | refine aReg ?_; simp -implicitDefEqProofs only [↓slp, slb] | apply hX; clear hX X))
  simp only [aPost, Try.results80, aRes_n, aRes_t, aRes_c, pack_one, pack_two]
  refine leave_same rfl ⟨?_, rfl⟩
  rw [sameL_ne (by simp at hb; omega)]; rfl
 have hl : l.length = r.length := by simp at hb; omega
 (repeat (first | refine aSeq fun X hX => ?_ | refine aBlk ?_ | refine aSkip ?_ | refine aReg ?_; simp -implicitDefEqProofs only [↓slp, ↓reduceIte, reduceCtorEq, Y3] | apply hX; clear hX X | intro hlen; unfold maxLen at hlen))
 obtain ⟨I, hI⟩ : ∃ I : F → M → Prop, ∀ f m', I f m' = (∃ k : Nat, k ≤ l.length ∧ f 1 = .sl o' (r.map No.pv) ∧ f 2 = .fn (.func 50) [] [] ∧ f 15 = .sl o (l.map No.pv) ∧ f 16 = pI l.length ∧ f 17 = pI k ∧ sameL (smN d) l r = sameL (smN d) (l.drop k) (r.drop k) ∧ m' = m) := ⟨_, fun _ _ => rfl⟩
 refine aLoop I (fun f m => l.length - numOf (f 17)) ?_ ?_
 ·rw [hI]; exact ⟨0, by omega, rfl, rfl, rfl, rfl, rfl, rfl, rfl⟩
 intro f m' hrel
 rw [hI] at hrel
 obtain ⟨k, hk, h1, h2, h15, h16, h17, hs, rfl⟩ := hrel
 (repeat (first | refine aSeq fun X hX => ?_ | refine aReg ?_; simp -implicitDefEqProofs only [↓slp, slb, ↓reduceIte, h16, h17, pI] | apply hX; clear hX X))
 refine aIf ?_; simp -implicitDefEqProofs only [slb, ↓reduceIte]; refine ⟨fun hb => ?_, fun hb => ?_⟩
 ·have hlt : k < l.length := by simpa using hb
  have hlt' : k < r.length := by omega
  have g0 := getD_map No.pv l k hlt
  have g1 := getD_map No.pv r k hlt'
  have hi : IntKind.i64.wrap ((k : Int) + 1) = ((k + 1 : Nat) : Int) := by rw [wrap64 (by omega)]; omega
  have hd := sameL_drop (R := (smN d)) hlt hlt'
  (repeat (first | refine aSeq fun X hX => ?_ | refine aSkip ?_ | refine aReg ?_; simp -implicitDefEqProofs only [↓slp, ↓reduceIte, jA, jB, jE, jF, Y3, h1, h2, h15, h17, pI, g0, g1] | apply hX; clear hX X | apply And.intro; focus omega))
  refine callE (hf k hlt hlt' _) ?_
  simp -implicitDefEqProofs only [↓slp, slb, ↓reduceIte, h17, pI, pB]
  (repeat (apply hX; clear hX X))
  refine aIf ?_; simp -implicitDefEqProofs only [slb, ↓reduceIte]; refine ⟨fun hb => ?_, fun hb => ?_⟩
  ·(repeat (first | refine aSeq fun X hX => ?_ | refine aRet ?_; try simp only [slx, ↓reduceIte, jA, reduceCtorEq] | refine aReg ?_; simp -implicitDefEqProofs only [↓slp, slb] | apply hX; clear hX X))
   simp only [aPost, Try.results80, aRes_n, aRes_t, aRes_c, pack_one, pack_two]
   refine leave_same rfl ⟨?_, rfl⟩
   have : (smN d) l[k] r[k] = false := by simpa using hb
   rw [hs, hd, this]; rfl
  ·have he : (smN d) l[k] r[k] = true := by simpa using hb
   (repeat (first | refine aSkip ?_ | refine aReg ?_; simp -implicitDefEqProofs only [↓slp, slb, ↓reduceIte, jA, h17, pI, hi] | apply hX; clear hX X))
   rw [hI]
   refine ⟨⟨k + 1, hlt, h1, h2, h15, h16, rfl, by rw [hs, hd, he]; rfl, rfl⟩, ?_⟩
   first | omega | (simp only [↓slp, slb, ↓reduceIte, reduceCtorEq, jA, jB, jC, jD, jE, jF, jG, jH, jI, jJ, jK, h17, pI]; omega)
 ·have hlt : k = l.length := by simp at hb; omega
  subst hlt
  (repeat (first | refine aSeq fun X hX => ?_ | (first | refine aExit ?_ | refine aRet ?_); try simp only [slx, ↓reduceIte, jA, reduceCtorEq] | refine aReg ?_; simp -implicitDefEqProofs only [↓slp, slb] | apply hX; clear hX X | clear hX X; apply hX; clear hX X))
  simp only [aPost, Try.results80, aRes_n, aRes_t, aRes_c, pack_one, pack_two]
  refine leave_same rfl ⟨?_, rfl⟩
  rw [hs, sameL_end hl]; rfl

set_option maxHeartbeats 2000000 in
theorem sameEn_any (a b : En) (m : M) : ACalls Try.prog 77 [a.pv, b.pv] m (fun v m' => v = pB (smE a b) ∧ m' = m) := by
 have hsame : (smE a b) = (eqS a.name b.name && sameL eqS a.ctors b.ctors) := rfl
 refine ACalls.enter (mu := []) ok_mix Try.func77 rfl (by kernel_rfl) (by kernel_rfl) (by simp only [List.length_cons, List.length_nil, Try.ntmps77]; omega) ?_
 refine aSeq (fun X hX => ?_)
 refine aReg ?_; simp -implicitDefEqProofs only [↓slp, ↓reduceIte, jA, Y3]
 apply hX; clear hX X
 cases c1 : (a.name.toList == b.name.toList) with
 | false =>
  (repeat (first | refine aSeq fun X hX => ?_ | refine aRet ?_ | refine aReg ?_; simp -implicitDefEqProofs only [↓slp, ↓reduceIte, reduceCtorEq, jA, jB, jE, Y3, c1] | apply hX; clear hX X))
  simp only [aPost, Try.results77, aRes_n, aRes_t, aRes_c, pack_one, pack_two]
  refine leave_same rfl ⟨?_, rfl⟩
  have hv : (smE a b) = false := by rw [hsame]; simp [c1, eqS]
  rw [hv]; rfl
 | true =>
  (repeat (first | refine aSeq fun X hX => ?_ | refine aReg ?_; simp -implicitDefEqProofs only [↓slp, ↓reduceIte, reduceCtorEq, jA, jB, jE, Y3, c1]))
  refine callE (equalS_any _ _ _ _ _) ?_
  cases c2 : (sameL eqS a.ctors b.ctors) with
  | false =>
   simp -implicitDefEqProofs only [↓slp, slb, ↓reduceIte, jA, pB]
   (repeat (first | refine aRet ?_ | apply hX; clear hX X))
   simp only [aPost, Try.results77, aRes_n, aRes_t, aRes_c, pack_one, pack_two]
   refine leave_same rfl ⟨?_, rfl⟩
   have hv : (smE a b) = false := by rw [hsame]; simp [c1, c2, eqS]
   rw [hv]; rfl
  | true =>
   simp -implicitDefEqProofs only [↓slp, slb, ↓reduceIte, jA, pB]
   (repeat (first | refine aRet ?_ | apply hX; clear hX X))
   simp only [aPost, Try.results77, aRes_n, aRes_t, aRes_c, pack_one, pack_two]
   refine leave_same rfl ⟨?_, rfl⟩
   have hv : (smE a b) = true := by rw [hsame]; simp [c1, c2, eqS]
   rw [hv]; rfl

set_option maxRecDepth 20000 in
set_option maxHeartbeats 400000 in
theorem eqFuncEn_any (o o' : Own) (l r : List En) (m : M) (hf : ∀ k (hk : k < l.length) (hk' : k < r.length) (m : M), ACalls Try.prog 77 [En.pv l[k], En.pv r[k]] m (fun v m' => v = pB (smE l[k] r[k]) ∧ m' = m)) :
    ACalls Try.prog 79 [.sl o (l.map En.pv), .sl o' (r.map En.pv), .fn (.func 77) [] []] m (fun v m' => v = pB (sameL smE l r) ∧ m' = m) := by
 refine ACalls.enter (mu := []) ok_mix Try.func79 rfl (by kernel_rfl) (by kernel_rfl) (by simp only [List.length_cons, List.length_nil, Try.ntmps79]; omega) ?_
 (repeat (first | refine aSeq fun X hX => ?_ | refine aReg ?_; simp -implicitDefEqProofs only [↓slp, ↓reduceIte, reduceCtorEq, jA, Y3] | apply hX; clear hX X | intro hlen; unfold maxLen at hlen))
 refine aIf ?_; simp -implicitDefEqProofs only [slb, ↓reduceIte]; refine ⟨fun hb => ?_, fun hb => ?_⟩
 ·(repeat (first | refine aSeq fun X hX => ?_ | refine aRet ?_; try simp only [slx, ↓reduceIte, jA, reduceCtorEq] | refine aReg ?_; simp -implicitDefEqProofs only [↓slp, slb] | apply hX; clear hX X))
  simp only [aPost, Try.results79, aRes_n, aRes_t, aRes_c, pack_one, pack_two]
  refine leave_same rfl ⟨?_, rfl⟩
  rw [sameL_ne (by simp at hb; omega)]; rfl
 have hl : l.length = r.length := by simp at hb; omega
 (repeat (first | refine aSeq fun X hX => ?_ | refine aBlk ?_ | refine aSkip ?_ | refine aReg ?_; simp -implicitDefEqProofs only [↓slp, ↓reduceIte, reduceCtorEq, Y3] | apply hX; clear hX X | intro hlen; unfold maxLen at hlen))
 obtain ⟨I, hI⟩ : ∃ I : F → M → Prop, ∀ f m', I f m' = (∃ k : Nat, k ≤ l.length ∧ f 1 = .sl o' (r.map En.pv) ∧ f 2 = .fn (.func 77) [] [] ∧ f 15 = .sl o (l.map En.pv) ∧ f 16 = pI l.length ∧ f 17 = pI k ∧ sameL smE l r = sameL smE (l.drop k) (r.drop k) ∧ m' = m) := ⟨_, fun _ _ => rfl⟩
 refine aLoop I (fun f m => l.length - numOf (f 17)) ?_ ?_
 ·rw [hI]; exact ⟨0, by omega, rfl, rfl, rfl, rfl, rfl, rfl, rfl⟩
 intro f m' hrel
 rw [hI] at hrel
 obtain ⟨k, hk, h1, h2, h15, h16, h17, hs, rfl⟩ := hrel
 (repeat (first | refine aSeq fun X hX => ?_ | refine aReg ?_; simp -implicitDefEqProofs only [↓slp, slb, ↓reduceIte, h16, h17, pI] | apply hX; clear hX X))
 refine aIf ?_; simp -implicitDefEqProofs only [slb, ↓reduceIte]; refine ⟨fun hb => ?_, fun hb => ?_⟩
 ·have hlt : k < l.length := by simpa using hb
  have hlt' : k < r.length := by omega
  have g0 := getD_map En.pv l k hlt
  have g1 := getD_map En.pv r k hlt'
  have hi : IntKind.i64.wrap ((k : Int) + 1) = ((k + 1 : Nat) : Int) := by rw [wrap64 (by omega)]; omega
  have hd := sameL_drop (R := smE) hlt hlt'
  (repeat (first | refine aSeq fun X hX => ?_ | refine aSkip ?_ | refine aReg ?_; simp -implicitDefEqProofs only [↓slp, ↓reduceIte, jA, jB, jE, jF, Y3, h1, h2, h15, h17, pI, g0, g1] | apply hX; clear hX X | apply And.intro; focus omega))
  refine callE (hf k hlt hlt' _) ?_
  simp -implicitDefEqProofs only [↓slp, slb, ↓reduceIte, h17, pI, pB]
  (repeat (apply hX; clear hX X))
  refine aIf ?_; simp -implicitDefEqProofs only [slb, ↓reduceIte]; refine ⟨fun hb => ?_, fun hb => ?_⟩
  ·(repeat (first | refine aSeq fun X hX => ?_ | refine aRet ?_; try simp only [slx, ↓reduceIte, jA, reduceCtorEq] | refine aReg ?_; simp -implicitDefEqProofs only [↓slp, slb] | apply hX; clear hX X))
   simp only [aPost, Try.results79, aRes_n, aRes_t, aRes_c, pack_one, pack_two]
   refine leave_same rfl ⟨?_, rfl⟩
   have : smE l[k] r[k] = false := by simpa using hb
   rw [hs, hd, this]; rfl
  ·have he : smE l[k] r[k] = true := by simpa using hb
   (repeat (first | refine aSkip ?_ | refine aReg ?_; simp -implicitDefEqProofs only [↓slp, slb, ↓reduceIte, jA, h17, pI, hi] | apply hX; clear hX X))
   rw [hI]
   refine ⟨⟨k + 1, hlt, h1, h2, h15, h16, rfl, by rw [hs, hd, he]; rfl, rfl⟩, ?_⟩
   first | omega | (simp only [↓slp, slb, ↓reduceIte, reduceCtorEq, jA, jB, jC, jD, jE, jF, jG, jH, jI, jJ, jK, h17, pI]; omega)
 ·have hlt : k = l.length := by simp at hb; omega
  subst hlt
  (repeat (first | refine aSeq fun X hX => ?_ | (first | refine aExit ?_ | refine aRet ?_); try simp only [slx, ↓reduceIte, jA, reduceCtorEq] | refine aReg ?_; simp -implicitDefEqProofs only [↓slp, slb] | apply hX; clear hX X | clear hX X; apply hX; clear hX X))
  simp only [aPost, Try.results79, aRes_n, aRes_t, aRes_c, pack_one, pack_two]
  refine leave_same rfl ⟨?_, rfl⟩
  rw [hs, sameL_end hl]; rfl

abbrev prPV (E : List En) (l : List No) : PV := .ag [.sl .no (E.map En.pv), .sl .no (l.map No.pv)]
set_option maxHeartbeats 2000000 in
theorem same_any {d : Nat} (E : List En) (l : List No) (E' : List En) (l' : List No) (h : ∀ n ∈ l, DpB d n.b.eqs) (m : M) : ACalls Try.prog 35 [prPV E l, prPV E' l'] m (fun v m' => v = pB (sameL smE E E' && sameL (smN d) l l') ∧ m' = m) := by
 have hsame : (sameL smE E E' && sameL (smN d) l l') = (sameL smE E E' && sameL (smN d) l l') := rfl
 refine ACalls.enter (mu := []) ok_mix Try.func35 rfl (by kernel_rfl) (by kernel_rfl) (by simp only [List.length_cons, List.length_nil, Try.ntmps35]; omega) ?_
 refine aSeq (fun X hX => ?_)
 refine aReg ?_; simp -implicitDefEqProofs only [↓slp, slb, ↓reduceIte, jA]
 apply hX; clear hX X
 (repeat (first | refine aSeq fun X hX => ?_ | refine aReg ?_; simp -implicitDefEqProofs only [↓slp, ↓reduceIte, reduceCtorEq, jA, jB, jE, Y3] | apply hX; clear hX X))
 refine callE (eqFuncEn_any _ _ _ _ _ (fun k _ _ m => sameEn_any _ _ m)) ?_
 cases c1 : (sameL smE E E') with
 | false =>
  simp -implicitDefEqProofs only [↓slp, slb, ↓reduceIte, jA, pB]
  (repeat (first | refine aRet ?_ | apply hX; clear hX X))
  simp only [aPost, Try.results35, aRes_n, aRes_t, aRes_c, pack_one, pack_two]
  refine leave_same rfl ⟨?_, rfl⟩
  have hv : (sameL smE E E' && sameL (smN d) l l') = false := by rw [hsame]; simp [c1, eqS]
  rw [hv]; rfl
 | true =>
  simp -implicitDefEqProofs only [↓slp, ↓reduceIte, reduceCtorEq, jA, jB, jE, Y3]
  (repeat (refine And.intro (by first | assumption | omega) ?_))
  refine callE (eqFuncNo_any _ _ _ _ _ (fun k hk _ m => sameNode_any _ _ (h _ (List.getElem_mem hk)) m)) ?_
  cases c2 : (sameL (smN d) l l') with
  | false =>
   simp -implicitDefEqProofs only [↓slp, slb, ↓reduceIte, jA, pB]
   (repeat (first | refine aRet ?_ | apply hX; clear hX X))
   simp only [aPost, Try.results35, aRes_n, aRes_t, aRes_c, pack_one, pack_two]
   refine leave_same rfl ⟨?_, rfl⟩
   have hv : (sameL smE E E' && sameL (smN d) l l') = false := by rw [hsame]; simp [c1, c2, eqS]
   rw [hv]; rfl
  | true =>
   simp -implicitDefEqProofs only [↓slp, slb, ↓reduceIte, jA, pB]
   (repeat (first | refine aRet ?_ | apply hX; clear hX X))
   simp only [aPost, Try.results35, aRes_n, aRes_t, aRes_c, pack_one, pack_two]
   refine leave_same rfl ⟨?_, rfl⟩
   have hv : (sameL smE E E' && sameL (smN d) l l') = true := by rw [hsame]; simp [c1, c2, eqS]
   rw [hv]; rfl
end Go.Proofs.Ytibhhoknipdlpaa
