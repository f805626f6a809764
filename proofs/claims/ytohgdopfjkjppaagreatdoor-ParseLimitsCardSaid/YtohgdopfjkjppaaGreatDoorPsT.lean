/-
 What is one with itself: the reference's Same, SameAt; the law's places.
-/
-- halved
import Derived.Test.YtohgdopfjkjppaaGreatDoorAbMac
import Derived.Test.YtohgdopfjkjppaaGreatDoorPdA
import Derived.Test.YtohgdopfjkjppaaGreatDoorQA
set_option linter.unusedVariables false
set_option linter.unusedSimpArgs false
namespace Go.Proofs.YtohgdopfjkjppaaGreatDoor
open Nat renaming reduceEqDiff → jA, reduceAdd → jB, reduceMul → jC, reduceLT → jD, reduceLeDiff → jE, reduceBEq → jF, reduceBNe → jG
open Int renaming reduceLE → jH, reduceLT → jI, reduceToNat → jJ, reduceEq → jK
open Go
set_option maxRecDepth 20000
set_option linter.defProp false
def tfPsT := And.intro @tfA (And.intro @Ex.settle_pv (And.intro @Ex.pure_pv (And.intro @Ex.cells_pv (And.intro @Ex.cs.eq_1 (And.intro @On.pv.eq_1 (And.intro @Ty.pv.eq_1 (And.intro @Va.settle_pv (And.intro @Va.pure_pv (And.intro @Va.cells_pv (And.intro @Va.cs.eq_1 (And.intro @Qu.settle_pv (And.intro @Qu.pure_pv (And.intro @Qu.cells_pv (And.intro @Qu.cs.eq_1 (And.intro @Am.settle_pv (And.intro @Am.pure_pv (And.intro @Am.cells_pv (And.intro @Am.cs.eq_1 (And.intro @Tr.settle_pv (And.intro @Tr.pure_pv (And.intro @Tr.cells_pv (And.intro @Tr.cs.eq_1 (And.intro @No.settle_pv (And.intro @No.pure_pv (And.intro @No.cells_pv (And.intro @No.cs.eq_1 (And.intro @No.pv.eq_1 (And.intro @En.settle_pv (And.intro @En.pure_pv (And.intro @En.cells_pv @En.cs.eq_1))))))))))))))))))))))))))))))

abbrev bkV (V : List Va) (Q : List Qu) : PV := .ag [.sl .no (V.map Va.pv), .sl .no (Q.map Qu.pv)]
abbrev prV (E : List En) (l : List No) : PV := .ag [.sl .no (E.map En.pv), .sl .no (l.map No.pv)]
set_option maxHeartbeats 4000000 in
theorem sNs_any (l : List Str) (m : M) : ACalls Tryz.prog 53 [.sl .no (l.map pS), .sl .no (l.map pS)] m (fun v m' => v = pB true ∧ m' = m) := by
 refine eN [] Tryz.func53 ?_
 (repeat revert X); refine wD tfPsT ?_; repeat intro X hX
 obtain ⟨I1, hI1⟩ : ∃ I : F → M → Prop, ∀ f m', I f m' = (∃ k : Nat, k ≤ l.length ∧ f 0 = .sl .no (l.map pS) ∧ f 1 = .sl .no (l.map pS) ∧ f 5 = pI k ∧ m = m') := ⟨_, fun _ _ => rfl⟩
 refine aLoop I1 (fun f m => l.length - numOf (f 5)) ?_ ?_
 ·rw [hI1]; exact ⟨0, by omega, (by first | rfl | assumption), (by first | rfl | assumption), rfl, rfl⟩
 intro f m' hrel
 rw [hI1] at hrel
 obtain ⟨k1, hk1, h1_0, h1_1, z1, hm⟩ := hrel
 subst hm
 (repeat (first | refine aSeq fun X hX => ?_ | refine aReg ?_; simp -implicitDefEqProofs only [↓slp, slb, ↓reduceIte, reduceCtorEq, jA, tfPsT, h1_0, z1, pI] | apply hX; clear hX X | intro hlen; unfold maxLen at hlen))
 refine aIf ?_; simp -implicitDefEqProofs only [slb, ↓reduceIte]; refine ⟨fun hb => ?_, fun hb => ?_⟩
 ·have l1 : k1 < l.length := by simpa using hb
  have g1 := getD_map pS l k1 l1
  have i1 : IntKind.i64.wrap ((k1 : Int) + 1) = ((k1 + 1 : Nat) : Int) := by rw [wrap64 (by omega)]; omega
  have q1 : (0 : Int) ≤ (k1 : Int) := by omega
  (repeat (first | refine aSeq fun X hX => ?_ | refine aSkip ?_ | (first | apply aReg | refine aDrE ?_ | apply aIf); simp -implicitDefEqProofs only [↓slp, slb, ↓reduceIte, reduceCtorEq, jA, jB, tfPsT, h1_0, h1_1, z1, pI, g1, i1, l1, q1] | apply hX; clear hX X))
  skip
  rw [hI1]
  refine ⟨⟨k1 + 1, l1, h1_0, h1_1, rfl, rfl⟩, ?_⟩
  first | omega | (simp only [↓slp, slb, ↓reduceIte, reduceCtorEq, jA, jB, jC, jD, jE, jF, jG, jH, jI, jJ, jK, z1, pI, numOf, Int.toNat_natCast]; omega)
 ·clear hb
  (repeat revert X); refine wD aEQ_t ?_; repeat intro X hX
  refine wR Tryz.results53 ?_
  exact leave_same rfl ⟨rfl, rfl⟩
set_option maxHeartbeats 4000000 in
theorem sCl_any (l : List On) (m : M) : ACalls Tryz.prog 82 [.sl .no (l.map On.pv), .sl .no (l.map On.pv)] m (fun v m' => v = pB true ∧ m' = m) := by
 refine eN [] Tryz.func82 ?_
 (repeat revert X); refine wD tfPsT ?_; repeat intro X hX
 obtain ⟨I2, hI2⟩ : ∃ I : F → M → Prop, ∀ f m', I f m' = (∃ k : Nat, k ≤ l.length ∧ f 0 = .sl .no (l.map On.pv) ∧ f 1 = .sl .no (l.map On.pv) ∧ f 5 = pI k ∧ m = m') := ⟨_, fun _ _ => rfl⟩
 refine aLoop I2 (fun f m => l.length - numOf (f 5)) ?_ ?_
 ·rw [hI2]; exact ⟨0, by omega, (by first | rfl | assumption), (by first | rfl | assumption), rfl, rfl⟩
 intro f m' hrel
 rw [hI2] at hrel
 obtain ⟨k2, hk2, h2_0, h2_1, z2, hm⟩ := hrel
 subst hm
 (repeat (first | refine aSeq fun X hX => ?_ | refine aReg ?_; simp -implicitDefEqProofs only [↓slp, slb, ↓reduceIte, reduceCtorEq, jA, tfPsT, h2_0, z2, pI] | apply hX; clear hX X | intro hlen; unfold maxLen at hlen))
 refine aIf ?_; simp -implicitDefEqProofs only [slb, ↓reduceIte]; refine ⟨fun hb => ?_, fun hb => ?_⟩
 ·have l2 : k2 < l.length := by simpa using hb
  have g2 := getD_map On.pv l k2 l2
  have i2 : IntKind.i64.wrap ((k2 : Int) + 1) = ((k2 + 1 : Nat) : Int) := by rw [wrap64 (by omega)]; omega
  have q2 : (0 : Int) ≤ (k2 : Int) := by omega
  (repeat (first | refine aSeq fun X hX => ?_ | refine aSkip ?_ | (first | apply aReg | refine aDrE ?_ | apply aIf); simp -implicitDefEqProofs only [↓slp, slb, ↓reduceIte, reduceCtorEq, jA, jB, jE, tfPsT, h2_0, h2_1, z2, pI, g2, i2, l2, q2] | apply hX; clear hX X))
  skip
  rw [hI2]
  refine ⟨⟨k2 + 1, l2, h2_0, h2_1, rfl, rfl⟩, ?_⟩
  first | omega | (simp only [↓slp, slb, ↓reduceIte, reduceCtorEq, jA, jB, jC, jD, jE, jF, jG, jH, jI, jJ, jK, z2, pI, numOf, Int.toNat_natCast]; omega)
 ·clear hb
  (repeat revert X); refine wD aEQ_t ?_; repeat intro X hX
  refine wR Tryz.results82 ?_
  exact leave_same rfl ⟨rfl, rfl⟩
set_option maxHeartbeats 4000000 in
theorem sEx_any (a : Ex) : ∀ (m : M), ACalls Tryz.prog 24 [a.pv, a.pv] m (fun v m' => v = pB true ∧ m' = m) := by
 refine Ex.ind (motive := fun a => ∀ (m : M), ACalls Tryz.prog 24 [a.pv, a.pv] m (fun v m' => v = pB true ∧ m' = m)) (fun a IH => ?_) a
 intro m
 refine eN [] Tryz.func24 ?_
 (repeat revert X); refine wD tfPsT ?_; repeat intro X hX
 refine callE (sNs_any a.names _) ?_
 refine wS tfPsT ?_
 (repeat revert X); refine wD tfPsT ?_; repeat intro X hX
 obtain ⟨I3, hI3⟩ : ∃ I : F → M → Prop, ∀ f m', I f m' = (∃ k : Nat, k ≤ a.kids.length ∧ f 2 = .ep a.cs ∧ f 3 = .ep a.cs ∧ f 5 = pI k ∧ m = m') := ⟨_, fun _ _ => rfl⟩
 refine aLoop I3 (fun f m => a.kids.length - numOf (f 5)) ?_ ?_
 ·rw [hI3]; exact ⟨0, by omega, (by first | rfl | assumption), (by first | rfl | assumption), rfl, rfl⟩
 intro f m' hrel
 rw [hI3] at hrel
 obtain ⟨k3, hk3, h3_2, h3_3, z3, hm⟩ := hrel
 subst hm
 (repeat (first | refine aSeq fun X hX => ?_ | refine aReg ?_; simp -implicitDefEqProofs only [↓slp, slb, ↓reduceIte, reduceCtorEq, jA, jB, jE, tfPsT, h3_2, z3, pI] | apply hX; clear hX X | intro hlen; unfold maxLen at hlen))
 refine aIf ?_; simp -implicitDefEqProofs only [slb, ↓reduceIte]; refine ⟨fun hb => ?_, fun hb => ?_⟩
 ·have l3 : k3 < a.kids.length := by simpa using hb
  have g3 := getD_map Ex.pv a.kids k3 l3
  have i3 : IntKind.i64.wrap ((k3 : Int) + 1) = ((k3 + 1 : Nat) : Int) := by rw [wrap64 (by omega)]; omega
  have q3 : (0 : Int) ≤ (k3 : Int) := by omega
  (repeat revert X); refine wD (And.intro tfPsT (And.intro h3_2 (And.intro h3_3 (And.intro z3 (And.intro @pI.eq_1 (And.intro g3 (And.intro l3 q3))))))) ?_; repeat intro X hX
  refine callE (IH k3 l3 _) ?_
  refine wS (And.intro z3 @pI.eq_1) ?_
  (repeat (first | refine aSkip ?_ | (first | apply aReg | apply aIf); simp -implicitDefEqProofs only [↓slp, slb, ↓reduceIte, jA, tfPsT, z3, pI, i3]; try simp only [fo] | apply hX; clear hX X))
  rw [hI3]
  refine ⟨⟨k3 + 1, l3, h3_2, h3_3, rfl, rfl⟩, ?_⟩
  first | omega | (simp only [↓slp, slb, ↓reduceIte, reduceCtorEq, jA, jB, jC, jD, jE, jF, jG, jH, jI, jJ, jK, z3, pI, numOf, Int.toNat_natCast]; omega)
 ·clear hb
  (repeat revert X); refine wD aEQ_t ?_; repeat intro X hX
  refine wR Tryz.results24 ?_
  exact leave_same rfl ⟨rfl, rfl⟩
set_option maxHeartbeats 4000000 in
theorem sAt_any (a : Ex) : ∀ (m : M), ACalls Tryz.prog 11 [a.pv, a.pv] m (fun v m' => v = pB true ∧ m' = m) := by
 refine Ex.ind (motive := fun a => ∀ (m : M), ACalls Tryz.prog 11 [a.pv, a.pv] m (fun v m' => v = pB true ∧ m' = m)) (fun a IH => ?_) a
 intro m
 refine eN [] Tryz.func11 ?_
 (repeat revert X); refine wD tfPsT ?_; repeat intro X hX
 obtain ⟨I4, hI4⟩ : ∃ I : F → M → Prop, ∀ f m', I f m' = (∃ k : Nat, k ≤ a.kids.length ∧ f 2 = .ep a.cs ∧ f 3 = .ep a.cs ∧ f 5 = pI k ∧ m = m') := ⟨_, fun _ _ => rfl⟩
 refine aLoop I4 (fun f m => a.kids.length - numOf (f 5)) ?_ ?_
 ·rw [hI4]; exact ⟨0, by omega, (by first | rfl | assumption), (by first | rfl | assumption), rfl, rfl⟩
 intro f m' hrel
 rw [hI4] at hrel
 obtain ⟨k4, hk4, h4_2, h4_3, z4, hm⟩ := hrel
 subst hm
 (repeat (first | refine aSeq fun X hX => ?_ | refine aReg ?_; simp -implicitDefEqProofs only [↓slp, slb, ↓reduceIte, reduceCtorEq, jA, jB, jE, tfPsT, h4_2, z4, pI] | apply hX; clear hX X | intro hlen; unfold maxLen at hlen))
 refine aIf ?_; simp -implicitDefEqProofs only [slb, ↓reduceIte]; refine ⟨fun hb => ?_, fun hb => ?_⟩
 ·have l4 : k4 < a.kids.length := by simpa using hb
  have g4 := getD_map Ex.pv a.kids k4 l4
  have i4 : IntKind.i64.wrap ((k4 : Int) + 1) = ((k4 + 1 : Nat) : Int) := by rw [wrap64 (by omega)]; omega
  have q4 : (0 : Int) ≤ (k4 : Int) := by omega
  (repeat revert X); refine wD (And.intro tfPsT (And.intro h4_2 (And.intro h4_3 (And.intro z4 (And.intro @pI.eq_1 (And.intro g4 (And.intro l4 q4))))))) ?_; repeat intro X hX
  refine callE (IH k4 l4 _) ?_
  refine wS (And.intro z4 @pI.eq_1) ?_
  (repeat (first | refine aSkip ?_ | (first | apply aReg | apply aIf); simp -implicitDefEqProofs only [↓slp, slb, ↓reduceIte, jA, tfPsT, z4, pI, i4]; try simp only [fo] | apply hX; clear hX X))
  rw [hI4]
  refine ⟨⟨k4 + 1, l4, h4_2, h4_3, rfl, rfl⟩, ?_⟩
  first | omega | (simp only [↓slp, slb, ↓reduceIte, reduceCtorEq, jA, jB, jC, jD, jE, jF, jG, jH, jI, jJ, jK, z4, pI, numOf, Int.toNat_natCast]; omega)
 ·clear hb
  (repeat revert X); refine wD (And.intro tfPsT (And.intro h4_2 h4_3)) ?_; repeat intro X hX
  refine callE (sEx_any a _) ?_
  refine wS aEQ_t ?_
  (repeat revert X); refine wD aEQ_t ?_; repeat intro X hX
  refine wR Tryz.results11 ?_
  exact leave_same rfl ⟨rfl, rfl⟩
set_option maxHeartbeats 4000000 in
theorem sExs_any (l : List Ex) (m : M) : ACalls Tryz.prog 103 [.sl .no (l.map Ex.pv), .sl .no (l.map Ex.pv)] m (fun v m' => v = pB true ∧ m' = m) := by
 refine eN [] Tryz.func103 ?_
 (repeat revert X); refine wD tfPsT ?_; repeat intro X hX
 obtain ⟨I5, hI5⟩ : ∃ I : F → M → Prop, ∀ f m', I f m' = (∃ k : Nat, k ≤ l.length ∧ f 0 = .sl .no (l.map Ex.pv) ∧ f 1 = .sl .no (l.map Ex.pv) ∧ f 5 = pI k ∧ m = m') := ⟨_, fun _ _ => rfl⟩
 refine aLoop I5 (fun f m => l.length - numOf (f 5)) ?_ ?_
 ·rw [hI5]; exact ⟨0, by omega, (by first | rfl | assumption), (by first | rfl | assumption), rfl, rfl⟩
 intro f m' hrel
 rw [hI5] at hrel
 obtain ⟨k5, hk5, h5_0, h5_1, z5, hm⟩ := hrel
 subst hm
 (repeat (first | refine aSeq fun X hX => ?_ | refine aReg ?_; simp -implicitDefEqProofs only [↓slp, slb, ↓reduceIte, reduceCtorEq, jA, tfPsT, h5_0, z5, pI] | apply hX; clear hX X | intro hlen; unfold maxLen at hlen))
 refine aIf ?_; simp -implicitDefEqProofs only [slb, ↓reduceIte]; refine ⟨fun hb => ?_, fun hb => ?_⟩
 ·have l5 : k5 < l.length := by simpa using hb
  have g5 := getD_map Ex.pv l k5 l5
  have i5 : IntKind.i64.wrap ((k5 : Int) + 1) = ((k5 + 1 : Nat) : Int) := by rw [wrap64 (by omega)]; omega
  have q5 : (0 : Int) ≤ (k5 : Int) := by omega
  (repeat revert X); refine wD (And.intro tfPsT (And.intro h5_0 (And.intro h5_1 (And.intro z5 (And.intro @pI.eq_1 (And.intro g5 (And.intro l5 q5))))))) ?_; repeat intro X hX
  refine callE (sEx_any l[k5] _) ?_
  refine wS (And.intro z5 @pI.eq_1) ?_
  (repeat (first | refine aSkip ?_ | (first | apply aReg | apply aIf); simp -implicitDefEqProofs only [↓slp, slb, ↓reduceIte, jA, tfPsT, z5, pI, i5]; try simp only [fo] | apply hX; clear hX X))
  rw [hI5]
  refine ⟨⟨k5 + 1, l5, h5_0, h5_1, rfl, rfl⟩, ?_⟩
  first | omega | (simp only [↓slp, slb, ↓reduceIte, reduceCtorEq, jA, jB, jC, jD, jE, jF, jG, jH, jI, jJ, jK, z5, pI, numOf, Int.toNat_natCast]; omega)
 ·clear hb
  (repeat revert X); refine wD aEQ_t ?_; repeat intro X hX
  refine wR Tryz.results103 ?_
  exact leave_same rfl ⟨rfl, rfl⟩
set_option maxHeartbeats 4000000 in
theorem sVs_any (l : List Va) (m : M) : ACalls Tryz.prog 59 [.sl .no (l.map Va.pv), .sl .no (l.map Va.pv)] m (fun v m' => v = pB true ∧ m' = m) := by
 refine eN [] Tryz.func59 ?_
 (repeat revert X); refine wD tfPsT ?_; repeat intro X hX
 obtain ⟨I6, hI6⟩ : ∃ I : F → M → Prop, ∀ f m', I f m' = (∃ k : Nat, k ≤ l.length ∧ f 0 = .sl .no (l.map Va.pv) ∧ f 1 = .sl .no (l.map Va.pv) ∧ f 5 = pI k ∧ m = m') := ⟨_, fun _ _ => rfl⟩
 refine aLoop I6 (fun f m => l.length - numOf (f 5)) ?_ ?_
 ·rw [hI6]; exact ⟨0, by omega, (by first | rfl | assumption), (by first | rfl | assumption), rfl, rfl⟩
 intro f m' hrel
 rw [hI6] at hrel
 obtain ⟨k6, hk6, h6_0, h6_1, z6, hm⟩ := hrel
 subst hm
 (repeat (first | refine aSeq fun X hX => ?_ | refine aReg ?_; simp -implicitDefEqProofs only [↓slp, slb, ↓reduceIte, reduceCtorEq, jA, tfPsT, h6_0, z6, pI] | apply hX; clear hX X | intro hlen; unfold maxLen at hlen))
 refine aIf ?_; simp -implicitDefEqProofs only [slb, ↓reduceIte]; refine ⟨fun hb => ?_, fun hb => ?_⟩
 ·have l6 : k6 < l.length := by simpa using hb
  have g6 := getD_map Va.pv l k6 l6
  have i6 : IntKind.i64.wrap ((k6 : Int) + 1) = ((k6 + 1 : Nat) : Int) := by rw [wrap64 (by omega)]; omega
  have q6 : (0 : Int) ≤ (k6 : Int) := by omega
  (repeat revert X); refine wD (And.intro tfPsT (And.intro h6_0 (And.intro h6_1 (And.intro z6 (And.intro @pI.eq_1 (And.intro g6 (And.intro l6 q6))))))) ?_; repeat intro X hX
  refine callE (sCl_any l[k6].clock _) ?_
  refine wS (And.intro tfPsT (And.intro h6_0 (And.intro h6_1 (And.intro z6 (And.intro @pI.eq_1 (And.intro g6 (And.intro l6 q6))))))) ?_
  (repeat (first | refine aSeq fun X hX => ?_ | apply aBlk | refine aSkip ?_ | (first | refine aExit ?_ | refine aRet ?_); try simp only [slx, ↓reduceIte, jA, reduceCtorEq] | (first | apply aReg | refine aDrE ?_ | apply aIf); simp -implicitDefEqProofs only [forall_eq, ↓slp, slb, ↓reduceIte, reduceCtorEq, jA, jB, jC, jD, jE, jF, jG, jH, jI, jJ, jK, tfPsT, h6_0, h6_1, z6, pI, g6, i6, l6, q6, beq_self_eq_true, Bool.not_true, Bool.not_false, Bool.and_self, Bool.true_and]; try simp only [fo] | apply hX; clear hX X | clear hX X; apply hX; clear hX X | clear hX X; clear hX X; apply hX; clear hX X | intro hlen; unfold maxLen at hlen | apply And.intro; · first | assumption | and_intros <;> first | omega | assumption))
  refine callE (sEx_any l[k6].first _) ?_
  refine wS aEQ_t ?_
  (repeat (first | refine aSkip ?_ | (first | apply aReg | apply aIf); simp -implicitDefEqProofs only [↓slp, slb, ↓reduceIte, jA, z6, pI, i6] | apply hX; clear hX X))
  rw [hI6]
  refine ⟨⟨k6 + 1, l6, h6_0, h6_1, rfl, rfl⟩, ?_⟩
  first | omega | (simp only [↓slp, slb, ↓reduceIte, reduceCtorEq, jA, jB, jC, jD, jE, jF, jG, jH, jI, jJ, jK, z6, pI, numOf, Int.toNat_natCast]; omega)
 ·clear hb
  (repeat revert X); refine wD aEQ_t ?_; repeat intro X hX
  refine wR Tryz.results59 ?_
  exact leave_same rfl ⟨rfl, rfl⟩
set_option maxHeartbeats 4000000 in
theorem sWs_any (l : List Tr) (m : M) : ACalls Tryz.prog 104 [.sl .no (l.map Tr.pv), .sl .no (l.map Tr.pv)] m (fun v m' => v = pB true ∧ m' = m) := by
 refine eN [] Tryz.func104 ?_
 (repeat revert X); refine wD tfPsT ?_; repeat intro X hX
 obtain ⟨I7, hI7⟩ : ∃ I : F → M → Prop, ∀ f m', I f m' = (∃ k : Nat, k ≤ l.length ∧ f 0 = .sl .no (l.map Tr.pv) ∧ f 1 = .sl .no (l.map Tr.pv) ∧ f 5 = pI k ∧ m = m') := ⟨_, fun _ _ => rfl⟩
 refine aLoop I7 (fun f m => l.length - numOf (f 5)) ?_ ?_
 ·rw [hI7]; exact ⟨0, by omega, (by first | rfl | assumption), (by first | rfl | assumption), rfl, rfl⟩
 intro f m' hrel
 rw [hI7] at hrel
 obtain ⟨k7, hk7, h7_0, h7_1, z7, hm⟩ := hrel
 subst hm
 (repeat (first | refine aSeq fun X hX => ?_ | refine aReg ?_; simp -implicitDefEqProofs only [↓slp, slb, ↓reduceIte, reduceCtorEq, jA, tfPsT, h7_0, z7, pI] | apply hX; clear hX X | intro hlen; unfold maxLen at hlen))
 refine aIf ?_; simp -implicitDefEqProofs only [slb, ↓reduceIte]; refine ⟨fun hb => ?_, fun hb => ?_⟩
 ·have l7 : k7 < l.length := by simpa using hb
  have g7 := getD_map Tr.pv l k7 l7
  have i7 : IntKind.i64.wrap ((k7 : Int) + 1) = ((k7 + 1 : Nat) : Int) := by rw [wrap64 (by omega)]; omega
  have q7 : (0 : Int) ≤ (k7 : Int) := by omega
  (repeat revert X); refine wD (And.intro tfPsT (And.intro h7_0 (And.intro h7_1 (And.intro z7 (And.intro @pI.eq_1 (And.intro g7 (And.intro l7 q7))))))) ?_; repeat intro X hX
  refine callE (sEx_any l[k7].e _) ?_
  refine wS (And.intro z7 @pI.eq_1) ?_
  (repeat (first | refine aSkip ?_ | (first | apply aReg | apply aIf); simp -implicitDefEqProofs only [↓slp, slb, ↓reduceIte, jA, z7, pI, i7] | apply hX; clear hX X))
  rw [hI7]
  refine ⟨⟨k7 + 1, l7, h7_0, h7_1, rfl, rfl⟩, ?_⟩
  first | omega | (simp only [↓slp, slb, ↓reduceIte, reduceCtorEq, jA, jB, jC, jD, jE, jF, jG, jH, jI, jJ, jK, z7, pI, numOf, Int.toNat_natCast]; omega)
 ·clear hb
  (repeat revert X); refine wD aEQ_t ?_; repeat intro X hX
  refine wR Tryz.results104 ?_
  exact leave_same rfl ⟨rfl, rfl⟩
set_option maxHeartbeats 4000000 in
theorem aVs_any (l : List Va) (m : M) : ACalls Tryz.prog 61 [.sl .no (l.map Va.pv), .sl .no (l.map Va.pv)] m (fun v m' => v = pB true ∧ m' = m) := by
 refine eN [] Tryz.func61 ?_
 (repeat revert X); refine wD aEQ_t ?_; repeat intro X hX
 obtain ⟨I8, hI8⟩ : ∃ I : F → M → Prop, ∀ f m', I f m' = (∃ k : Nat, k ≤ l.length ∧ f 0 = .sl .no (l.map Va.pv) ∧ f 1 = .sl .no (l.map Va.pv) ∧ f 5 = pI k ∧ m = m') := ⟨_, fun _ _ => rfl⟩
 refine aLoop I8 (fun f m => l.length - numOf (f 5)) ?_ ?_
 ·rw [hI8]; exact ⟨0, by omega, (by first | rfl | assumption), (by first | rfl | assumption), rfl, rfl⟩
 intro f m' hrel
 rw [hI8] at hrel
 obtain ⟨k8, hk8, h8_0, h8_1, z8, hm⟩ := hrel
 subst hm
 (repeat (first | refine aSeq fun X hX => ?_ | refine aReg ?_; simp -implicitDefEqProofs only [↓slp, slb, ↓reduceIte, reduceCtorEq, jA, tfPsT, h8_0, z8, pI] | apply hX; clear hX X | intro hlen; unfold maxLen at hlen))
 refine aIf ?_; simp -implicitDefEqProofs only [slb, ↓reduceIte]; refine ⟨fun hb => ?_, fun hb => ?_⟩
 ·have l8 : k8 < l.length := by simpa using hb
  have g8 := getD_map Va.pv l k8 l8
  have i8 : IntKind.i64.wrap ((k8 : Int) + 1) = ((k8 + 1 : Nat) : Int) := by rw [wrap64 (by omega)]; omega
  have q8 : (0 : Int) ≤ (k8 : Int) := by omega
  (repeat revert X); refine wD (And.intro tfPsT (And.intro h8_0 (And.intro h8_1 (And.intro z8 (And.intro @pI.eq_1 (And.intro g8 (And.intro l8 q8))))))) ?_; repeat intro X hX
  refine callE (sAt_any l[k8].first _) ?_
  refine wS (And.intro z8 @pI.eq_1) ?_
  (repeat (first | refine aSkip ?_ | (first | apply aReg | apply aIf); simp -implicitDefEqProofs only [↓slp, slb, ↓reduceIte, jA, z8, pI, i8] | apply hX; clear hX X))
  rw [hI8]
  refine ⟨⟨k8 + 1, l8, h8_0, h8_1, rfl, rfl⟩, ?_⟩
  first | omega | (simp only [↓slp, slb, ↓reduceIte, reduceCtorEq, jA, jB, jC, jD, jE, jF, jG, jH, jI, jJ, jK, z8, pI, numOf, Int.toNat_natCast]; omega)
 ·clear hb
  (repeat revert X); refine wD aEQ_t ?_; repeat intro X hX
  refine wR Tryz.results61 ?_
  exact leave_same rfl ⟨rfl, rfl⟩
set_option maxHeartbeats 4000000 in
theorem aWs_any (l : List Tr) (m : M) : ACalls Tryz.prog 84 [.sl .no (l.map Tr.pv), .sl .no (l.map Tr.pv)] m (fun v m' => v = pB true ∧ m' = m) := by
 refine eN [] Tryz.func84 ?_
 (repeat revert X); refine wD aEQ_t ?_; repeat intro X hX
 obtain ⟨I9, hI9⟩ : ∃ I : F → M → Prop, ∀ f m', I f m' = (∃ k : Nat, k ≤ l.length ∧ f 0 = .sl .no (l.map Tr.pv) ∧ f 1 = .sl .no (l.map Tr.pv) ∧ f 5 = pI k ∧ m = m') := ⟨_, fun _ _ => rfl⟩
 refine aLoop I9 (fun f m => l.length - numOf (f 5)) ?_ ?_
 ·rw [hI9]; exact ⟨0, by omega, (by first | rfl | assumption), (by first | rfl | assumption), rfl, rfl⟩
 intro f m' hrel
 rw [hI9] at hrel
 obtain ⟨k9, hk9, h9_0, h9_1, z9, hm⟩ := hrel
 subst hm
 (repeat (first | refine aSeq fun X hX => ?_ | refine aReg ?_; simp -implicitDefEqProofs only [↓slp, slb, ↓reduceIte, reduceCtorEq, jA, tfPsT, h9_0, z9, pI] | apply hX; clear hX X | intro hlen; unfold maxLen at hlen))
 refine aIf ?_; simp -implicitDefEqProofs only [slb, ↓reduceIte]; refine ⟨fun hb => ?_, fun hb => ?_⟩
 ·have l9 : k9 < l.length := by simpa using hb
  have g9 := getD_map Tr.pv l k9 l9
  have i9 : IntKind.i64.wrap ((k9 : Int) + 1) = ((k9 + 1 : Nat) : Int) := by rw [wrap64 (by omega)]; omega
  have q9 : (0 : Int) ≤ (k9 : Int) := by omega
  (repeat revert X); refine wD (And.intro tfPsT (And.intro h9_0 (And.intro h9_1 (And.intro z9 (And.intro @pI.eq_1 (And.intro g9 (And.intro l9 q9))))))) ?_; repeat intro X hX
  refine callE (sAt_any l[k9].e _) ?_
  refine wS (And.intro z9 @pI.eq_1) ?_
  (repeat (first | refine aSkip ?_ | (first | apply aReg | apply aIf); simp -implicitDefEqProofs only [↓slp, slb, ↓reduceIte, jA, z9, pI, i9] | apply hX; clear hX X))
  rw [hI9]
  refine ⟨⟨k9 + 1, l9, h9_0, h9_1, rfl, rfl⟩, ?_⟩
  first | omega | (simp only [↓slp, slb, ↓reduceIte, reduceCtorEq, jA, jB, jC, jD, jE, jF, jG, jH, jI, jJ, jK, z9, pI, numOf, Int.toNat_natCast]; omega)
 ·clear hb
  (repeat revert X); refine wD aEQ_t ?_; repeat intro X hX
  refine wR Tryz.results84 ?_
  exact leave_same rfl ⟨rfl, rfl⟩
set_option maxHeartbeats 4000000 in
theorem sEq_step (a : Qu) (hA : ∀ z ∈ a.arms, ∀ m : M, ACalls Tryz.prog 60 [bkV z.vars z.eqs, bkV z.vars z.eqs] m (fun v m' => v = pB true ∧ m' = m)) (m : M) : ACalls Tryz.prog 83 [a.pv, a.pv] m (fun v m' => v = pB true ∧ m' = m) := by
 refine eN [] Tryz.func83 ?_
 (repeat revert X); refine wD tfPsT ?_; repeat intro X hX
 refine callE (sNs_any a.lhs _) ?_
 refine wS tfPsT ?_
 (repeat (first | refine aSeq fun X hX => ?_ | apply aBlk | refine aSkip ?_ | (first | refine aExit ?_ | refine aRet ?_); try simp only [slx, ↓reduceIte, jA, reduceCtorEq] | (first | apply aReg | refine aDrE ?_ | apply aIf); simp -implicitDefEqProofs only [forall_eq, ↓slp, slb, ↓reduceIte, reduceCtorEq, jA, jB, jC, jD, jE, jF, jG, jH, jI, jJ, jK, tfPsT, beq_self_eq_true, Bool.not_true, Bool.not_false, Bool.and_self, Bool.true_and]; try simp only [fo] | apply hX; clear hX X | clear hX X; apply hX; clear hX X | clear hX X; clear hX X; apply hX; clear hX X | intro hlen; unfold maxLen at hlen | apply And.intro; · first | assumption | and_intros <;> first | omega | assumption))
 refine callE (sExs_any a.args _) ?_
 refine wS tfPsT ?_
 (repeat (first | refine aSeq fun X hX => ?_ | apply aBlk | refine aSkip ?_ | (first | refine aExit ?_ | refine aRet ?_); try simp only [slx, ↓reduceIte, jA, reduceCtorEq] | (first | apply aReg | refine aDrE ?_ | apply aIf); simp -implicitDefEqProofs only [forall_eq, ↓slp, slb, ↓reduceIte, reduceCtorEq, jA, jB, jC, jD, jE, jF, jG, jH, jI, jJ, jK, tfPsT, beq_self_eq_true, Bool.not_true, Bool.not_false, Bool.and_self, Bool.true_and]; try simp only [fo] | apply hX; clear hX X | clear hX X; apply hX; clear hX X | clear hX X; clear hX X; apply hX; clear hX X | intro hlen; unfold maxLen at hlen | apply And.intro; · first | assumption | and_intros <;> first | omega | assumption))
 refine callE (sEx_any a.e _) ?_
 refine wS tfPsT ?_
 (repeat revert X); refine wD aEQ_t ?_; repeat intro X hX
 obtain ⟨I10, hI10⟩ : ∃ I : F → M → Prop, ∀ f m', I f m' = (∃ k : Nat, k ≤ a.arms.length ∧ f 2 = .ep a.cs ∧ f 3 = .ep a.cs ∧ f 5 = pI k ∧ m = m') := ⟨_, fun _ _ => rfl⟩
 refine aLoop I10 (fun f m => a.arms.length - numOf (f 5)) ?_ ?_
 ·rw [hI10]; exact ⟨0, by omega, (by first | rfl | assumption), (by first | rfl | assumption), rfl, rfl⟩
 intro f m' hrel
 rw [hI10] at hrel
 obtain ⟨k10, hk10, h10_2, h10_3, z10, hm⟩ := hrel
 subst hm
 (repeat (first | refine aSeq fun X hX => ?_ | refine aReg ?_; simp -implicitDefEqProofs only [↓slp, slb, ↓reduceIte, reduceCtorEq, jA, jB, jE, tfPsT, h10_2, z10, pI] | apply hX; clear hX X | intro hlen; unfold maxLen at hlen))
 refine aIf ?_; simp -implicitDefEqProofs only [slb, ↓reduceIte]; refine ⟨fun hb => ?_, fun hb => ?_⟩
 ·have l10 : k10 < a.arms.length := by simpa using hb
  have g10 := getD_map Am.pv a.arms k10 l10
  have i10 : IntKind.i64.wrap ((k10 : Int) + 1) = ((k10 + 1 : Nat) : Int) := by rw [wrap64 (by omega)]; omega
  have q10 : (0 : Int) ≤ (k10 : Int) := by omega
  (repeat revert X); refine wD (And.intro tfPsT (And.intro h10_2 (And.intro h10_3 (And.intro z10 (And.intro @pI.eq_1 (And.intro g10 (And.intro l10 q10))))))) ?_; repeat intro X hX
  refine callE (hA a.arms[k10] (List.getElem_mem l10) _) ?_
  refine wS tfPsT ?_
  (repeat (first | refine aSeq fun X hX => ?_ | apply aBlk | refine aSkip ?_ | (first | refine aExit ?_ | refine aRet ?_); try simp only [slx, ↓reduceIte, jA, reduceCtorEq] | (first | apply aReg | refine aDrE ?_ | apply aIf); simp -implicitDefEqProofs only [forall_eq, ↓slp, slb, ↓reduceIte, reduceCtorEq, jA, jB, jC, jD, jE, jF, jG, jH, jI, jJ, jK, tfPsT, h10_2, h10_3, z10, pI, g10, i10, l10, q10, beq_self_eq_true, Bool.not_true, Bool.not_false, Bool.and_self, Bool.true_and]; try simp only [fo] | apply hX; clear hX X | clear hX X; apply hX; clear hX X | clear hX X; clear hX X; apply hX; clear hX X | intro hlen; unfold maxLen at hlen | apply And.intro; · first | assumption | and_intros <;> first | omega | assumption))
  refine callE (sWs_any a.arms[k10].unl _) ?_
  refine wS tfPsT ?_
  (repeat (first | refine aSeq fun X hX => ?_ | apply aBlk | refine aSkip ?_ | (first | refine aExit ?_ | refine aRet ?_); try simp only [slx, ↓reduceIte, jA, reduceCtorEq] | (first | apply aReg | refine aDrE ?_ | apply aIf); simp -implicitDefEqProofs only [forall_eq, ↓slp, slb, ↓reduceIte, reduceCtorEq, jA, jB, jC, jD, jE, jF, jG, jH, jI, jJ, jK, tfPsT, h10_2, h10_3, z10, pI, g10, i10, l10, q10, beq_self_eq_true, Bool.not_true, Bool.not_false, Bool.and_self, Bool.true_and]; try simp only [fo] | apply hX; clear hX X | clear hX X; apply hX; clear hX X | clear hX X; clear hX X; apply hX; clear hX X | intro hlen; unfold maxLen at hlen | apply And.intro; · first | assumption | and_intros <;> first | omega | assumption))
  refine callE (sWs_any a.arms[k10].til _) ?_
  refine wS (And.intro z10 @pI.eq_1) ?_
  (repeat (first | refine aSkip ?_ | (first | apply aReg | apply aIf); simp -implicitDefEqProofs only [↓slp, slb, ↓reduceIte, jA, z10, pI, i10] | apply hX; clear hX X))
  rw [hI10]
  refine ⟨⟨k10 + 1, l10, h10_2, h10_3, rfl, rfl⟩, ?_⟩
  first | omega | (simp only [↓slp, slb, ↓reduceIte, reduceCtorEq, jA, jB, jC, jD, jE, jF, jG, jH, jI, jJ, jK, z10, pI, numOf, Int.toNat_natCast]; omega)
 ·clear hb
  (repeat revert X); refine wD aEQ_t ?_; repeat intro X hX
  refine wR Tryz.results83 ?_
  exact leave_same rfl ⟨rfl, rfl⟩
set_option maxHeartbeats 4000000 in
theorem sBk_step (V : List Va) (Q : List Qu) (hQ : ∀ x ∈ Q, ∀ m : M, ACalls Tryz.prog 83 [x.pv, x.pv] m (fun v m' => v = pB true ∧ m' = m)) (m : M) : ACalls Tryz.prog 60 [bkV V Q, bkV V Q] m (fun v m' => v = pB true ∧ m' = m) := by
 refine eN [] Tryz.func60 ?_
 (repeat revert X); refine wD tfPsT ?_; repeat intro X hX
 refine callE (sVs_any V _) ?_
 refine wS tfPsT ?_
 (repeat revert X); refine wD aEQ_t ?_; repeat intro X hX
 obtain ⟨I11, hI11⟩ : ∃ I : F → M → Prop, ∀ f m', I f m' = (∃ k : Nat, k ≤ Q.length ∧ f 2 = .ep [.sl .no (V.map Va.pv), .sl .no (Q.map Qu.pv)] ∧ f 3 = .ep [.sl .no (V.map Va.pv), .sl .no (Q.map Qu.pv)] ∧ f 5 = pI k ∧ m = m') := ⟨_, fun _ _ => rfl⟩
 refine aLoop I11 (fun f m => Q.length - numOf (f 5)) ?_ ?_
 ·rw [hI11]; exact ⟨0, by omega, (by first | rfl | assumption), (by first | rfl | assumption), rfl, rfl⟩
 intro f m' hrel
 rw [hI11] at hrel
 obtain ⟨k11, hk11, h11_2, h11_3, z11, hm⟩ := hrel
 subst hm
 (repeat (first | refine aSeq fun X hX => ?_ | refine aReg ?_; simp -implicitDefEqProofs only [↓slp, slb, ↓reduceIte, reduceCtorEq, jA, jB, jE, tfPsT, h11_2, z11, pI] | apply hX; clear hX X | intro hlen; unfold maxLen at hlen))
 refine aIf ?_; simp -implicitDefEqProofs only [slb, ↓reduceIte]; refine ⟨fun hb => ?_, fun hb => ?_⟩
 ·have l11 : k11 < Q.length := by simpa using hb
  have g11 := getD_map Qu.pv Q k11 l11
  have i11 : IntKind.i64.wrap ((k11 : Int) + 1) = ((k11 + 1 : Nat) : Int) := by rw [wrap64 (by omega)]; omega
  have q11 : (0 : Int) ≤ (k11 : Int) := by omega
  (repeat revert X); refine wD (And.intro tfPsT (And.intro h11_2 (And.intro h11_3 (And.intro z11 (And.intro @pI.eq_1 (And.intro g11 (And.intro l11 q11))))))) ?_; repeat intro X hX
  refine callE (by have h := hQ Q[k11] (List.getElem_mem l11) m; rw [Qu.pv_eq] at h; exact h) ?_
  refine wS (And.intro z11 @pI.eq_1) ?_
  (repeat (first | refine aSkip ?_ | (first | apply aReg | apply aIf); simp -implicitDefEqProofs only [↓slp, slb, ↓reduceIte, jA, z11, pI, i11] | apply hX; clear hX X))
  rw [hI11]
  refine ⟨⟨k11 + 1, l11, h11_2, h11_3, rfl, rfl⟩, ?_⟩
  first | omega | (simp only [↓slp, slb, ↓reduceIte, reduceCtorEq, jA, jB, jC, jD, jE, jF, jG, jH, jI, jJ, jK, z11, pI, numOf, Int.toNat_natCast]; omega)
 ·clear hb
  (repeat revert X); refine wD aEQ_t ?_; repeat intro X hX
  refine wR Tryz.results60 ?_
  exact leave_same rfl ⟨rfl, rfl⟩
theorem arm_lt {Q : List Qu} {x : Qu} {z : Am} (hx : x ∈ Q) (hz : z ∈ x.arms) : SizeOf.sizeOf z.eqs < SizeOf.sizeOf Q := by
 have h1 := List.sizeOf_lt_of_mem hx
 have h2 := List.sizeOf_lt_of_mem hz
 have h3 : SizeOf.sizeOf x.arms < SizeOf.sizeOf x := by cases x; simp only [Qu.arms, Qu.mk.sizeOf_spec]; omega
 have h4 : SizeOf.sizeOf z.eqs < SizeOf.sizeOf z := by cases z; simp only [Am.eqs, Am.mk.sizeOf_spec]; omega
 omega
theorem sBk_any (V : List Va) (Q : List Qu) (m : M) : ACalls Tryz.prog 60 [bkV V Q, bkV V Q] m (fun v m' => v = pB true ∧ m' = m) :=
 sBk_step V Q (fun x hx m => sEq_step x (fun z hz m => sBk_any z.vars z.eqs m) m) m
termination_by SizeOf.sizeOf Q
decreasing_by exact arm_lt hx hz
set_option maxHeartbeats 4000000 in
theorem aBk_step (V : List Va) (Q : List Qu) (hA : ∀ x ∈ Q, ∀ z ∈ x.arms, ∀ m : M, ACalls Tryz.prog 62 [bkV z.vars z.eqs, bkV z.vars z.eqs] m (fun v m' => v = pB true ∧ m' = m)) (m : M) : ACalls Tryz.prog 62 [bkV V Q, bkV V Q] m (fun v m' => v = pB true ∧ m' = m) := by
 refine eN [] Tryz.func62 ?_
 (repeat revert X); refine wD tfPsT ?_; repeat intro X hX
 refine callE (aVs_any V _) ?_
 refine wS aEQ_t ?_
 (repeat revert X); refine wD aEQ_t ?_; repeat intro X hX
 obtain ⟨I12, hI12⟩ : ∃ I : F → M → Prop, ∀ f m', I f m' = (∃ k : Nat, k ≤ Q.length ∧ f 2 = .ep [.sl .no (V.map Va.pv), .sl .no (Q.map Qu.pv)] ∧ f 3 = .ep [.sl .no (V.map Va.pv), .sl .no (Q.map Qu.pv)] ∧ f 5 = pI k ∧ m = m') := ⟨_, fun _ _ => rfl⟩
 refine aLoop I12 (fun f m => Q.length - numOf (f 5)) ?_ ?_
 ·rw [hI12]; exact ⟨0, by omega, (by first | rfl | assumption), (by first | rfl | assumption), rfl, rfl⟩
 intro f m' hrel
 rw [hI12] at hrel
 obtain ⟨k12, hk12, h12_2, h12_3, z12, hm⟩ := hrel
 subst hm
 (repeat (first | refine aSeq fun X hX => ?_ | refine aReg ?_; simp -implicitDefEqProofs only [↓slp, slb, ↓reduceIte, reduceCtorEq, jA, jB, jE, tfPsT, h12_2, z12, pI] | apply hX; clear hX X | intro hlen; unfold maxLen at hlen))
 refine aIf ?_; simp -implicitDefEqProofs only [slb, ↓reduceIte]; refine ⟨fun hb => ?_, fun hb => ?_⟩
 ·have l12 : k12 < Q.length := by simpa using hb
  have g12 := getD_map Qu.pv Q k12 l12
  have i12 : IntKind.i64.wrap ((k12 : Int) + 1) = ((k12 + 1 : Nat) : Int) := by rw [wrap64 (by omega)]; omega
  have q12 : (0 : Int) ≤ (k12 : Int) := by omega
  (repeat revert X); refine wD (And.intro tfPsT (And.intro h12_2 (And.intro h12_3 (And.intro z12 (And.intro @pI.eq_1 (And.intro g12 (And.intro l12 q12))))))) ?_; repeat intro X hX
  refine callE (sAt_any Q[k12].e _) ?_
  refine wS (And.intro z12 @pI.eq_1) ?_
  (repeat revert X); refine wD (And.intro z12 @pI.eq_1) ?_; repeat intro X hX
  obtain ⟨I14, hI14⟩ : ∃ I : F → M → Prop, ∀ f m', I f m' = (∃ k : Nat, k ≤ Q[k12].args.length ∧ f 2 = .ep [.sl .no (V.map Va.pv), .sl .no (Q.map Qu.pv)] ∧ f 3 = .ep [.sl .no (V.map Va.pv), .sl .no (Q.map Qu.pv)] ∧ f 5 = pI k12 ∧ f 6 = .ep Q[k12].cs ∧ f 7 = .ep Q[k12].cs ∧ f 8 = pI k ∧ m = m') := ⟨_, fun _ _ => rfl⟩
  refine aLoop I14 (fun f m => Q[k12].args.length - numOf (f 8)) ?_ ?_
  ·rw [hI14]; exact ⟨0, by omega, (by first | rfl | assumption), (by first | rfl | assumption), (by first | rfl | assumption), (by first | rfl | assumption), (by first | rfl | assumption), rfl, rfl⟩
  intro f m' hrel
  rw [hI14] at hrel
  obtain ⟨k14, hk14, h14_2, h14_3, h14_5, h14_6, h14_7, z14, hm⟩ := hrel
  subst hm
  (repeat (first | refine aSeq fun X hX => ?_ | refine aReg ?_; simp -implicitDefEqProofs only [↓slp, slb, ↓reduceIte, reduceCtorEq, jA, jB, jE, tfPsT, h14_6, z14, pI] | apply hX; clear hX X | intro hlen; unfold maxLen at hlen))
  refine aIf ?_; simp -implicitDefEqProofs only [slb, ↓reduceIte]; refine ⟨fun hb => ?_, fun hb => ?_⟩
  ·have l14 : k14 < Q[k12].args.length := by simpa using hb
   have g14 := getD_map Ex.pv Q[k12].args k14 l14
   have i14 : IntKind.i64.wrap ((k14 : Int) + 1) = ((k14 + 1 : Nat) : Int) := by rw [wrap64 (by omega)]; omega
   have q14 : (0 : Int) ≤ (k14 : Int) := by omega
   (repeat revert X); refine wD (And.intro tfPsT (And.intro h14_6 (And.intro h14_7 (And.intro z14 (And.intro @pI.eq_1 (And.intro g14 (And.intro l14 q14))))))) ?_; repeat intro X hX
   refine callE (sAt_any Q[k12].args[k14] _) ?_
   refine wS (And.intro z14 @pI.eq_1) ?_
   (repeat (first | refine aSkip ?_ | (first | apply aReg | apply aIf); simp -implicitDefEqProofs only [↓slp, slb, ↓reduceIte, jA, tfPsT, z14, pI, i14]; try simp only [fo] | apply hX; clear hX X))
   rw [hI14]
   refine ⟨⟨k14 + 1, l14, h14_2, h14_3, h14_5, h14_6, h14_7, rfl, rfl⟩, ?_⟩
   first | omega | (simp only [↓slp, slb, ↓reduceIte, reduceCtorEq, jA, jB, jC, jD, jE, jF, jG, jH, jI, jJ, jK, z14, pI, numOf, Int.toNat_natCast]; omega)
  ·clear hb
   (repeat revert X); refine wD aEQ_t ?_; repeat intro X hX
   obtain ⟨I13, hI13⟩ : ∃ I : F → M → Prop, ∀ f m', I f m' = (∃ k : Nat, k ≤ Q[k12].arms.length ∧ f 2 = .ep [.sl .no (V.map Va.pv), .sl .no (Q.map Qu.pv)] ∧ f 3 = .ep [.sl .no (V.map Va.pv), .sl .no (Q.map Qu.pv)] ∧ f 5 = pI k12 ∧ f 6 = .ep Q[k12].cs ∧ f 7 = .ep Q[k12].cs ∧ f 9 = pI k ∧ m = m') := ⟨_, fun _ _ => rfl⟩
   refine aLoop I13 (fun f m => Q[k12].arms.length - numOf (f 9)) ?_ ?_
   ·rw [hI13]; exact ⟨0, by omega, (by first | rfl | assumption), (by first | rfl | assumption), (by first | rfl | assumption), (by first | rfl | assumption), (by first | rfl | assumption), rfl, rfl⟩
   intro f m' hrel
   rw [hI13] at hrel
   obtain ⟨k13, hk13, h13_2, h13_3, h13_5, h13_6, h13_7, z13, hm⟩ := hrel
   subst hm
   (repeat (first | refine aSeq fun X hX => ?_ | refine aReg ?_; simp -implicitDefEqProofs only [↓slp, slb, ↓reduceIte, reduceCtorEq, jA, jB, jE, tfPsT, h13_6, z13, pI] | apply hX; clear hX X | intro hlen; unfold maxLen at hlen))
   refine aIf ?_; simp -implicitDefEqProofs only [slb, ↓reduceIte]; refine ⟨fun hb => ?_, fun hb => ?_⟩
   ·have l13 : k13 < Q[k12].arms.length := by simpa using hb
    have g13 := getD_map Am.pv Q[k12].arms k13 l13
    have i13 : IntKind.i64.wrap ((k13 : Int) + 1) = ((k13 + 1 : Nat) : Int) := by rw [wrap64 (by omega)]; omega
    have q13 : (0 : Int) ≤ (k13 : Int) := by omega
    (repeat revert X); refine wD (And.intro tfPsT (And.intro h13_6 (And.intro h13_7 (And.intro z13 (And.intro @pI.eq_1 (And.intro g13 (And.intro l13 q13))))))) ?_; repeat intro X hX
    refine callE (hA Q[k12] (List.getElem_mem l12) Q[k12].arms[k13] (List.getElem_mem l13) _) ?_
    simp -implicitDefEqProofs only [↓slp, slb, ↓reduceIte, reduceCtorEq, jA, jB, jE, tfPsT, h13_6, h13_7, z13, pI, g13, l13, q13]
    (repeat (first | refine aSeq fun X hX => ?_ | apply aBlk | refine aSkip ?_ | (first | refine aExit ?_ | refine aRet ?_); try simp only [slx, ↓reduceIte, jA, reduceCtorEq] | (first | apply aReg | refine aDrE ?_ | apply aIf); simp -implicitDefEqProofs only [forall_eq, ↓slp, slb, ↓reduceIte, reduceCtorEq, jA, jB, jC, jD, jE, jF, jG, jH, jI, jJ, jK, tfPsT, h13_2, h13_3, h13_5, h13_6, h13_7, z13, pI, g13, i13, l13, q13, beq_self_eq_true, Bool.not_true, Bool.not_false, Bool.and_self, Bool.true_and]; try simp only [fo] | apply hX; clear hX X | clear hX X; apply hX; clear hX X | clear hX X; clear hX X; apply hX; clear hX X | intro hlen; unfold maxLen at hlen | apply And.intro; · first | assumption | and_intros <;> first | omega | assumption))
    refine callE (aWs_any Q[k12].arms[k13].unl _) ?_
    simp -implicitDefEqProofs only [↓slp, slb, ↓reduceIte, reduceCtorEq, jA, jB, jE, tfPsT, h13_6, h13_7, z13, pI, g13, l13, q13]
    (repeat (first | refine aSeq fun X hX => ?_ | apply aBlk | refine aSkip ?_ | (first | refine aExit ?_ | refine aRet ?_); try simp only [slx, ↓reduceIte, jA, reduceCtorEq] | (first | apply aReg | refine aDrE ?_ | apply aIf); simp -implicitDefEqProofs only [forall_eq, ↓slp, slb, ↓reduceIte, reduceCtorEq, jA, jB, jC, jD, jE, jF, jG, jH, jI, jJ, jK, tfPsT, h13_2, h13_3, h13_5, h13_6, h13_7, z13, pI, g13, i13, l13, q13, beq_self_eq_true, Bool.not_true, Bool.not_false, Bool.and_self, Bool.true_and]; try simp only [fo] | apply hX; clear hX X | clear hX X; apply hX; clear hX X | clear hX X; clear hX X; apply hX; clear hX X | intro hlen; unfold maxLen at hlen | apply And.intro; · first | assumption | and_intros <;> first | omega | assumption))
    refine callE (aWs_any Q[k12].arms[k13].til _) ?_
    refine wS (And.intro z13 @pI.eq_1) ?_
    (repeat (first | refine aSkip ?_ | (first | apply aReg | apply aIf); simp -implicitDefEqProofs only [↓slp, slb, ↓reduceIte, jA, z13, pI, i13] | apply hX; clear hX X))
    rw [hI13]
    refine ⟨⟨k13 + 1, l13, h13_2, h13_3, h13_5, h13_6, h13_7, rfl, rfl⟩, ?_⟩
    first | omega | (simp only [↓slp, slb, ↓reduceIte, reduceCtorEq, jA, jB, jC, jD, jE, jF, jG, jH, jI, jJ, jK, z13, pI, numOf, Int.toNat_natCast]; omega)
   ·clear hb
    (repeat (first | refine aExit ?_; try simp only [slx, ↓reduceIte, jA, reduceCtorEq] | refine aReg ?_; simp -implicitDefEqProofs only [↓slp, slb, ↓reduceIte, jA, h13_5, pI, i12] | clear hX X; apply hX; clear hX X))
    rw [hI12]
    refine ⟨⟨k12 + 1, l12, h13_2, h13_3, rfl, rfl⟩, ?_⟩
    first | omega | (simp only [↓slp, slb, ↓reduceIte, reduceCtorEq, jA, jB, jC, jD, jE, jF, jG, jH, jI, jJ, jK, z12, h13_5, pI, numOf, Int.toNat_natCast]; omega)
 ·clear hb
  (repeat revert X); refine wD aEQ_t ?_; repeat intro X hX
  refine wR Tryz.results62 ?_
  exact leave_same rfl ⟨rfl, rfl⟩
theorem aBk_any (V : List Va) (Q : List Qu) (m : M) : ACalls Tryz.prog 62 [bkV V Q, bkV V Q] m (fun v m' => v = pB true ∧ m' = m) :=
 aBk_step V Q (fun x hx z hz m => aBk_any z.vars z.eqs m) m
termination_by SizeOf.sizeOf Q
decreasing_by exact arm_lt hx hz
set_option maxHeartbeats 4000000 in
theorem sPr_any (E : List En) (l : List No) (m : M) : ACalls Tryz.prog 27 [prV E l, prV E l] m (fun v m' => v = pB true ∧ m' = m) := by
 refine eN [] Tryz.func27 ?_
 (repeat revert X); refine wD tfPsT ?_; repeat intro X hX
 obtain ⟨I16, hI16⟩ : ∃ I : F → M → Prop, ∀ f m', I f m' = (∃ k : Nat, k ≤ E.length ∧ f 2 = .ep [.sl .no (E.map En.pv), .sl .no (l.map No.pv)] ∧ f 3 = .ep [.sl .no (E.map En.pv), .sl .no (l.map No.pv)] ∧ f 5 = pI k ∧ m = m') := ⟨_, fun _ _ => rfl⟩
 refine aLoop I16 (fun f m => E.length - numOf (f 5)) ?_ ?_
 ·rw [hI16]; exact ⟨0, by omega, (by first | rfl | assumption), (by first | rfl | assumption), rfl, rfl⟩
 intro f m' hrel
 rw [hI16] at hrel
 obtain ⟨k16, hk16, h16_2, h16_3, z16, hm⟩ := hrel
 subst hm
 (repeat (first | refine aSeq fun X hX => ?_ | refine aReg ?_; simp -implicitDefEqProofs only [↓slp, slb, ↓reduceIte, reduceCtorEq, jA, jB, jE, tfPsT, h16_2, z16, pI] | apply hX; clear hX X | intro hlen; unfold maxLen at hlen))
 refine aIf ?_; simp -implicitDefEqProofs only [slb, ↓reduceIte]; refine ⟨fun hb => ?_, fun hb => ?_⟩
 ·have l16 : k16 < E.length := by simpa using hb
  have g16 := getD_map En.pv E k16 l16
  have i16 : IntKind.i64.wrap ((k16 : Int) + 1) = ((k16 + 1 : Nat) : Int) := by rw [wrap64 (by omega)]; omega
  have q16 : (0 : Int) ≤ (k16 : Int) := by omega
  (repeat revert X); refine wD (And.intro tfPsT (And.intro h16_2 (And.intro h16_3 (And.intro z16 (And.intro @pI.eq_1 (And.intro g16 (And.intro l16 q16))))))) ?_; repeat intro X hX
  refine callE (sNs_any E[k16].ctors _) ?_
  refine wS (And.intro z16 @pI.eq_1) ?_
  (repeat (first | refine aSkip ?_ | (first | apply aReg | apply aIf); simp -implicitDefEqProofs only [↓slp, slb, ↓reduceIte, jA, z16, pI, i16] | apply hX; clear hX X))
  rw [hI16]
  refine ⟨⟨k16 + 1, l16, h16_2, h16_3, rfl, rfl⟩, ?_⟩
  first | omega | (simp only [↓slp, slb, ↓reduceIte, reduceCtorEq, jA, jB, jC, jD, jE, jF, jG, jH, jI, jJ, jK, z16, pI, numOf, Int.toNat_natCast]; omega)
 ·clear hb
  (repeat revert X); refine wD aEQ_t ?_; repeat intro X hX
  obtain ⟨I15, hI15⟩ : ∃ I : F → M → Prop, ∀ f m', I f m' = (∃ k : Nat, k ≤ l.length ∧ f 2 = .ep [.sl .no (E.map En.pv), .sl .no (l.map No.pv)] ∧ f 3 = .ep [.sl .no (E.map En.pv), .sl .no (l.map No.pv)] ∧ f 6 = pI k ∧ m = m') := ⟨_, fun _ _ => rfl⟩
  refine aLoop I15 (fun f m => l.length - numOf (f 6)) ?_ ?_
  ·rw [hI15]; exact ⟨0, by omega, (by first | rfl | assumption), (by first | rfl | assumption), rfl, rfl⟩
  intro f m' hrel
  rw [hI15] at hrel
  obtain ⟨k15, hk15, h15_2, h15_3, z15, hm⟩ := hrel
  subst hm
  (repeat (first | refine aSeq fun X hX => ?_ | refine aReg ?_; simp -implicitDefEqProofs only [↓slp, slb, ↓reduceIte, reduceCtorEq, jA, jB, jE, tfPsT, h15_2, z15, pI] | apply hX; clear hX X | intro hlen; unfold maxLen at hlen))
  refine aIf ?_; simp -implicitDefEqProofs only [slb, ↓reduceIte]; refine ⟨fun hb => ?_, fun hb => ?_⟩
  ·have l15 : k15 < l.length := by simpa using hb
   have g15 := getD_map No.pv l k15 l15
   have i15 : IntKind.i64.wrap ((k15 : Int) + 1) = ((k15 + 1 : Nat) : Int) := by rw [wrap64 (by omega)]; omega
   have q15 : (0 : Int) ≤ (k15 : Int) := by omega
   (repeat revert X); refine wD (And.intro tfPsT (And.intro h15_2 (And.intro h15_3 (And.intro z15 (And.intro @pI.eq_1 (And.intro g15 (And.intro l15 q15))))))) ?_; repeat intro X hX
   refine callE (sVs_any l[k15].ins _) ?_
   refine wS tfPsT ?_
   (repeat (first | refine aSeq fun X hX => ?_ | apply aBlk | refine aSkip ?_ | (first | refine aExit ?_ | refine aRet ?_); try simp only [slx, ↓reduceIte, jA, reduceCtorEq] | (first | apply aReg | refine aDrE ?_ | apply aIf); simp -implicitDefEqProofs only [forall_eq, ↓slp, slb, ↓reduceIte, reduceCtorEq, jA, jB, jC, jD, jE, jF, jG, jH, jI, jJ, jK, tfPsT, h15_2, h15_3, z15, pI, g15, i15, l15, q15, beq_self_eq_true, Bool.not_true, Bool.not_false, Bool.and_self, Bool.true_and]; try simp only [fo] | apply hX; clear hX X | clear hX X; apply hX; clear hX X | clear hX X; clear hX X; apply hX; clear hX X | intro hlen; unfold maxLen at hlen | apply And.intro; · first | assumption | and_intros <;> first | omega | assumption))
   refine callE (sVs_any l[k15].outs _) ?_
   refine wS tfPsT ?_
   (repeat (first | refine aSeq fun X hX => ?_ | apply aBlk | refine aSkip ?_ | (first | refine aExit ?_ | refine aRet ?_); try simp only [slx, ↓reduceIte, jA, reduceCtorEq] | (first | apply aReg | refine aDrE ?_ | apply aIf); simp -implicitDefEqProofs only [forall_eq, ↓slp, slb, ↓reduceIte, reduceCtorEq, jA, jB, jC, jD, jE, jF, jG, jH, jI, jJ, jK, tfPsT, h15_2, h15_3, z15, pI, g15, i15, l15, q15, beq_self_eq_true, Bool.not_true, Bool.not_false, Bool.and_self, Bool.true_and]; try simp only [fo] | apply hX; clear hX X | clear hX X; apply hX; clear hX X | clear hX X; clear hX X; apply hX; clear hX X | intro hlen; unfold maxLen at hlen | apply And.intro; · first | assumption | and_intros <;> first | omega | assumption))
   refine callE (sBk_any l[k15].b.vars l[k15].b.eqs _) ?_
   refine wS (And.intro z15 @pI.eq_1) ?_
   (repeat (first | refine aSkip ?_ | (first | apply aReg | apply aIf); simp -implicitDefEqProofs only [↓slp, slb, ↓reduceIte, jA, z15, pI, i15] | apply hX; clear hX X))
   rw [hI15]
   refine ⟨⟨k15 + 1, l15, h15_2, h15_3, rfl, rfl⟩, ?_⟩
   first | omega | (simp only [↓slp, slb, ↓reduceIte, reduceCtorEq, jA, jB, jC, jD, jE, jF, jG, jH, jI, jJ, jK, z15, pI, numOf, Int.toNat_natCast]; omega)
  ·clear hb
   (repeat revert X); refine wD aEQ_t ?_; repeat intro X hX
   refine wR Tryz.results27 ?_
   exact leave_same rfl ⟨rfl, rfl⟩
set_option maxHeartbeats 4000000 in
theorem aPr_any (E : List En) (l : List No) (m : M) : ACalls Tryz.prog 28 [prV E l, prV E l] m (fun v m' => v = pB true ∧ m' = m) := by
 refine eN [] Tryz.func28 ?_
 (repeat revert X); refine wD aEQ_t ?_; repeat intro X hX
 obtain ⟨I18, hI18⟩ : ∃ I : F → M → Prop, ∀ f m', I f m' = (∃ k : Nat, k ≤ E.length ∧ f 2 = .ep [.sl .no (E.map En.pv), .sl .no (l.map No.pv)] ∧ f 3 = .ep [.sl .no (E.map En.pv), .sl .no (l.map No.pv)] ∧ f 5 = pI k ∧ m = m') := ⟨_, fun _ _ => rfl⟩
 refine aLoop I18 (fun f m => E.length - numOf (f 5)) ?_ ?_
 ·rw [hI18]; exact ⟨0, by omega, (by first | rfl | assumption), (by first | rfl | assumption), rfl, rfl⟩
 intro f m' hrel
 rw [hI18] at hrel
 obtain ⟨k18, hk18, h18_2, h18_3, z18, hm⟩ := hrel
 subst hm
 (repeat (first | refine aSeq fun X hX => ?_ | refine aReg ?_; simp -implicitDefEqProofs only [↓slp, slb, ↓reduceIte, reduceCtorEq, jA, jB, jE, tfPsT, h18_2, z18, pI] | apply hX; clear hX X | intro hlen; unfold maxLen at hlen))
 refine aIf ?_; simp -implicitDefEqProofs only [slb, ↓reduceIte]; refine ⟨fun hb => ?_, fun hb => ?_⟩
 ·have l18 : k18 < E.length := by simpa using hb
  have g18 := getD_map En.pv E k18 l18
  have i18 : IntKind.i64.wrap ((k18 : Int) + 1) = ((k18 + 1 : Nat) : Int) := by rw [wrap64 (by omega)]; omega
  have q18 : (0 : Int) ≤ (k18 : Int) := by omega
  (repeat (first | refine aSeq fun X hX => ?_ | refine aSkip ?_ | (first | apply aReg | refine aDrE ?_ | apply aIf); simp -implicitDefEqProofs only [↓slp, slb, ↓reduceIte, reduceCtorEq, jA, jB, jE, tfPsT, h18_2, h18_3, z18, pI, g18, i18, l18, q18] | apply hX; clear hX X))
  skip
  rw [hI18]
  refine ⟨⟨k18 + 1, l18, h18_2, h18_3, rfl, rfl⟩, ?_⟩
  first | omega | (simp only [↓slp, slb, ↓reduceIte, reduceCtorEq, jA, jB, jC, jD, jE, jF, jG, jH, jI, jJ, jK, z18, pI, numOf, Int.toNat_natCast]; omega)
 ·clear hb
  (repeat revert X); refine wD aEQ_t ?_; repeat intro X hX
  obtain ⟨I17, hI17⟩ : ∃ I : F → M → Prop, ∀ f m', I f m' = (∃ k : Nat, k ≤ l.length ∧ f 2 = .ep [.sl .no (E.map En.pv), .sl .no (l.map No.pv)] ∧ f 3 = .ep [.sl .no (E.map En.pv), .sl .no (l.map No.pv)] ∧ f 6 = pI k ∧ m = m') := ⟨_, fun _ _ => rfl⟩
  refine aLoop I17 (fun f m => l.length - numOf (f 6)) ?_ ?_
  ·rw [hI17]; exact ⟨0, by omega, (by first | rfl | assumption), (by first | rfl | assumption), rfl, rfl⟩
  intro f m' hrel
  rw [hI17] at hrel
  obtain ⟨k17, hk17, h17_2, h17_3, z17, hm⟩ := hrel
  subst hm
  (repeat (first | refine aSeq fun X hX => ?_ | refine aReg ?_; simp -implicitDefEqProofs only [↓slp, slb, ↓reduceIte, reduceCtorEq, jA, jB, jE, tfPsT, h17_2, z17, pI] | apply hX; clear hX X | intro hlen; unfold maxLen at hlen))
  refine aIf ?_; simp -implicitDefEqProofs only [slb, ↓reduceIte]; refine ⟨fun hb => ?_, fun hb => ?_⟩
  ·have l17 : k17 < l.length := by simpa using hb
   have g17 := getD_map No.pv l k17 l17
   have i17 : IntKind.i64.wrap ((k17 : Int) + 1) = ((k17 + 1 : Nat) : Int) := by rw [wrap64 (by omega)]; omega
   have q17 : (0 : Int) ≤ (k17 : Int) := by omega
   (repeat revert X); refine wD (And.intro tfPsT (And.intro h17_2 (And.intro h17_3 (And.intro z17 (And.intro @pI.eq_1 (And.intro g17 (And.intro l17 q17))))))) ?_; repeat intro X hX
   refine callE (aVs_any l[k17].ins _) ?_
   refine wS tfPsT ?_
   (repeat (first | refine aSeq fun X hX => ?_ | apply aBlk | refine aSkip ?_ | (first | refine aExit ?_ | refine aRet ?_); try simp only [slx, ↓reduceIte, jA, reduceCtorEq] | (first | apply aReg | refine aDrE ?_ | apply aIf); simp -implicitDefEqProofs only [forall_eq, ↓slp, slb, ↓reduceIte, reduceCtorEq, jA, jB, jC, jD, jE, jF, jG, jH, jI, jJ, jK, tfPsT, h17_2, h17_3, z17, pI, g17, i17, l17, q17, beq_self_eq_true, Bool.not_true, Bool.not_false, Bool.and_self, Bool.true_and]; try simp only [fo] | apply hX; clear hX X | clear hX X; apply hX; clear hX X | clear hX X; clear hX X; apply hX; clear hX X | intro hlen; unfold maxLen at hlen | apply And.intro; · first | assumption | and_intros <;> first | omega | assumption))
   refine callE (aVs_any l[k17].outs _) ?_
   refine wS tfPsT ?_
   (repeat (first | refine aSeq fun X hX => ?_ | apply aBlk | refine aSkip ?_ | (first | refine aExit ?_ | refine aRet ?_); try simp only [slx, ↓reduceIte, jA, reduceCtorEq] | (first | apply aReg | refine aDrE ?_ | apply aIf); simp -implicitDefEqProofs only [forall_eq, ↓slp, slb, ↓reduceIte, reduceCtorEq, jA, jB, jC, jD, jE, jF, jG, jH, jI, jJ, jK, tfPsT, h17_2, h17_3, z17, pI, g17, i17, l17, q17, beq_self_eq_true, Bool.not_true, Bool.not_false, Bool.and_self, Bool.true_and]; try simp only [fo] | apply hX; clear hX X | clear hX X; apply hX; clear hX X | clear hX X; clear hX X; apply hX; clear hX X | intro hlen; unfold maxLen at hlen | apply And.intro; · first | assumption | and_intros <;> first | omega | assumption))
   refine callE (aBk_any l[k17].b.vars l[k17].b.eqs _) ?_
   refine wS (And.intro z17 @pI.eq_1) ?_
   (repeat (first | refine aSkip ?_ | (first | apply aReg | apply aIf); simp -implicitDefEqProofs only [↓slp, slb, ↓reduceIte, jA, z17, pI, i17] | apply hX; clear hX X))
   rw [hI17]
   refine ⟨⟨k17 + 1, l17, h17_2, h17_3, rfl, rfl⟩, ?_⟩
   first | omega | (simp only [↓slp, slb, ↓reduceIte, reduceCtorEq, jA, jB, jC, jD, jE, jF, jG, jH, jI, jJ, jK, z17, pI, numOf, Int.toNat_natCast]; omega)
  ·clear hb
   (repeat revert X); refine wD aEQ_t ?_; repeat intro X hX
   refine wR Tryz.results28 ?_
   exact leave_same rfl ⟨rfl, rfl⟩
end Go.Proofs.YtohgdopfjkjppaaGreatDoor
