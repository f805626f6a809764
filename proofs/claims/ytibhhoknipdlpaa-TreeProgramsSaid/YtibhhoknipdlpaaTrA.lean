/-
 Texts that belong together: AbTr1, AbTr2.
-/
-- halved
import Derived.Test.YtibhhoknipdlpaaAbKit
import Derived.Test.YtibhhoknipdlpaaExA
/-
 Lists compared, place by place.
-/
set_option linter.unusedVariables false
set_option linter.unusedSimpArgs false
namespace Go.Proofs.Ytibhhoknipdlpaa
open Nat renaming reduceEqDiff → jA, reduceAdd → jB, reduceMul → jC, reduceLT → jD, reduceLeDiff → jE, reduceBEq → jF, reduceBNe → jG
open Int renaming reduceLE → jH, reduceLT → jI, reduceToNat → jJ, reduceEq → jK
open Go
set_option linter.defProp false
def Y2 := And.intro @slb (And.intro @td_3 (And.intro @zv_3 (And.intro @Try.underlying3 (And.intro @td_4 (And.intro @zv_4 (And.intro @Try.underlying4 (And.intro @td_5 (And.intro @zv_5 (And.intro @Try.underlying5 (And.intro @td_9 (And.intro @zv_9 (And.intro @Try.underlying9 (And.intro @td_21 (And.intro @zv_21 (And.intro @Try.underlying21 (And.intro @td_30 (And.intro @zv_30 (And.intro @tel_30 (And.intro @Try.underlying30 (And.intro @td_32 (And.intro @zv_32 (And.intro @tel_32 (And.intro @Try.underlying32 (And.intro @td_37 (And.intro @zv_37 (And.intro @tf_37 (And.intro @fl_37 (And.intro @td_41 (And.intro @zv_41 (And.intro @tel_41 (And.intro @Try.underlying41 (And.intro @td_44 (And.intro @zv_44 (And.intro @tf_44 (And.intro @td_49 (And.intro @zv_49 (And.intro @tf_49 (And.intro @fl_49 (And.intro @td_50 (And.intro @zv_50 (And.intro @tel_50 (And.intro @Try.underlying50 (And.intro @td_52 (And.intro @zv_52 (And.intro @tf_52 (And.intro @td_63 (And.intro @zv_63 (And.intro @tf_63 (And.intro @fl_63 (And.intro @Ex.settle_pv (And.intro @Ex.pure_pv (And.intro @Ex.cells_pv (And.intro @Ex.cs.eq_1 (And.intro @On.pv.eq_1 (And.intro @Ty.pv.eq_1 (And.intro @Va.settle_pv (And.intro @Va.pure_pv (And.intro @Va.cells_pv @Va.cs.eq_1))))))))))))))))))))))))))))))))))))))))))))))))))))))))))
-- TYPES: 3 4 5 9 21 30 32 37 41 44 49 50 52 63

set_option maxRecDepth 20000 in
set_option maxHeartbeats 400000 in
theorem sameNames_any (o o' : Own) (l r : List Str) (m : M) : ACalls Try.prog 11 [.sl o (l.map pS), .sl o' (r.map pS)] m (fun v m' => v = pB (sameL eqS l r) ∧ m' = m) := by
 refine ACalls.enter (mu := []) ok_mix Try.func11 rfl (by kernel_rfl) (by kernel_rfl) (by simp only [List.length_cons, List.length_nil, Try.ntmps11]; omega) ?_
 (repeat (first | refine aSeq fun X hX => ?_ | refine aReg ?_; simp -implicitDefEqProofs only [↓slp, ↓reduceIte, reduceCtorEq, jA, Y2] | apply hX; clear hX X | intro hlen; unfold maxLen at hlen))
 refine aIf ?_; simp -implicitDefEqProofs only [slb, ↓reduceIte]; refine ⟨fun hb => ?_, fun hb => ?_⟩
 ·(repeat (first | refine aSeq fun X hX => ?_ | refine aRet ?_; try simp only [slx, ↓reduceIte, jA, reduceCtorEq] | refine aReg ?_; simp -implicitDefEqProofs only [↓slp, slb] | apply hX; clear hX X))
  simp only [aPost, Try.results11, aRes_n, aRes_t, aRes_c, pack_one, pack_two]
  refine leave_same rfl ⟨?_, rfl⟩
  rw [sameL_ne (by simp at hb; omega)]; rfl
 have hl : l.length = r.length := by simp at hb; omega
 (repeat (first | refine aSeq fun X hX => ?_ | refine aBlk ?_ | refine aSkip ?_ | refine aReg ?_; simp -implicitDefEqProofs only [↓slp, slb] | apply hX; clear hX X))
 obtain ⟨I, hI⟩ : ∃ I : F → M → Prop, ∀ f m', I f m' = (∃ k : Nat, k ≤ l.length ∧ f 0 = .sl o (l.map pS) ∧ f 1 = .sl o' (r.map pS) ∧ f 5 = pI k ∧ sameL eqS l r = sameL eqS (l.drop k) (r.drop k) ∧ m' = m) := ⟨_, fun _ _ => rfl⟩
 refine aLoop I (fun f m => l.length - numOf (f 5)) ?_ ?_
 ·rw [hI]; exact ⟨0, by omega, rfl, rfl, rfl, rfl, rfl⟩
 intro f m' hrel
 rw [hI] at hrel
 obtain ⟨k, hk, h0, h1, h5, hs, rfl⟩ := hrel
 (repeat (first | refine aSeq fun X hX => ?_ | refine aReg ?_; simp -implicitDefEqProofs only [↓slp, ↓reduceIte, reduceCtorEq, jA, Y2, h0, h5, pI] | apply hX; clear hX X | intro hlen; unfold maxLen at hlen))
 refine aIf ?_; simp -implicitDefEqProofs only [slb, ↓reduceIte]; refine ⟨fun hb => ?_, fun hb => ?_⟩
 ·have hlt : k < l.length := by simpa using hb
  have hlt' : k < r.length := by omega
  have g0 := getD_map pS l k hlt
  have g1 := getD_map pS r k hlt'
  have hi : IntKind.i64.wrap ((k : Int) + 1) = ((k + 1 : Nat) : Int) := by rw [wrap64 (by omega)]; omega
  have hd := sameL_drop (R := eqS) hlt hlt'
  (repeat (first | refine aSeq fun X hX => ?_ | refine aSkip ?_ | refine aDrE ?_; simp -implicitDefEqProofs only [↓slp, ↓reduceIte, reduceCtorEq, jA, jB, Y2, h0, h1, h5, pI, g0, g1, pS] | apply hX; clear hX X | apply And.intro; focus omega))
  refine aIf ?_; simp -implicitDefEqProofs only [slb, ↓reduceIte]; refine ⟨fun hb => ?_, fun hb => ?_⟩
  ·(repeat (first | refine aSeq fun X hX => ?_ | refine aRet ?_; try simp only [slx, ↓reduceIte, jA, reduceCtorEq] | refine aReg ?_; simp -implicitDefEqProofs only [↓slp, slb] | apply hX; clear hX X))
   simp only [aPost, Try.results11, aRes_n, aRes_t, aRes_c, pack_one, pack_two]
   refine leave_same rfl ⟨?_, rfl⟩
   have : eqS l[k] r[k] = false := by
    cases h : eqS l[k] r[k] with
    | false => rfl
    | true => exfalso; simp [eqS] at h; simp [h] at hb
   rw [hs, hd, this]; rfl
  ·have he : eqS l[k] r[k] = true := by simp at hb; simp [eqS, hb]
   (repeat (first | refine aSkip ?_ | refine aReg ?_; simp -implicitDefEqProofs only [↓slp, slb, ↓reduceIte, jA, h5, pI, hi] | apply hX; clear hX X))
   rw [hI]
   refine ⟨⟨k + 1, hlt, h0, h1, rfl, by rw [hs, hd, he]; rfl, rfl⟩, ?_⟩
   first | omega | (simp only [↓slp, slb, ↓reduceIte, reduceCtorEq, jA, jB, jC, jD, jE, jF, jG, jH, jI, jJ, jK, h5, pI]; omega)
 ·have hlt : k = l.length := by simp at hb; omega
  subst hlt
  (repeat (first | refine aSeq fun X hX => ?_ | (first | refine aExit ?_ | refine aRet ?_); try simp only [slx, ↓reduceIte, jA, reduceCtorEq] | refine aReg ?_; simp -implicitDefEqProofs only [↓slp, slb] | apply hX; clear hX X | clear hX X; apply hX; clear hX X))
  simp only [aPost, Try.results11, aRes_n, aRes_t, aRes_c, pack_one, pack_two]
  refine leave_same rfl ⟨?_, rfl⟩
  rw [hs, sameL_end hl]; rfl

set_option maxRecDepth 20000 in
set_option maxHeartbeats 400000 in
theorem equalS_any (o o' : Own) (l r : List Str) (m : M) : ACalls Try.prog 78 [.sl o (l.map pS), .sl o' (r.map pS)] m (fun v m' => v = pB (sameL eqS l r) ∧ m' = m) := by
 refine ACalls.enter (mu := []) ok_mix Try.func78 rfl (by kernel_rfl) (by kernel_rfl) (by simp only [List.length_cons, List.length_nil, Try.ntmps78]; omega) ?_
 (repeat (first | refine aSeq fun X hX => ?_ | refine aReg ?_; simp -implicitDefEqProofs only [↓slp, ↓reduceIte, reduceCtorEq, jA, Y2] | apply hX; clear hX X | intro hlen; unfold maxLen at hlen))
 refine aIf ?_; simp -implicitDefEqProofs only [slb, ↓reduceIte]; refine ⟨fun hb => ?_, fun hb => ?_⟩
 ·(repeat (first | refine aSeq fun X hX => ?_ | refine aRet ?_; try simp only [slx, ↓reduceIte, jA, reduceCtorEq] | refine aReg ?_; simp -implicitDefEqProofs only [↓slp, slb] | apply hX; clear hX X))
  simp only [aPost, Try.results78, aRes_n, aRes_t, aRes_c, pack_one, pack_two]
  refine leave_same rfl ⟨?_, rfl⟩
  rw [sameL_ne (by simp at hb; omega)]; rfl
 have hl : l.length = r.length := by simp at hb; omega
 (repeat (first | refine aSeq fun X hX => ?_ | refine aBlk ?_ | refine aSkip ?_ | refine aReg ?_; simp -implicitDefEqProofs only [↓slp, ↓reduceIte, reduceCtorEq, Y2] | apply hX; clear hX X | intro hlen; unfold maxLen at hlen))
 obtain ⟨I, hI⟩ : ∃ I : F → M → Prop, ∀ f m', I f m' = (∃ k : Nat, k ≤ l.length ∧ f 0 = .sl o (l.map pS) ∧ f 1 = .sl o' (r.map pS) ∧ f 13 = pI k ∧ f 12 = pI l.length ∧ sameL eqS l r = sameL eqS (l.drop k) (r.drop k) ∧ m' = m) := ⟨_, fun _ _ => rfl⟩
 refine aLoop I (fun f m => l.length - numOf (f 13)) ?_ ?_
 ·rw [hI]; exact ⟨0, by omega, rfl, rfl, rfl, rfl, rfl, rfl⟩
 intro f m' hrel
 rw [hI] at hrel
 obtain ⟨k, hk, h0, h1, h13, h12, hs, rfl⟩ := hrel
 (repeat (first | refine aSeq fun X hX => ?_ | refine aReg ?_; simp -implicitDefEqProofs only [↓slp, slb, ↓reduceIte, h13, h12, pI] | apply hX; clear hX X))
 refine aIf ?_; simp -implicitDefEqProofs only [slb, ↓reduceIte]; refine ⟨fun hb => ?_, fun hb => ?_⟩
 ·have hlt : k < l.length := by simpa using hb
  have hlt' : k < r.length := by omega
  have g0 := getD_map pS l k hlt
  have g1 := getD_map pS r k hlt'
  have hi : IntKind.i64.wrap ((k : Int) + 1) = ((k + 1 : Nat) : Int) := by rw [wrap64 (by omega)]; omega
  have hd := sameL_drop (R := eqS) hlt hlt'
  (repeat (first | refine aSeq fun X hX => ?_ | refine aSkip ?_ | (first | apply aReg | refine aDrE ?_); simp -implicitDefEqProofs only [↓slp, ↓reduceIte, reduceCtorEq, jA, jB, Y2, h0, h1, h13, pI, g0, g1, pS] | apply hX; clear hX X | apply And.intro; focus omega))
  refine aIf ?_; simp -implicitDefEqProofs only [slb, ↓reduceIte]; refine ⟨fun hb => ?_, fun hb => ?_⟩
  ·(repeat (first | refine aSeq fun X hX => ?_ | refine aRet ?_; try simp only [slx, ↓reduceIte, jA, reduceCtorEq] | refine aReg ?_; simp -implicitDefEqProofs only [↓slp, slb] | apply hX; clear hX X))
   simp only [aPost, Try.results78, aRes_n, aRes_t, aRes_c, pack_one, pack_two]
   refine leave_same rfl ⟨?_, rfl⟩
   have : eqS l[k] r[k] = false := by
    cases h : eqS l[k] r[k] with
    | false => rfl
    | true => exfalso; simp [eqS] at h; simp [h] at hb
   rw [hs, hd, this]; rfl
  ·have he : eqS l[k] r[k] = true := by simp at hb; simp [eqS, hb]
   (repeat (first | refine aSkip ?_ | refine aReg ?_; simp -implicitDefEqProofs only [↓slp, slb, ↓reduceIte, jA, h13, pI, hi] | apply hX; clear hX X))
   rw [hI]
   refine ⟨⟨k + 1, hlt, h0, h1, rfl, h12, by rw [hs, hd, he]; rfl, rfl⟩, ?_⟩
   first | omega | (simp only [↓slp, slb, ↓reduceIte, reduceCtorEq, jA, jB, jC, jD, jE, jF, jG, jH, jI, jJ, jK, h13, h12, pI]; omega)
 ·have hlt : k = l.length := by simp at hb; omega
  subst hlt
  (repeat (first | refine aSeq fun X hX => ?_ | (first | refine aExit ?_ | refine aRet ?_); try simp only [slx, ↓reduceIte, jA, reduceCtorEq] | refine aReg ?_; simp -implicitDefEqProofs only [↓slp, slb] | apply hX; clear hX X | clear hX X; apply hX; clear hX X))
  simp only [aPost, Try.results78, aRes_n, aRes_t, aRes_c, pack_one, pack_two]
  refine leave_same rfl ⟨?_, rfl⟩
  rw [hs, sameL_end hl]; rfl

set_option maxRecDepth 20000 in
set_option maxHeartbeats 400000 in
theorem equalOn_any (o o' : Own) (l r : List On) (m : M) : ACalls Try.prog 60 [.sl o (l.map On.pv), .sl o' (r.map On.pv)] m (fun v m' => v = pB (sameL On.eq l r) ∧ m' = m) := by
 refine ACalls.enter (mu := []) ok_mix Try.func60 rfl (by kernel_rfl) (by kernel_rfl) (by simp only [List.length_cons, List.length_nil, Try.ntmps60]; omega) ?_
 (repeat (first | refine aSeq fun X hX => ?_ | refine aReg ?_; simp -implicitDefEqProofs only [↓slp, ↓reduceIte, reduceCtorEq, jA, Y2] | apply hX; clear hX X | intro hlen; unfold maxLen at hlen))
 refine aIf ?_; simp -implicitDefEqProofs only [slb, ↓reduceIte]; refine ⟨fun hb => ?_, fun hb => ?_⟩
 ·(repeat (first | refine aSeq fun X hX => ?_ | refine aRet ?_; try simp only [slx, ↓reduceIte, jA, reduceCtorEq] | refine aReg ?_; simp -implicitDefEqProofs only [↓slp, slb] | apply hX; clear hX X))
  simp only [aPost, Try.results60, aRes_n, aRes_t, aRes_c, pack_one, pack_two]
  refine leave_same rfl ⟨?_, rfl⟩
  rw [sameL_ne (by simp at hb; omega)]; rfl
 have hl : l.length = r.length := by simp at hb; omega
 (repeat (first | refine aSeq fun X hX => ?_ | refine aBlk ?_ | refine aSkip ?_ | refine aReg ?_; simp -implicitDefEqProofs only [↓slp, ↓reduceIte, reduceCtorEq, Y2] | apply hX; clear hX X | intro hlen; unfold maxLen at hlen))
 obtain ⟨I, hI⟩ : ∃ I : F → M → Prop, ∀ f m', I f m' = (∃ k : Nat, k ≤ l.length ∧ f 0 = .sl o (l.map On.pv) ∧ f 1 = .sl o' (r.map On.pv) ∧ f 13 = pI k ∧ f 12 = pI l.length ∧ sameL On.eq l r = sameL On.eq (l.drop k) (r.drop k) ∧ m' = m) := ⟨_, fun _ _ => rfl⟩
 refine aLoop I (fun f m => l.length - numOf (f 13)) ?_ ?_
 ·rw [hI]; exact ⟨0, by omega, rfl, rfl, rfl, rfl, rfl, rfl⟩
 intro f m' hrel
 rw [hI] at hrel
 obtain ⟨k, hk, h0, h1, h13, h12, hs, rfl⟩ := hrel
 (repeat (first | refine aSeq fun X hX => ?_ | refine aReg ?_; simp -implicitDefEqProofs only [↓slp, slb, ↓reduceIte, h13, h12, pI] | apply hX; clear hX X))
 refine aIf ?_; simp -implicitDefEqProofs only [slb, ↓reduceIte]; refine ⟨fun hb => ?_, fun hb => ?_⟩
 ·have hlt : k < l.length := by simpa using hb
  have hlt' : k < r.length := by omega
  have g0 := getD_map On.pv l k hlt
  have g1 := getD_map On.pv r k hlt'
  have hi : IntKind.i64.wrap ((k : Int) + 1) = ((k + 1 : Nat) : Int) := by rw [wrap64 (by omega)]; omega
  have hd := sameL_drop (R := On.eq) hlt hlt'
  (repeat (first | refine aSeq fun X hX => ?_ | refine aSkip ?_ | (first | apply aReg | refine aDrE ?_); simp -implicitDefEqProofs only [↓slp, ↓reduceIte, reduceCtorEq, jA, jB, jE, Y2, h0, h1, h13, pI, g0, g1] | apply hX; clear hX X | apply And.intro; focus omega))
  refine aIf ?_; simp -implicitDefEqProofs only [slb, ↓reduceIte]; refine ⟨fun hb => ?_, fun hb => ?_⟩
  ·(repeat (first | refine aSeq fun X hX => ?_ | refine aRet ?_; try simp only [slx, ↓reduceIte, jA, reduceCtorEq] | refine aReg ?_; simp -implicitDefEqProofs only [↓slp, slb] | apply hX; clear hX X))
   simp only [aPost, Try.results60, aRes_n, aRes_t, aRes_c, pack_one, pack_two]
   refine leave_same rfl ⟨?_, rfl⟩
   have : On.eq l[k] r[k] = false := by
    cases h : On.eq l[k] r[k] with
    | false => rfl
    | true => exfalso; simp [On.eq, eqS] at h; simp [h] at hb
   rw [hs, hd, this]; rfl
  ·have he : On.eq l[k] r[k] = true := by simp at hb; simp [On.eq, eqS, hb]
   (repeat (first | refine aSkip ?_ | refine aReg ?_; simp -implicitDefEqProofs only [↓slp, slb, ↓reduceIte, jA, h13, pI, hi] | apply hX; clear hX X))
   rw [hI]
   refine ⟨⟨k + 1, hlt, h0, h1, rfl, h12, by rw [hs, hd, he]; rfl, rfl⟩, ?_⟩
   first | omega | (simp only [↓slp, slb, ↓reduceIte, reduceCtorEq, jA, jB, jC, jD, jE, jF, jG, jH, jI, jJ, jK, h13, h12, pI]; omega)
 ·have hlt : k = l.length := by simp at hb; omega
  subst hlt
  (repeat (first | refine aSeq fun X hX => ?_ | (first | refine aExit ?_ | refine aRet ?_); try simp only [slx, ↓reduceIte, jA, reduceCtorEq] | refine aReg ?_; simp -implicitDefEqProofs only [↓slp, slb] | apply hX; clear hX X | clear hX X; apply hX; clear hX X))
  simp only [aPost, Try.results60, aRes_n, aRes_t, aRes_c, pack_one, pack_two]
  refine leave_same rfl ⟨?_, rfl⟩
  rw [hs, sameL_end hl]; rfl

set_option maxRecDepth 20000 in
set_option maxHeartbeats 400000 in
theorem sameClock_any (o o' : Own) (l r : List On) (m : M) : ACalls Try.prog 62 [.sl o (l.map On.pv), .sl o' (r.map On.pv)] m (fun v m' => v = pB (sameL On.eq l r) ∧ m' = m) := by
 refine ACalls.enter (mu := []) ok_mix Try.func62 rfl (by kernel_rfl) (by kernel_rfl) (by simp only [List.length_cons, List.length_nil, Try.ntmps62]; omega) ?_
 (repeat (first | refine aSeq fun X hX => ?_ | refine aReg ?_; simp -implicitDefEqProofs only [↓slp, ↓reduceIte, reduceCtorEq, jA, Y2] | apply hX; clear hX X | intro hlen; unfold maxLen at hlen))
 refine aIf ?_; simp -implicitDefEqProofs only [slb, ↓reduceIte]; refine ⟨fun hb => ?_, fun hb => ?_⟩
 ·(repeat (first | refine aSeq fun X hX => ?_ | refine aRet ?_; try simp only [slx, ↓reduceIte, jA, reduceCtorEq] | refine aReg ?_; simp -implicitDefEqProofs only [↓slp, slb] | apply hX; clear hX X))
  simp only [aPost, Try.results62, aRes_n, aRes_t, aRes_c, pack_one, pack_two]
  refine leave_same rfl ⟨?_, rfl⟩
  rw [sameL_ne (by simp at hb; omega)]; rfl
 have hl : l.length = r.length := by simp at hb; omega
 (repeat (first | refine aSeq fun X hX => ?_ | refine aBlk ?_ | refine aSkip ?_ | refine aReg ?_; simp -implicitDefEqProofs only [↓slp, slb] | apply hX; clear hX X))
 obtain ⟨I, hI⟩ : ∃ I : F → M → Prop, ∀ f m', I f m' = (∃ k : Nat, k ≤ l.length ∧ f 0 = .sl o (l.map On.pv) ∧ f 1 = .sl o' (r.map On.pv) ∧ f 5 = pI k ∧ sameL On.eq l r = sameL On.eq (l.drop k) (r.drop k) ∧ m' = m) := ⟨_, fun _ _ => rfl⟩
 refine aLoop I (fun f m => l.length - numOf (f 5)) ?_ ?_
 ·rw [hI]; exact ⟨0, by omega, rfl, rfl, rfl, rfl, rfl⟩
 intro f m' hrel
 rw [hI] at hrel
 obtain ⟨k, hk, h0, h1, h5, hs, rfl⟩ := hrel
 (repeat (first | refine aSeq fun X hX => ?_ | refine aReg ?_; simp -implicitDefEqProofs only [↓slp, ↓reduceIte, reduceCtorEq, jA, Y2, h0, h5, pI] | apply hX; clear hX X | intro hlen; unfold maxLen at hlen))
 refine aIf ?_; simp -implicitDefEqProofs only [slb, ↓reduceIte]; refine ⟨fun hb => ?_, fun hb => ?_⟩
 ·have hlt : k < l.length := by simpa using hb
  have hlt' : k < r.length := by omega
  have g0 := getD_map On.pv l k hlt
  have g1 := getD_map On.pv r k hlt'
  have hi : IntKind.i64.wrap ((k : Int) + 1) = ((k + 1 : Nat) : Int) := by rw [wrap64 (by omega)]; omega
  have hd := sameL_drop (R := On.eq) hlt hlt'
  (repeat (first | refine aSeq fun X hX => ?_ | refine aSkip ?_ | refine aDrE ?_; simp -implicitDefEqProofs only [↓slp, ↓reduceIte, reduceCtorEq, jA, jB, jE, Y2, h0, h1, h5, pI, g0, g1] | apply hX; clear hX X | apply And.intro; focus omega))
  refine aIf ?_; simp -implicitDefEqProofs only [slb, ↓reduceIte]; refine ⟨fun hb => ?_, fun hb => ?_⟩
  ·(repeat (first | refine aSeq fun X hX => ?_ | refine aRet ?_; try simp only [slx, ↓reduceIte, jA, reduceCtorEq] | refine aReg ?_; simp -implicitDefEqProofs only [↓slp, slb] | apply hX; clear hX X))
   simp only [aPost, Try.results62, aRes_n, aRes_t, aRes_c, pack_one, pack_two]
   refine leave_same rfl ⟨?_, rfl⟩
   have : On.eq l[k] r[k] = false := by
    cases h : On.eq l[k] r[k] with
    | false => rfl
    | true => exfalso; simp [On.eq, eqS] at h; simp [h] at hb
   rw [hs, hd, this]; rfl
  ·have he : On.eq l[k] r[k] = true := by simp at hb; simp [On.eq, eqS, hb]
   (repeat (first | refine aSkip ?_ | refine aReg ?_; simp -implicitDefEqProofs only [↓slp, slb, ↓reduceIte, jA, h5, pI, hi] | apply hX; clear hX X))
   rw [hI]
   refine ⟨⟨k + 1, hlt, h0, h1, rfl, by rw [hs, hd, he]; rfl, rfl⟩, ?_⟩
   first | omega | (simp only [↓slp, slb, ↓reduceIte, reduceCtorEq, jA, jB, jC, jD, jE, jF, jG, jH, jI, jJ, jK, h5, pI]; omega)
 ·have hlt : k = l.length := by simp at hb; omega
  subst hlt
  (repeat (first | refine aSeq fun X hX => ?_ | (first | refine aExit ?_ | refine aRet ?_); try simp only [slx, ↓reduceIte, jA, reduceCtorEq] | refine aReg ?_; simp -implicitDefEqProofs only [↓slp, slb] | apply hX; clear hX X | clear hX X; apply hX; clear hX X))
  simp only [aPost, Try.results62, aRes_n, aRes_t, aRes_c, pack_one, pack_two]
  refine leave_same rfl ⟨?_, rfl⟩
  rw [hs, sameL_end hl]; rfl
end Go.Proofs.Ytibhhoknipdlpaa

/-
 Expressions compared.
-/
set_option linter.unusedVariables false
set_option linter.unusedSimpArgs false
namespace Go.Proofs.Ytibhhoknipdlpaa
open Nat renaming reduceEqDiff → jA, reduceAdd → jB, reduceMul → jC, reduceLT → jD, reduceLeDiff → jE, reduceBEq → jF, reduceBNe → jG
open Int renaming reduceLE → jH, reduceLT → jI, reduceToNat → jJ, reduceEq → jK
open Go

-- TYPES: 3 4 5 9 21 30 32 37 41 44 49 50 52 63

set_option maxRecDepth 20000 in
set_option maxHeartbeats 400000 in
theorem eqFuncEx_any (o o' : Own) (l r : List Ex) (m : M) (hf : ∀ k (hk : k < l.length) (hk' : k < r.length) (m : M), ACalls Try.prog 61 [Ex.pv l[k], Ex.pv r[k]] m (fun v m' => v = pB (Ex.same l[k] r[k]) ∧ m' = m)) :
    ACalls Try.prog 92 [.sl o (l.map Ex.pv), .sl o' (r.map Ex.pv), .fn (.func 61) [] []] m (fun v m' => v = pB (sameL Ex.same l r) ∧ m' = m) := by
 refine ACalls.enter (mu := []) ok_mix Try.func92 rfl (by kernel_rfl) (by kernel_rfl) (by simp only [List.length_cons, List.length_nil, Try.ntmps92]; omega) ?_
 (repeat (first | refine aSeq fun X hX => ?_ | refine aReg ?_; simp -implicitDefEqProofs only [↓slp, ↓reduceIte, reduceCtorEq, jA, Y2] | apply hX; clear hX X | intro hlen; unfold maxLen at hlen))
 refine aIf ?_; simp -implicitDefEqProofs only [slb, ↓reduceIte]; refine ⟨fun hb => ?_, fun hb => ?_⟩
 ·(repeat (first | refine aSeq fun X hX => ?_ | refine aRet ?_; try simp only [slx, ↓reduceIte, jA, reduceCtorEq] | refine aReg ?_; simp -implicitDefEqProofs only [↓slp, slb] | apply hX; clear hX X))
  simp only [aPost, Try.results92, aRes_n, aRes_t, aRes_c, pack_one, pack_two]
  refine leave_same rfl ⟨?_, rfl⟩
  rw [sameL_ne (by simp at hb; omega)]; rfl
 have hl : l.length = r.length := by simp at hb; omega
 (repeat (first | refine aSeq fun X hX => ?_ | refine aBlk ?_ | refine aSkip ?_ | refine aReg ?_; simp -implicitDefEqProofs only [↓slp, ↓reduceIte, reduceCtorEq, Y2] | apply hX; clear hX X | intro hlen; unfold maxLen at hlen))
 obtain ⟨I, hI⟩ : ∃ I : F → M → Prop, ∀ f m', I f m' = (∃ k : Nat, k ≤ l.length ∧ f 1 = .sl o' (r.map Ex.pv) ∧ f 2 = .fn (.func 61) [] [] ∧ f 15 = .sl o (l.map Ex.pv) ∧ f 16 = pI l.length ∧ f 17 = pI k ∧ sameL Ex.same l r = sameL Ex.same (l.drop k) (r.drop k) ∧ m' = m) := ⟨_, fun _ _ => rfl⟩
 refine aLoop I (fun f m => l.length - numOf (f 17)) ?_ ?_
 ·rw [hI]; exact ⟨0, by omega, rfl, rfl, rfl, rfl, rfl, rfl, rfl⟩
 intro f m' hrel
 rw [hI] at hrel
 obtain ⟨k, hk, h1, h2, h15, h16, h17, hs, rfl⟩ := hrel
 (repeat (first | refine aSeq fun X hX => ?_ | refine aReg ?_; simp -implicitDefEqProofs only [↓slp, slb, ↓reduceIte, h16, h17, pI] | apply hX; clear hX X))
 refine aIf ?_; simp -implicitDefEqProofs only [slb, ↓reduceIte]; refine ⟨fun hb => ?_, fun hb => ?_⟩
 ·have hlt : k < l.length := by simpa using hb
  have hlt' : k < r.length := by omega
  have g0 := getD_map Ex.pv l k hlt
  have g1 := getD_map Ex.pv r k hlt'
  have hi : IntKind.i64.wrap ((k : Int) + 1) = ((k + 1 : Nat) : Int) := by rw [wrap64 (by omega)]; omega
  have hd := sameL_drop (R := Ex.same) hlt hlt'
  (repeat (first | refine aSeq fun X hX => ?_ | refine aSkip ?_ | refine aReg ?_; simp -implicitDefEqProofs only [↓slp, ↓reduceIte, jA, jB, jE, jF, Y2, h1, h2, h15, h17, pI, g0, g1]; try simp only [fo] | apply hX; clear hX X | apply And.intro; focus omega))
  refine callE (hf k hlt hlt' _) ?_
  simp -implicitDefEqProofs only [↓slp, ↓reduceIte, Y2, h17, pI, pB]; try simp only [fo]
  (repeat (apply hX; clear hX X))
  refine aIf ?_; simp -implicitDefEqProofs only [slb, ↓reduceIte]; refine ⟨fun hb => ?_, fun hb => ?_⟩
  ·(repeat (first | refine aSeq fun X hX => ?_ | refine aRet ?_; try simp only [slx, ↓reduceIte, jA, reduceCtorEq] | refine aReg ?_; simp -implicitDefEqProofs only [↓slp, Y2]; try simp only [fo] | apply hX; clear hX X))
   simp only [aPost, Try.results92, aRes_n, aRes_t, aRes_c, pack_one, pack_two]
   refine leave_same rfl ⟨?_, rfl⟩
   have : Ex.same l[k] r[k] = false := by simpa using hb
   rw [hs, hd, this]; rfl
  ·have he : Ex.same l[k] r[k] = true := by simpa using hb
   (repeat (first | refine aSkip ?_ | refine aReg ?_; simp -implicitDefEqProofs only [↓slp, ↓reduceIte, jA, Y2, h17, pI, hi]; try simp only [fo] | apply hX; clear hX X))
   rw [hI]
   refine ⟨⟨k + 1, hlt, h1, h2, h15, h16, rfl, by rw [hs, hd, he]; rfl, rfl⟩, ?_⟩
   first | omega | (simp only [↓slp, slb, ↓reduceIte, reduceCtorEq, jA, jB, jC, jD, jE, jF, jG, jH, jI, jJ, jK, h17, pI]; omega)
 ·have hlt : k = l.length := by simp at hb; omega
  subst hlt
  (repeat (first | refine aSeq fun X hX => ?_ | (first | refine aExit ?_ | refine aRet ?_); try simp only [slx, ↓reduceIte, jA, reduceCtorEq] | refine aReg ?_; simp -implicitDefEqProofs only [↓slp, slb] | apply hX; clear hX X | clear hX X; apply hX; clear hX X))
  simp only [aPost, Try.results92, aRes_n, aRes_t, aRes_c, pack_one, pack_two]
  refine leave_same rfl ⟨?_, rfl⟩
  rw [hs, sameL_end hl]; rfl

set_option maxRecDepth 20000 in
set_option maxHeartbeats 1000000 in
theorem sameExpr_any (a : Ex) : ∀ (b : Ex) (m : M), ACalls Try.prog 61 [a.pv, b.pv] m (fun v m' => v = pB (a.same b) ∧ m' = m) := by
 refine Ex.ind (motive := fun a => ∀ (b : Ex) (m : M), ACalls Try.prog 61 [a.pv, b.pv] m (fun v m' => v = pB (a.same b) ∧ m' = m)) (fun a IH => ?_) a
 intro b m
 refine ACalls.enter (mu := []) ok_mix Try.func61 rfl (by kernel_rfl) (by kernel_rfl) (by simp only [List.length_cons, List.length_nil, Try.ntmps61]; omega) ?_
 have hsame := Ex.same_eq a b
 refine aSeq (fun X hX => ?_)
 refine aReg ?_; simp -implicitDefEqProofs only [↓slp, ↓reduceIte, jA, Y2]
 apply hX; clear hX X
 cases c1 : (a.kind == b.kind) with
 | false =>
  (repeat (first | refine aSeq fun X hX => ?_ | refine aRet ?_ | refine aReg ?_; simp -implicitDefEqProofs only [↓slp, ↓reduceIte, reduceCtorEq, jA, jB, jE, Y2, c1]; try simp only [fo] | apply hX; clear hX X))
  simp only [aPost, Try.results61, aRes_n, aRes_t, aRes_c, pack_one, pack_two]
  refine leave_same rfl ⟨?_, rfl⟩
  have hv : a.same b = false := by rw [hsame]; simp [c1, eqS]
  rw [hv]; rfl
 | true =>
  cases c2 : (a.op == b.op) with
  | false =>
   (repeat (first | refine aSeq fun X hX => ?_ | refine aRet ?_ | refine aReg ?_; simp -implicitDefEqProofs only [↓slp, ↓reduceIte, reduceCtorEq, jA, jB, jE, Y2, c1, c2]; try simp only [fo] | apply hX; clear hX X))
   simp only [aPost, Try.results61, aRes_n, aRes_t, aRes_c, pack_one, pack_two]
   refine leave_same rfl ⟨?_, rfl⟩
   have hv : a.same b = false := by rw [hsame]; simp [c1, c2, eqS]
   rw [hv]; rfl
  | true =>
   cases c3 : (a.n == b.n) with
   | false =>
    (repeat (first | refine aSeq fun X hX => ?_ | refine aRet ?_ | refine aReg ?_; simp -implicitDefEqProofs only [↓slp, ↓reduceIte, reduceCtorEq, jA, jB, jE, Y2, c1, c2, c3]; try simp only [fo] | apply hX; clear hX X))
    simp only [aPost, Try.results61, aRes_n, aRes_t, aRes_c, pack_one, pack_two]
    refine leave_same rfl ⟨?_, rfl⟩
    have hv : a.same b = false := by rw [hsame]; simp [c1, c2, c3, eqS]
    rw [hv]; rfl
   | true =>
    cases c4 : (a.name.toList == b.name.toList) with
    | false =>
     (repeat (first | refine aSeq fun X hX => ?_ | refine aRet ?_ | refine aReg ?_; simp -implicitDefEqProofs only [↓slp, ↓reduceIte, reduceCtorEq, jA, jB, jE, Y2, c1, c2, c3, c4]; try simp only [fo] | apply hX; clear hX X))
     simp only [aPost, Try.results61, aRes_n, aRes_t, aRes_c, pack_one, pack_two]
     refine leave_same rfl ⟨?_, rfl⟩
     have hv : a.same b = false := by rw [hsame]; simp [c1, c2, c3, c4, eqS]
     rw [hv]; rfl
    | true =>
     (repeat (first | refine aSeq fun X hX => ?_ | refine aReg ?_; simp -implicitDefEqProofs only [↓slp, ↓reduceIte, reduceCtorEq, jA, jB, jE, Y2, c1, c2, c3, c4]))
     refine callE (equalS_any _ _ _ _ _) ?_
     cases c5 : sameSs a.names b.names with
     | false =>
      simp -implicitDefEqProofs only [↓slp, slb, ↓reduceIte, jA, c5]; try simp only [fo]
      (repeat (first | refine aRet ?_ | apply hX; clear hX X))
      simp only [aPost, Try.results61, aRes_n, aRes_t, aRes_c, pack_one, pack_two]
      refine leave_same rfl ⟨?_, rfl⟩
      have hv : a.same b = false := by rw [hsame]; simp [c1, c2, c3, c4, c5, eqS]
      rw [hv]; rfl
     | true =>
      simp -implicitDefEqProofs only [↓slp, ↓reduceIte, reduceCtorEq, jA, jB, jE, Y2, c5]
      refine callE (eqFuncEx_any _ _ _ _ _ (fun k hk hk' m => IH k hk _ m)) ?_
      simp -implicitDefEqProofs only [↓slp, slb, ↓reduceIte, jA, c5]; try simp only [fo]
      (repeat (first | refine aRet ?_ | apply hX; clear hX X))
      simp only [aPost, Try.results61, aRes_n, aRes_t, aRes_c, pack_one, pack_two]
      refine leave_same rfl ⟨?_, rfl⟩
      have hv : a.same b = sameL Ex.same a.kids b.kids := by rw [hsame]; simp [c1, c2, c3, c4, c5, eqS]
      rw [hv]; rfl
end Go.Proofs.Ytibhhoknipdlpaa
