/-
  Texts that belong together: ObPt, ObPu, ObPv.
-/
import Derived.Test.YtmcajiccepgagaaObCt
import Derived.Test.YtmcajiccepgagaaObDrop
/-
  An instance that holds two others begins.
-/
set_option linter.unusedVariables false
set_option linter.unusedSimpArgs false
namespace Go.Proofs.Ytmcajiccepgagaa
open Nat renaming reduceEqDiff → jA, reduceAdd → jB, reduceMul → jC, reduceLT → jD, reduceLeDiff → jE, reduceBEq → jF, reduceBNe → jG
open Int renaming reduceLE → jH, reduceLT → jI, reduceToNat → jJ, reduceEq → jK
open Go
set_option linter.defProp false
def tfObPt := And.intro @tfA (And.intro @Ex.settle_pv (And.intro @Ex.pure_pv (And.intro @Ex.cells_pv (And.intro @Ex.cs.eq_1 (And.intro @On.pv.eq_1 (And.intro @Ty.pv.eq_1 (And.intro @Va.settle_pv (And.intro @Va.pure_pv (And.intro @Va.cells_pv @Va.cs.eq_1)))))))))
set_option maxRecDepth 100000
-- TYPES:
def M1 : M := ⟨[none], []⟩
abbrev sP : Str := ⟨#[112]⟩
abbrev sQ : Str := ⟨#[113]⟩
abbrev sR : Str := ⟨#[114]⟩
abbrev sY : Str := ⟨#[121]⟩
abbrev sTop : Str := ⟨#[116, 111, 112]⟩
def vaB (s : Str) : Va := ⟨s, ⟨1, sZ⟩, [], false, .mk 0 0 0 sZ [] [] 0 0, 0, 0⟩
def pInst (s : Str) : PV := .ag [pS s, pS sC]
def exZ : List PV := (Ex.mk 0 0 0 sZ [] [] 0 0).cs
/-- The statements of the outer class. -/
def topS : List PV := [
  .ag ([.v (.int .u8 3), pS sZ] ++ (exV sR).cs ++ [.sl .no [.ag ([.v (.int .u8 5), pS sP] ++ exZ ++ [.sl .no [], .sl .no [], .sl .no [], .sl .no []])], .sl .no [], .sl .no [], .sl .no []]),
  .ag ([.v (.int .u8 4), pS sP] ++ exZ ++ [.sl .no [], .sl .no [], .sl .no [pS sX], .sl .no [(exV sA).pv]]),
  .ag ([.v (.int .u8 4), pS sQ] ++ exZ ++ [.sl .no [], .sl .no [], .sl .no [pS sY], .sl .no [(exN 1).pv]])]
def topCs : List PV := [pS sTop, .sl .no [], .sl .no [pInst sP, pInst sQ], .sl .no [(vaI sA).pv, (vaB sR).pv], .sl .no [(vaI sX).pv, (vaI sY).pv], .sl .no [], .sl .no topS]
def topC : PV := .ag topCs
def progT (n : Int) : PV := .ag [.sl .no [], .sl .no [pCls n, topC]]
def objP (n : Int) (i j : Nat) : List PV := [.sl .no [], .sl .no [pCls n, topC], pS sC, .sl .no [pMem n], .sl .no [], .sl .no [(vaI sA).pv], .sl .no [(vaI sX).pv], .sl .no [], .sl .no (stepsC.map OS.pv), .mp i, .mp j]
def objT (n : Int) (i j : Nat) : List PV := [.sl .no [], .sl .no [pCls n, topC]] ++ topCs ++ [.mp i, .mp j]
def bI1 : List PV := [.tp [pS sP], .tp [.bp 6 0]]
def bI2 : List PV := [.tp [pS sP, pS sQ], .tp [.bp 6 0, .bp 9 0]]
/-- A walk through the two: what it holds. -/
def itB (j : Nat) (b0 : Nat) (seen : List PV) : List PV := [.mp j, .tp seen, .v (.int .i64 ((b0 : Int) + ((2 : Nat) : Int)))]
abbrev st (b0 k : Nat) : PV := .v (.int .i64 ((b0 : Int) + ((k : Nat) : Int)))
theorem findC_any (n : Int) (m : M) : ACalls Try.prog 23 [progT n, pS sC] m (fun v m' => v = pI 0 ∧ m' = m) :=
  ACalls.ranP (mus := mus) (hook := obHook noHook) (k := 60) ok_mix (obHook_ok noHook_ok) (by kernel_rfl) (fun x hx => by simp at hx; rcases hx with rfl | rfl <;> rfl) rfl m ⟨rfl, rfl⟩
theorem findT_any (n : Int) (m : M) : ACalls Try.prog 23 [progT n, pS sTop] m (fun v m' => v = pI 1 ∧ m' = m) :=
  ACalls.ranP (mus := mus) (hook := obHook noHook) (k := 60) ok_mix (obHook_ok noHook_ok) (by kernel_rfl) (fun x hx => by simp at hx; rcases hx with rfl | rfl <;> rfl) rfl m ⟨rfl, rfl⟩
def T0a (n : Int) : List (Option (List PV)) := [none, bE, bE, some (objT n 1 2)]
def P0a (n : Int) : List (Option (List PV)) := T0a n ++ [bN n, bE, some (objP n 4 5)]
def P1a (n : Int) : List (Option (List PV)) := [none, bE, some bI1, some (objT n 1 2)] ++ [bN n, bE, some (objP n 4 5)]
def Q0a (n : Int) : List (Option (List PV)) := P1a n ++ [bN n, bE, some (objP n 7 8)]
def Q1a (n : Int) : List (Option (List PV)) := [none, bE, some bI2, some (objT n 1 2)] ++ [bN n, bE, some (objP n 4 5)] ++ [bN n, bE, some (objP n 7 8)]
def R1a (n : Int) (b0 : Nat) (seen : List PV) : M := ⟨[none, bE, some (bI2 ++ [.v (.int .i64 b0)]), some (objT n 1 2)] ++ [bN n, bE, some (objP n 4 5)] ++ [bN n, bE, some (objP n 7 8)] ++ [some (itB 2 b0 seen)], []⟩
theorem rAPa (n : Int) : ACalls Try.prog 14 [.bp 6 0] (⟨(T0a n) ++ [bE, bE, some (objP n 4 5)], []⟩) (fun v m' => v = .tp [] ∧ m' = ⟨(T0a n) ++ [bN n, bE, some (objP n 4 5)], []⟩) :=
  ACalls.ranV (mus := mus) (hook := obHook noHook) (k := 300) (n := 7) (q := (.tp [], ⟨(T0a n) ++ [bN n, bE, some (objP n 4 5)], []⟩)) ok_mix (obHook_ok noHook_ok) (by kernel_rfl)
theorem rBPa (n : Int) : ACalls Try.prog 14 [.bp 6 0] (⟨(T0a n) ++ [bE, bE, some (objP n 5 4)], []⟩) (fun v m' => v = .tp [] ∧ m' = ⟨(T0a n) ++ [bE, bN n, some (objP n 5 4)], []⟩) :=
  ACalls.ranV (mus := mus) (hook := obHook noHook) (k := 300) (n := 7) (q := (.tp [], ⟨(T0a n) ++ [bE, bN n, some (objP n 5 4)], []⟩)) ok_mix (obHook_ok noHook_ok) (by kernel_rfl)
set_option maxHeartbeats 4000000 in
theorem startPa (n : Int) : ACalls Try.prog 24 [progT n, pS sC, pI 1] ⟨(T0a n), []⟩ (fun v m' => v = .bp 6 0 ∧ m' = ⟨(T0a n) ++ [bN n, bE, some (objP n 4 5)], []⟩) := by
  refine ACalls.ren (R := fun v m' => v = .bp 6 0 ∧ (m' = ⟨(T0a n) ++ [bN n, bE, some (objP n 4 5)], []⟩ ∨ m' = ⟨(T0a n) ++ [bE, bN n, some (objP n 5 4)], []⟩)) ?_ ?_
  · refine ACalls.enter (mu := [29]) ok_mix Try.func24 rfl (by kernel_rfl) (by kernel_rfl) (by simp only [List.length_cons, List.length_nil, Try.ntmps24]; omega) ?_
    (repeat (first | refine aSeq fun X hX => ?_ | refine aBlk ?_ | refine aSkip ?_ | (first | refine aExit ?_ | refine aRet ?_); try simp only [slx, ↓reduceIte, Nat.reduceEqDiff, reduceCtorEq] | (first | refine aReg ?_ | refine aIf ?_); simp -implicitDefEqProofs only [forall_eq, ↓slp, slb, ↓reduceIte, reduceCtorEq, jA, jB, jC, jD, jE, jF, jG, jH, jI, jJ, jK, tfObPt]; try simp only [Ex.fold, Ex.foldcs, ← Va.pv.eq_1] | refine hX _ _ ?_; clear hX X | clear hX X; refine hX _ _ ?_; clear hX X | clear hX X; clear hX X; refine hX _ _ ?_; clear hX X | intro hlen; unfold maxLen at hlen | apply And.intro; focus (first | omega | assumption | (repeat' apply And.intro) <;> first | omega | assumption)))
    refine ⟨rfl, ?_⟩
    have hcs : (progT n).settle.cells = [.sl .no [], .sl .no [pCls n, topC]] := rfl
    (repeat (first | refine aSeq fun X hX => ?_ | refine aBlk ?_ | refine aSkip ?_ | (first | refine aExit ?_ | refine aRet ?_); try simp only [slx, ↓reduceIte, Nat.reduceEqDiff, reduceCtorEq] | (first | refine aReg ?_ | refine aIf ?_); simp -implicitDefEqProofs only [forall_eq, ↓slp, slb, ↓reduceIte, reduceCtorEq, jA, jB, jC, jD, jE, jF, jG, jH, jI, jJ, jK, tfObPt, hcs]; try simp only [Ex.fold, Ex.foldcs, ← Va.pv.eq_1] | refine hX _ _ ?_; clear hX X | clear hX X; refine hX _ _ ?_; clear hX X | clear hX X; clear hX X; refine hX _ _ ?_; clear hX X | intro hlen; unfold maxLen at hlen | apply And.intro; focus (first | omega | assumption | (repeat' apply And.intro) <;> first | omega | assumption)))
    refine callE (findC_any n _) ?_
    simp -implicitDefEqProofs only [↓slp, slb, ↓reduceIte, reduceCtorEq, jA, jB, jC, jD, jE, jF, jG, jH, jI, jJ, jK, tfObPt, hcs]; try simp only [Ex.fold, Ex.foldcs, ← Va.pv.eq_1]
    (repeat (first | refine aSeq fun X hX => ?_ | refine aBlk ?_ | refine aSkip ?_ | (first | refine aExit ?_ | refine aRet ?_); try simp only [slx, ↓reduceIte, Nat.reduceEqDiff, reduceCtorEq] | (first | refine aReg ?_ | refine aIf ?_); simp -implicitDefEqProofs only [forall_eq, ↓slp, slb, ↓reduceIte, reduceCtorEq, jA, jB, jC, jD, jE, jF, jG, jH, jI, jJ, jK, tfObPt, hcs, pS, pI]; try simp only [Ex.fold, Ex.foldcs, ← Va.pv.eq_1] | refine hX _ _ ?_; clear hX X | clear hX X; refine hX _ _ ?_; clear hX X | clear hX X; clear hX X; refine hX _ _ ?_; clear hX X | intro hlen; unfold maxLen at hlen | apply And.intro; focus (first | omega | assumption | (repeat' apply And.intro) <;> first | omega | assumption)))
    have join : ∀ (f : F) (i j : Nat) (mm mR : M), mm.get 6 = some (objP n i j) → ACalls Try.prog 14 [.bp 6 0] mm (fun v m' => v = .tp [] ∧ m' = mR) → (mR = ⟨(T0a n) ++ [bN n, bE, some (objP n 4 5)], []⟩ ∨ mR = ⟨(T0a n) ++ [bE, bN n, some (objP n 5 4)], []⟩) → f 8 = .bp 6 0 → X f mm := by
      intro f i j mm mR hg hR hm h8
      unfold objP at hg
      refine hX _ _ ?_
      clear hX X
      (repeat (first | refine aSeq fun X hX => ?_ | refine aBlk ?_ | refine aSkip ?_ | (first | refine aExit ?_ | refine aRet ?_); try simp only [slx, ↓reduceIte, Nat.reduceEqDiff, reduceCtorEq] | (first | refine aReg ?_ | refine aIf ?_); simp -implicitDefEqProofs only [forall_eq, ↓slp, slb, ↓reduceIte, reduceCtorEq, jA, jB, jC, jD, jE, jF, jG, jH, jI, jJ, jK, tfObPt, h8, hg]; try simp only [Ex.fold, Ex.foldcs, ← Va.pv.eq_1] | refine hX _ _ ?_; clear hX X | clear hX X; refine hX _ _ ?_; clear hX X | clear hX X; clear hX X; refine hX _ _ ?_; clear hX X | intro hlen; unfold maxLen at hlen | apply And.intro; focus (first | omega | assumption | (repeat' apply And.intro) <;> first | omega | assumption)))
      obtain ⟨I, hI⟩ : ∃ I : F → M → Prop, ∀ g m', I g m' = (g 8 = .bp 6 0 ∧ g 35 = pI 0 ∧ g 36 = pI 0 ∧ m' = mm) := ⟨_, fun _ _ => rfl⟩
      refine aLoop I (fun f m => 0) ?_ ?_
      · rw [hI]; exact ⟨h8, rfl, rfl, rfl⟩
      intro g m' hrel
      rw [hI] at hrel
      obtain ⟨g8, g35, g36, rfl⟩ := hrel
      (repeat (first | refine aSeq fun X hX => ?_ | refine aBlk ?_ | refine aSkip ?_ | (first | refine aExit ?_ | refine aRet ?_); try simp only [slx, ↓reduceIte, Nat.reduceEqDiff, reduceCtorEq] | (first | refine aReg ?_ | refine aDrE ?_); simp -implicitDefEqProofs only [forall_eq, ↓slp, slb, ↓reduceIte, reduceCtorEq, jA, jB, jC, jD, jE, jF, jG, jH, jI, jJ, jK, tfObPt, g8, g35, g36, pI]; try simp only [Ex.fold, Ex.foldcs, ← Va.pv.eq_1] | refine hX _ _ ?_; clear hX X | clear hX X; refine hX _ _ ?_; clear hX X | clear hX X; clear hX X; refine hX _ _ ?_; clear hX X | intro hlen; unfold maxLen at hlen | apply And.intro; focus (first | omega | assumption | (repeat' apply And.intro) <;> first | omega | assumption)))
      refine aIf ?_; simp -implicitDefEqProofs only [↓slp, slb, ↓reduceIte, reduceCtorEq, jA, jB, jC, jD, jE, jF, jG, jH, jI, jJ, jK]
      (repeat (first | refine aSeq fun X hX => ?_ | refine aBlk ?_ | refine aSkip ?_ | (first | refine aExit ?_ | refine aRet ?_); try simp only [slx, ↓reduceIte, Nat.reduceEqDiff, reduceCtorEq] | (first | refine aReg ?_ | refine aDrE ?_); simp -implicitDefEqProofs only [forall_eq, ↓slp, slb, ↓reduceIte, reduceCtorEq, jA, jB, jC, jD, jE, jF, jG, jH, jI, jJ, jK, tfObPt, g8, g35, g36, pI]; try simp only [Ex.fold, Ex.foldcs, ← Va.pv.eq_1] | refine hX _ _ ?_; clear hX X | clear hX X; refine hX _ _ ?_; clear hX X | clear hX X; clear hX X; refine hX _ _ ?_; clear hX X | intro hlen; unfold maxLen at hlen | apply And.intro; focus (first | omega | assumption | (repeat' apply And.intro) <;> first | omega | assumption)))
      refine callE hR ?_
      simp -implicitDefEqProofs only [↓slp, slb, ↓reduceIte, reduceCtorEq, jA, jB, jC, jD, jE, jF, jG, jH, jI, jJ, jK, tfObPt, g8]; try simp only [Ex.fold, Ex.foldcs, ← Va.pv.eq_1]
      (repeat (first | refine aSeq fun X hX => ?_ | refine aBlk ?_ | refine aSkip ?_ | (first | refine aExit ?_ | refine aRet ?_); try simp only [slx, ↓reduceIte, Nat.reduceEqDiff, reduceCtorEq] | (first | refine aReg ?_ | refine aDrE ?_); simp -implicitDefEqProofs only [forall_eq, ↓slp, slb, ↓reduceIte, reduceCtorEq, jA, jB, jC, jD, jE, jF, jG, jH, jI, jJ, jK, tfObPt, g8]; try simp only [Ex.fold, Ex.foldcs, ← Va.pv.eq_1] | refine hX _ _ ?_; clear hX X | clear hX X; refine hX _ _ ?_; clear hX X | clear hX X; clear hX X; refine hX _ _ ?_; clear hX X | intro hlen; unfold maxLen at hlen | apply And.intro; focus (first | omega | assumption | (repeat' apply And.intro) <;> first | omega | assumption)))
      simp only [aPost, Try.results24, aRes_n, aRes_t, aRes_c, pack_one, pack_two]
      simp -implicitDefEqProofs only [↓slp, slb, ↓reduceIte, reduceCtorEq, jA, jB, jC, jD, jE, jF, jG, jH, jI, jJ, jK, tfObPt, g8]; try simp only [Ex.fold, Ex.foldcs, ← Va.pv.eq_1]
      rcases hm with rfl | rfl
      · exact leave_over (by show 4 ≤ 4 + 3; omega) (Nat.le_refl _) rfl rfl ⟨rfl, .inl rfl⟩
      · exact leave_over (by show 4 ≤ 4 + 3; omega) (Nat.le_refl _) rfl rfl ⟨rfl, .inr rfl⟩
    clear hX
    refine aFltC 6 8 (fun _ => True) (by omega) (by simp only [List.length_cons, List.length_nil]; omega) (by kernel_rfl) trivial ?_
    simp -implicitDefEqProofs only [↓slp, slb, ↓reduceIte, reduceCtorEq, jA, jB, jC, jD, jE, jF, jG, jH, jI, jJ, jK, tfObPt, pCls, List.getElem_cons_succ, List.getElem_cons_zero, List.drop_succ_cons, List.drop_zero, List.take_succ_cons, List.take_zero, List.cons_append, List.nil_append, Nat.reduceSub]; try simp only [Ex.fold, Ex.foldcs, ← Va.pv.eq_1]
    refine ⟨?_, ?_⟩
    · exact join _ 4 5 _ _ rfl (rAPa n) (.inl rfl) rfl
    · exact join _ 5 4 _ _ rfl (rBPa n) (.inr rfl) rfl
  · rintro v m' ⟨rfl, rfl | rfl⟩
    · exact .inl ⟨rfl, rfl⟩
    · refine .inr ⟨swp 4 5, ⟨(T0a n) ++ [bN n, bE, some (objP n 4 5)], []⟩, ⟨swp_inv 4 5, fun i hi => ?_, rfl, rfl, fun i hi => ?_⟩, fun i hi => ?_, rfl, rfl⟩
      · have hi : i < 4 + 3 := hi
        show swp 4 5 i < 4 + 3
        unfold swp
        split
        · omega
        · split <;> omega
      · have hi : i < 4 + 3 := hi
        have h3 : i = 0 ∨ i = 1 ∨ i = 2 ∨ i = 3 ∨ i = 4 ∨ i = 5 ∨ i = 6 := by omega
        rcases h3 with rfl | rfl | rfl | rfl | rfl | rfl | rfl <;> rfl
      · have hi : i < 4 := hi
        unfold swp
        rw [if_neg (by omega), if_neg (by omega)]
theorem rAQa (n : Int) : ACalls Try.prog 14 [.bp 9 0] (⟨(P1a n) ++ [bE, bE, some (objP n 7 8)], []⟩) (fun v m' => v = .tp [] ∧ m' = ⟨(P1a n) ++ [bN n, bE, some (objP n 7 8)], []⟩) :=
  ACalls.ranV (mus := mus) (hook := obHook noHook) (k := 300) (n := 10) (q := (.tp [], ⟨(P1a n) ++ [bN n, bE, some (objP n 7 8)], []⟩)) ok_mix (obHook_ok noHook_ok) (by kernel_rfl)
theorem rBQa (n : Int) : ACalls Try.prog 14 [.bp 9 0] (⟨(P1a n) ++ [bE, bE, some (objP n 8 7)], []⟩) (fun v m' => v = .tp [] ∧ m' = ⟨(P1a n) ++ [bE, bN n, some (objP n 8 7)], []⟩) :=
  ACalls.ranV (mus := mus) (hook := obHook noHook) (k := 300) (n := 10) (q := (.tp [], ⟨(P1a n) ++ [bE, bN n, some (objP n 8 7)], []⟩)) ok_mix (obHook_ok noHook_ok) (by kernel_rfl)
set_option maxHeartbeats 4000000 in
theorem startQa (n : Int) : ACalls Try.prog 24 [progT n, pS sC, pI 1] ⟨(P1a n), []⟩ (fun v m' => v = .bp 9 0 ∧ m' = ⟨(P1a n) ++ [bN n, bE, some (objP n 7 8)], []⟩) := by
  refine ACalls.ren (R := fun v m' => v = .bp 9 0 ∧ (m' = ⟨(P1a n) ++ [bN n, bE, some (objP n 7 8)], []⟩ ∨ m' = ⟨(P1a n) ++ [bE, bN n, some (objP n 8 7)], []⟩)) ?_ ?_
  · refine ACalls.enter (mu := [29]) ok_mix Try.func24 rfl (by kernel_rfl) (by kernel_rfl) (by simp only [List.length_cons, List.length_nil, Try.ntmps24]; omega) ?_
    (repeat (first | refine aSeq fun X hX => ?_ | refine aBlk ?_ | refine aSkip ?_ | (first | refine aExit ?_ | refine aRet ?_); try simp only [slx, ↓reduceIte, Nat.reduceEqDiff, reduceCtorEq] | (first | refine aReg ?_ | refine aIf ?_); simp -implicitDefEqProofs only [forall_eq, ↓slp, slb, ↓reduceIte, reduceCtorEq, jA, jB, jC, jD, jE, jF, jG, jH, jI, jJ, jK, tfObPt]; try simp only [Ex.fold, Ex.foldcs, ← Va.pv.eq_1] | refine hX _ _ ?_; clear hX X | clear hX X; refine hX _ _ ?_; clear hX X | clear hX X; clear hX X; refine hX _ _ ?_; clear hX X | intro hlen; unfold maxLen at hlen | apply And.intro; focus (first | omega | assumption | (repeat' apply And.intro) <;> first | omega | assumption)))
    refine ⟨rfl, ?_⟩
    have hcs : (progT n).settle.cells = [.sl .no [], .sl .no [pCls n, topC]] := rfl
    (repeat (first | refine aSeq fun X hX => ?_ | refine aBlk ?_ | refine aSkip ?_ | (first | refine aExit ?_ | refine aRet ?_); try simp only [slx, ↓reduceIte, Nat.reduceEqDiff, reduceCtorEq] | (first | refine aReg ?_ | refine aIf ?_); simp -implicitDefEqProofs only [forall_eq, ↓slp, slb, ↓reduceIte, reduceCtorEq, jA, jB, jC, jD, jE, jF, jG, jH, jI, jJ, jK, tfObPt, hcs]; try simp only [Ex.fold, Ex.foldcs, ← Va.pv.eq_1] | refine hX _ _ ?_; clear hX X | clear hX X; refine hX _ _ ?_; clear hX X | clear hX X; clear hX X; refine hX _ _ ?_; clear hX X | intro hlen; unfold maxLen at hlen | apply And.intro; focus (first | omega | assumption | (repeat' apply And.intro) <;> first | omega | assumption)))
    refine callE (findC_any n _) ?_
    simp -implicitDefEqProofs only [↓slp, slb, ↓reduceIte, reduceCtorEq, jA, jB, jC, jD, jE, jF, jG, jH, jI, jJ, jK, tfObPt, hcs]; try simp only [Ex.fold, Ex.foldcs, ← Va.pv.eq_1]
    (repeat (first | refine aSeq fun X hX => ?_ | refine aBlk ?_ | refine aSkip ?_ | (first | refine aExit ?_ | refine aRet ?_); try simp only [slx, ↓reduceIte, Nat.reduceEqDiff, reduceCtorEq] | (first | refine aReg ?_ | refine aIf ?_); simp -implicitDefEqProofs only [forall_eq, ↓slp, slb, ↓reduceIte, reduceCtorEq, jA, jB, jC, jD, jE, jF, jG, jH, jI, jJ, jK, tfObPt, hcs, pS, pI]; try simp only [Ex.fold, Ex.foldcs, ← Va.pv.eq_1] | refine hX _ _ ?_; clear hX X | clear hX X; refine hX _ _ ?_; clear hX X | clear hX X; clear hX X; refine hX _ _ ?_; clear hX X | intro hlen; unfold maxLen at hlen | apply And.intro; focus (first | omega | assumption | (repeat' apply And.intro) <;> first | omega | assumption)))
    have join : ∀ (f : F) (i j : Nat) (mm mR : M), mm.get 9 = some (objP n i j) → ACalls Try.prog 14 [.bp 9 0] mm (fun v m' => v = .tp [] ∧ m' = mR) → (mR = ⟨(P1a n) ++ [bN n, bE, some (objP n 7 8)], []⟩ ∨ mR = ⟨(P1a n) ++ [bE, bN n, some (objP n 8 7)], []⟩) → f 8 = .bp 9 0 → X f mm := by
      intro f i j mm mR hg hR hm h8
      unfold objP at hg
      refine hX _ _ ?_
      clear hX X
      (repeat (first | refine aSeq fun X hX => ?_ | refine aBlk ?_ | refine aSkip ?_ | (first | refine aExit ?_ | refine aRet ?_); try simp only [slx, ↓reduceIte, Nat.reduceEqDiff, reduceCtorEq] | (first | refine aReg ?_ | refine aIf ?_); simp -implicitDefEqProofs only [forall_eq, ↓slp, slb, ↓reduceIte, reduceCtorEq, jA, jB, jC, jD, jE, jF, jG, jH, jI, jJ, jK, tfObPt, h8, hg]; try simp only [Ex.fold, Ex.foldcs, ← Va.pv.eq_1] | refine hX _ _ ?_; clear hX X | clear hX X; refine hX _ _ ?_; clear hX X | clear hX X; clear hX X; refine hX _ _ ?_; clear hX X | intro hlen; unfold maxLen at hlen | apply And.intro; focus (first | omega | assumption | (repeat' apply And.intro) <;> first | omega | assumption)))
      obtain ⟨I, hI⟩ : ∃ I : F → M → Prop, ∀ g m', I g m' = (g 8 = .bp 9 0 ∧ g 35 = pI 0 ∧ g 36 = pI 0 ∧ m' = mm) := ⟨_, fun _ _ => rfl⟩
      refine aLoop I (fun f m => 0) ?_ ?_
      · rw [hI]; exact ⟨h8, rfl, rfl, rfl⟩
      intro g m' hrel
      rw [hI] at hrel
      obtain ⟨g8, g35, g36, rfl⟩ := hrel
      (repeat (first | refine aSeq fun X hX => ?_ | refine aBlk ?_ | refine aSkip ?_ | (first | refine aExit ?_ | refine aRet ?_); try simp only [slx, ↓reduceIte, Nat.reduceEqDiff, reduceCtorEq] | (first | refine aReg ?_ | refine aDrE ?_); simp -implicitDefEqProofs only [forall_eq, ↓slp, slb, ↓reduceIte, reduceCtorEq, jA, jB, jC, jD, jE, jF, jG, jH, jI, jJ, jK, tfObPt, g8, g35, g36, pI]; try simp only [Ex.fold, Ex.foldcs, ← Va.pv.eq_1] | refine hX _ _ ?_; clear hX X | clear hX X; refine hX _ _ ?_; clear hX X | clear hX X; clear hX X; refine hX _ _ ?_; clear hX X | intro hlen; unfold maxLen at hlen | apply And.intro; focus (first | omega | assumption | (repeat' apply And.intro) <;> first | omega | assumption)))
      refine aIf ?_; simp -implicitDefEqProofs only [↓slp, slb, ↓reduceIte, reduceCtorEq, jA, jB, jC, jD, jE, jF, jG, jH, jI, jJ, jK]
      (repeat (first | refine aSeq fun X hX => ?_ | refine aBlk ?_ | refine aSkip ?_ | (first | refine aExit ?_ | refine aRet ?_); try simp only [slx, ↓reduceIte, Nat.reduceEqDiff, reduceCtorEq] | (first | refine aReg ?_ | refine aDrE ?_); simp -implicitDefEqProofs only [forall_eq, ↓slp, slb, ↓reduceIte, reduceCtorEq, jA, jB, jC, jD, jE, jF, jG, jH, jI, jJ, jK, tfObPt, g8, g35, g36, pI]; try simp only [Ex.fold, Ex.foldcs, ← Va.pv.eq_1] | refine hX _ _ ?_; clear hX X | clear hX X; refine hX _ _ ?_; clear hX X | clear hX X; clear hX X; refine hX _ _ ?_; clear hX X | intro hlen; unfold maxLen at hlen | apply And.intro; focus (first | omega | assumption | (repeat' apply And.intro) <;> first | omega | assumption)))
      refine callE hR ?_
      simp -implicitDefEqProofs only [↓slp, slb, ↓reduceIte, reduceCtorEq, jA, jB, jC, jD, jE, jF, jG, jH, jI, jJ, jK, tfObPt, g8]; try simp only [Ex.fold, Ex.foldcs, ← Va.pv.eq_1]
      (repeat (first | refine aSeq fun X hX => ?_ | refine aBlk ?_ | refine aSkip ?_ | (first | refine aExit ?_ | refine aRet ?_); try simp only [slx, ↓reduceIte, Nat.reduceEqDiff, reduceCtorEq] | (first | refine aReg ?_ | refine aDrE ?_); simp -implicitDefEqProofs only [forall_eq, ↓slp, slb, ↓reduceIte, reduceCtorEq, jA, jB, jC, jD, jE, jF, jG, jH, jI, jJ, jK, tfObPt, g8]; try simp only [Ex.fold, Ex.foldcs, ← Va.pv.eq_1] | refine hX _ _ ?_; clear hX X | clear hX X; refine hX _ _ ?_; clear hX X | clear hX X; clear hX X; refine hX _ _ ?_; clear hX X | intro hlen; unfold maxLen at hlen | apply And.intro; focus (first | omega | assumption | (repeat' apply And.intro) <;> first | omega | assumption)))
      simp only [aPost, Try.results24, aRes_n, aRes_t, aRes_c, pack_one, pack_two]
      simp -implicitDefEqProofs only [↓slp, slb, ↓reduceIte, reduceCtorEq, jA, jB, jC, jD, jE, jF, jG, jH, jI, jJ, jK, tfObPt, g8]; try simp only [Ex.fold, Ex.foldcs, ← Va.pv.eq_1]
      rcases hm with rfl | rfl
      · exact leave_over (by show 7 ≤ 7 + 3; omega) (Nat.le_refl _) rfl rfl ⟨rfl, .inl rfl⟩
      · exact leave_over (by show 7 ≤ 7 + 3; omega) (Nat.le_refl _) rfl rfl ⟨rfl, .inr rfl⟩
    clear hX
    refine aFltC 6 8 (fun _ => True) (by omega) (by simp only [List.length_cons, List.length_nil]; omega) (by kernel_rfl) trivial ?_
    simp -implicitDefEqProofs only [↓slp, slb, ↓reduceIte, reduceCtorEq, jA, jB, jC, jD, jE, jF, jG, jH, jI, jJ, jK, tfObPt, pCls, List.getElem_cons_succ, List.getElem_cons_zero, List.drop_succ_cons, List.drop_zero, List.take_succ_cons, List.take_zero, List.cons_append, List.nil_append, Nat.reduceSub]; try simp only [Ex.fold, Ex.foldcs, ← Va.pv.eq_1]
    refine ⟨?_, ?_⟩
    · exact join _ 7 8 _ _ rfl (rAQa n) (.inl rfl) rfl
    · exact join _ 8 7 _ _ rfl (rBQa n) (.inr rfl) rfl
  · rintro v m' ⟨rfl, rfl | rfl⟩
    · exact .inl ⟨rfl, rfl⟩
    · refine .inr ⟨swp 7 8, ⟨(P1a n) ++ [bN n, bE, some (objP n 7 8)], []⟩, ⟨swp_inv 7 8, fun i hi => ?_, rfl, rfl, fun i hi => ?_⟩, fun i hi => ?_, rfl, rfl⟩
      · have hi : i < 7 + 3 := hi
        show swp 7 8 i < 7 + 3
        unfold swp
        split
        · omega
        · split <;> omega
      · have hi : i < 7 + 3 := hi
        have h3 : i = 0 ∨ i = 1 ∨ i = 2 ∨ i = 3 ∨ i = 4 ∨ i = 5 ∨ i = 6 ∨ i = 7 ∨ i = 8 ∨ i = 9 := by omega
        rcases h3 with rfl | rfl | rfl | rfl | rfl | rfl | rfl | rfl | rfl | rfl <;> rfl
      · have hi : i < 7 := hi
        unfold swp
        rw [if_neg (by omega), if_neg (by omega)]
theorem rs0a (n : Int) (b0 : Nat) : ACalls Try.prog 14 [.bp 6 0] (R1a n b0 [st b0 0]) (fun v m' => v = .tp [] ∧ m' = R1a n b0 [st b0 0]) :=
  ACalls.ranV (mus := mus) (hook := obHook noHook) (k := 300) (n := 11) (q := (.tp [], R1a n b0 [st b0 0])) ok_mix (obHook_ok noHook_ok) (by kernel_rfl)
theorem rs1a (n : Int) (b0 : Nat) : ACalls Try.prog 14 [.bp 9 0] (R1a n b0 [st b0 1]) (fun v m' => v = .tp [] ∧ m' = R1a n b0 [st b0 1]) :=
  ACalls.ranV (mus := mus) (hook := obHook noHook) (k := 300) (n := 11) (q := (.tp [], R1a n b0 [st b0 1])) ok_mix (obHook_ok noHook_ok) (by kernel_rfl)
theorem rs01a (n : Int) (b0 : Nat) : ACalls Try.prog 14 [.bp 9 0] (R1a n b0 [st b0 0, st b0 1]) (fun v m' => v = .tp [] ∧ m' = R1a n b0 [st b0 0, st b0 1]) :=
  ACalls.ranV (mus := mus) (hook := obHook noHook) (k := 300) (n := 11) (q := (.tp [], R1a n b0 [st b0 0, st b0 1])) ok_mix (obHook_ok noHook_ok) (by kernel_rfl)
theorem rs10a (n : Int) (b0 : Nat) : ACalls Try.prog 14 [.bp 6 0] (R1a n b0 [st b0 1, st b0 0]) (fun v m' => v = .tp [] ∧ m' = R1a n b0 [st b0 1, st b0 0]) :=
  ACalls.ranV (mus := mus) (hook := obHook noHook) (k := 300) (n := 11) (q := (.tp [], R1a n b0 [st b0 1, st b0 0])) ok_mix (obHook_ok noHook_ok) (by kernel_rfl)
def T0b (n : Int) : List (Option (List PV)) := [none, bE, bE, some (objT n 2 1)]
def P0b (n : Int) : List (Option (List PV)) := T0b n ++ [bN n, bE, some (objP n 4 5)]
def P1b (n : Int) : List (Option (List PV)) := [none, some bI1, bE, some (objT n 2 1)] ++ [bN n, bE, some (objP n 4 5)]
def Q0b (n : Int) : List (Option (List PV)) := P1b n ++ [bN n, bE, some (objP n 7 8)]
def Q1b (n : Int) : List (Option (List PV)) := [none, some bI2, bE, some (objT n 2 1)] ++ [bN n, bE, some (objP n 4 5)] ++ [bN n, bE, some (objP n 7 8)]
def R1b (n : Int) (b0 : Nat) (seen : List PV) : M := ⟨[none, some (bI2 ++ [.v (.int .i64 b0)]), bE, some (objT n 2 1)] ++ [bN n, bE, some (objP n 4 5)] ++ [bN n, bE, some (objP n 7 8)] ++ [some (itB 1 b0 seen)], []⟩
theorem rAPb (n : Int) : ACalls Try.prog 14 [.bp 6 0] (⟨(T0b n) ++ [bE, bE, some (objP n 4 5)], []⟩) (fun v m' => v = .tp [] ∧ m' = ⟨(T0b n) ++ [bN n, bE, some (objP n 4 5)], []⟩) :=
  ACalls.ranV (mus := mus) (hook := obHook noHook) (k := 300) (n := 7) (q := (.tp [], ⟨(T0b n) ++ [bN n, bE, some (objP n 4 5)], []⟩)) ok_mix (obHook_ok noHook_ok) (by kernel_rfl)
theorem rBPb (n : Int) : ACalls Try.prog 14 [.bp 6 0] (⟨(T0b n) ++ [bE, bE, some (objP n 5 4)], []⟩) (fun v m' => v = .tp [] ∧ m' = ⟨(T0b n) ++ [bE, bN n, some (objP n 5 4)], []⟩) :=
  ACalls.ranV (mus := mus) (hook := obHook noHook) (k := 300) (n := 7) (q := (.tp [], ⟨(T0b n) ++ [bE, bN n, some (objP n 5 4)], []⟩)) ok_mix (obHook_ok noHook_ok) (by kernel_rfl)
set_option maxHeartbeats 4000000 in
theorem startPb (n : Int) : ACalls Try.prog 24 [progT n, pS sC, pI 1] ⟨(T0b n), []⟩ (fun v m' => v = .bp 6 0 ∧ m' = ⟨(T0b n) ++ [bN n, bE, some (objP n 4 5)], []⟩) := by
  refine ACalls.ren (R := fun v m' => v = .bp 6 0 ∧ (m' = ⟨(T0b n) ++ [bN n, bE, some (objP n 4 5)], []⟩ ∨ m' = ⟨(T0b n) ++ [bE, bN n, some (objP n 5 4)], []⟩)) ?_ ?_
  · refine ACalls.enter (mu := [29]) ok_mix Try.func24 rfl (by kernel_rfl) (by kernel_rfl) (by simp only [List.length_cons, List.length_nil, Try.ntmps24]; omega) ?_
    (repeat (first | refine aSeq fun X hX => ?_ | refine aBlk ?_ | refine aSkip ?_ | (first | refine aExit ?_ | refine aRet ?_); try simp only [slx, ↓reduceIte, Nat.reduceEqDiff, reduceCtorEq] | (first | refine aReg ?_ | refine aIf ?_); simp -implicitDefEqProofs only [forall_eq, ↓slp, slb, ↓reduceIte, reduceCtorEq, jA, jB, jC, jD, jE, jF, jG, jH, jI, jJ, jK, tfObPt]; try simp only [Ex.fold, Ex.foldcs, ← Va.pv.eq_1] | refine hX _ _ ?_; clear hX X | clear hX X; refine hX _ _ ?_; clear hX X | clear hX X; clear hX X; refine hX _ _ ?_; clear hX X | intro hlen; unfold maxLen at hlen | apply And.intro; focus (first | omega | assumption | (repeat' apply And.intro) <;> first | omega | assumption)))
    refine ⟨rfl, ?_⟩
    have hcs : (progT n).settle.cells = [.sl .no [], .sl .no [pCls n, topC]] := rfl
    (repeat (first | refine aSeq fun X hX => ?_ | refine aBlk ?_ | refine aSkip ?_ | (first | refine aExit ?_ | refine aRet ?_); try simp only [slx, ↓reduceIte, Nat.reduceEqDiff, reduceCtorEq] | (first | refine aReg ?_ | refine aIf ?_); simp -implicitDefEqProofs only [forall_eq, ↓slp, slb, ↓reduceIte, reduceCtorEq, jA, jB, jC, jD, jE, jF, jG, jH, jI, jJ, jK, tfObPt, hcs]; try simp only [Ex.fold, Ex.foldcs, ← Va.pv.eq_1] | refine hX _ _ ?_; clear hX X | clear hX X; refine hX _ _ ?_; clear hX X | clear hX X; clear hX X; refine hX _ _ ?_; clear hX X | intro hlen; unfold maxLen at hlen | apply And.intro; focus (first | omega | assumption | (repeat' apply And.intro) <;> first | omega | assumption)))
    refine callE (findC_any n _) ?_
    simp -implicitDefEqProofs only [↓slp, slb, ↓reduceIte, reduceCtorEq, jA, jB, jC, jD, jE, jF, jG, jH, jI, jJ, jK, tfObPt, hcs]; try simp only [Ex.fold, Ex.foldcs, ← Va.pv.eq_1]
    (repeat (first | refine aSeq fun X hX => ?_ | refine aBlk ?_ | refine aSkip ?_ | (first | refine aExit ?_ | refine aRet ?_); try simp only [slx, ↓reduceIte, Nat.reduceEqDiff, reduceCtorEq] | (first | refine aReg ?_ | refine aIf ?_); simp -implicitDefEqProofs only [forall_eq, ↓slp, slb, ↓reduceIte, reduceCtorEq, jA, jB, jC, jD, jE, jF, jG, jH, jI, jJ, jK, tfObPt, hcs, pS, pI]; try simp only [Ex.fold, Ex.foldcs, ← Va.pv.eq_1] | refine hX _ _ ?_; clear hX X | clear hX X; refine hX _ _ ?_; clear hX X | clear hX X; clear hX X; refine hX _ _ ?_; clear hX X | intro hlen; unfold maxLen at hlen | apply And.intro; focus (first | omega | assumption | (repeat' apply And.intro) <;> first | omega | assumption)))
    have join : ∀ (f : F) (i j : Nat) (mm mR : M), mm.get 6 = some (objP n i j) → ACalls Try.prog 14 [.bp 6 0] mm (fun v m' => v = .tp [] ∧ m' = mR) → (mR = ⟨(T0b n) ++ [bN n, bE, some (objP n 4 5)], []⟩ ∨ mR = ⟨(T0b n) ++ [bE, bN n, some (objP n 5 4)], []⟩) → f 8 = .bp 6 0 → X f mm := by
      intro f i j mm mR hg hR hm h8
      unfold objP at hg
      refine hX _ _ ?_
      clear hX X
      (repeat (first | refine aSeq fun X hX => ?_ | refine aBlk ?_ | refine aSkip ?_ | (first | refine aExit ?_ | refine aRet ?_); try simp only [slx, ↓reduceIte, Nat.reduceEqDiff, reduceCtorEq] | (first | refine aReg ?_ | refine aIf ?_); simp -implicitDefEqProofs only [forall_eq, ↓slp, slb, ↓reduceIte, reduceCtorEq, jA, jB, jC, jD, jE, jF, jG, jH, jI, jJ, jK, tfObPt, h8, hg]; try simp only [Ex.fold, Ex.foldcs, ← Va.pv.eq_1] | refine hX _ _ ?_; clear hX X | clear hX X; refine hX _ _ ?_; clear hX X | clear hX X; clear hX X; refine hX _ _ ?_; clear hX X | intro hlen; unfold maxLen at hlen | apply And.intro; focus (first | omega | assumption | (repeat' apply And.intro) <;> first | omega | assumption)))
      obtain ⟨I, hI⟩ : ∃ I : F → M → Prop, ∀ g m', I g m' = (g 8 = .bp 6 0 ∧ g 35 = pI 0 ∧ g 36 = pI 0 ∧ m' = mm) := ⟨_, fun _ _ => rfl⟩
      refine aLoop I (fun f m => 0) ?_ ?_
      · rw [hI]; exact ⟨h8, rfl, rfl, rfl⟩
      intro g m' hrel
      rw [hI] at hrel
      obtain ⟨g8, g35, g36, rfl⟩ := hrel
      (repeat (first | refine aSeq fun X hX => ?_ | refine aBlk ?_ | refine aSkip ?_ | (first | refine aExit ?_ | refine aRet ?_); try simp only [slx, ↓reduceIte, Nat.reduceEqDiff, reduceCtorEq] | (first | refine aReg ?_ | refine aDrE ?_); simp -implicitDefEqProofs only [forall_eq, ↓slp, slb, ↓reduceIte, reduceCtorEq, jA, jB, jC, jD, jE, jF, jG, jH, jI, jJ, jK, tfObPt, g8, g35, g36, pI]; try simp only [Ex.fold, Ex.foldcs, ← Va.pv.eq_1] | refine hX _ _ ?_; clear hX X | clear hX X; refine hX _ _ ?_; clear hX X | clear hX X; clear hX X; refine hX _ _ ?_; clear hX X | intro hlen; unfold maxLen at hlen | apply And.intro; focus (first | omega | assumption | (repeat' apply And.intro) <;> first | omega | assumption)))
      refine aIf ?_; simp -implicitDefEqProofs only [↓slp, slb, ↓reduceIte, reduceCtorEq, jA, jB, jC, jD, jE, jF, jG, jH, jI, jJ, jK]
      (repeat (first | refine aSeq fun X hX => ?_ | refine aBlk ?_ | refine aSkip ?_ | (first | refine aExit ?_ | refine aRet ?_); try simp only [slx, ↓reduceIte, Nat.reduceEqDiff, reduceCtorEq] | (first | refine aReg ?_ | refine aDrE ?_); simp -implicitDefEqProofs only [forall_eq, ↓slp, slb, ↓reduceIte, reduceCtorEq, jA, jB, jC, jD, jE, jF, jG, jH, jI, jJ, jK, tfObPt, g8, g35, g36, pI]; try simp only [Ex.fold, Ex.foldcs, ← Va.pv.eq_1] | refine hX _ _ ?_; clear hX X | clear hX X; refine hX _ _ ?_; clear hX X | clear hX X; clear hX X; refine hX _ _ ?_; clear hX X | intro hlen; unfold maxLen at hlen | apply And.intro; focus (first | omega | assumption | (repeat' apply And.intro) <;> first | omega | assumption)))
      refine callE hR ?_
      simp -implicitDefEqProofs only [↓slp, slb, ↓reduceIte, reduceCtorEq, jA, jB, jC, jD, jE, jF, jG, jH, jI, jJ, jK, tfObPt, g8]; try simp only [Ex.fold, Ex.foldcs, ← Va.pv.eq_1]
      (repeat (first | refine aSeq fun X hX => ?_ | refine aBlk ?_ | refine aSkip ?_ | (first | refine aExit ?_ | refine aRet ?_); try simp only [slx, ↓reduceIte, Nat.reduceEqDiff, reduceCtorEq] | (first | refine aReg ?_ | refine aDrE ?_); simp -implicitDefEqProofs only [forall_eq, ↓slp, slb, ↓reduceIte, reduceCtorEq, jA, jB, jC, jD, jE, jF, jG, jH, jI, jJ, jK, tfObPt, g8]; try simp only [Ex.fold, Ex.foldcs, ← Va.pv.eq_1] | refine hX _ _ ?_; clear hX X | clear hX X; refine hX _ _ ?_; clear hX X | clear hX X; clear hX X; refine hX _ _ ?_; clear hX X | intro hlen; unfold maxLen at hlen | apply And.intro; focus (first | omega | assumption | (repeat' apply And.intro) <;> first | omega | assumption)))
      simp only [aPost, Try.results24, aRes_n, aRes_t, aRes_c, pack_one, pack_two]
      simp -implicitDefEqProofs only [↓slp, slb, ↓reduceIte, reduceCtorEq, jA, jB, jC, jD, jE, jF, jG, jH, jI, jJ, jK, tfObPt, g8]; try simp only [Ex.fold, Ex.foldcs, ← Va.pv.eq_1]
      rcases hm with rfl | rfl
      · exact leave_over (by show 4 ≤ 4 + 3; omega) (Nat.le_refl _) rfl rfl ⟨rfl, .inl rfl⟩
      · exact leave_over (by show 4 ≤ 4 + 3; omega) (Nat.le_refl _) rfl rfl ⟨rfl, .inr rfl⟩
    clear hX
    refine aFltC 6 8 (fun _ => True) (by omega) (by simp only [List.length_cons, List.length_nil]; omega) (by kernel_rfl) trivial ?_
    simp -implicitDefEqProofs only [↓slp, slb, ↓reduceIte, reduceCtorEq, jA, jB, jC, jD, jE, jF, jG, jH, jI, jJ, jK, tfObPt, pCls, List.getElem_cons_succ, List.getElem_cons_zero, List.drop_succ_cons, List.drop_zero, List.take_succ_cons, List.take_zero, List.cons_append, List.nil_append, Nat.reduceSub]; try simp only [Ex.fold, Ex.foldcs, ← Va.pv.eq_1]
    refine ⟨?_, ?_⟩
    · exact join _ 4 5 _ _ rfl (rAPb n) (.inl rfl) rfl
    · exact join _ 5 4 _ _ rfl (rBPb n) (.inr rfl) rfl
  · rintro v m' ⟨rfl, rfl | rfl⟩
    · exact .inl ⟨rfl, rfl⟩
    · refine .inr ⟨swp 4 5, ⟨(T0b n) ++ [bN n, bE, some (objP n 4 5)], []⟩, ⟨swp_inv 4 5, fun i hi => ?_, rfl, rfl, fun i hi => ?_⟩, fun i hi => ?_, rfl, rfl⟩
      · have hi : i < 4 + 3 := hi
        show swp 4 5 i < 4 + 3
        unfold swp
        split
        · omega
        · split <;> omega
      · have hi : i < 4 + 3 := hi
        have h3 : i = 0 ∨ i = 1 ∨ i = 2 ∨ i = 3 ∨ i = 4 ∨ i = 5 ∨ i = 6 := by omega
        rcases h3 with rfl | rfl | rfl | rfl | rfl | rfl | rfl <;> rfl
      · have hi : i < 4 := hi
        unfold swp
        rw [if_neg (by omega), if_neg (by omega)]
theorem rAQb (n : Int) : ACalls Try.prog 14 [.bp 9 0] (⟨(P1b n) ++ [bE, bE, some (objP n 7 8)], []⟩) (fun v m' => v = .tp [] ∧ m' = ⟨(P1b n) ++ [bN n, bE, some (objP n 7 8)], []⟩) :=
  ACalls.ranV (mus := mus) (hook := obHook noHook) (k := 300) (n := 10) (q := (.tp [], ⟨(P1b n) ++ [bN n, bE, some (objP n 7 8)], []⟩)) ok_mix (obHook_ok noHook_ok) (by kernel_rfl)
theorem rBQb (n : Int) : ACalls Try.prog 14 [.bp 9 0] (⟨(P1b n) ++ [bE, bE, some (objP n 8 7)], []⟩) (fun v m' => v = .tp [] ∧ m' = ⟨(P1b n) ++ [bE, bN n, some (objP n 8 7)], []⟩) :=
  ACalls.ranV (mus := mus) (hook := obHook noHook) (k := 300) (n := 10) (q := (.tp [], ⟨(P1b n) ++ [bE, bN n, some (objP n 8 7)], []⟩)) ok_mix (obHook_ok noHook_ok) (by kernel_rfl)
set_option maxHeartbeats 4000000 in
theorem startQb (n : Int) : ACalls Try.prog 24 [progT n, pS sC, pI 1] ⟨(P1b n), []⟩ (fun v m' => v = .bp 9 0 ∧ m' = ⟨(P1b n) ++ [bN n, bE, some (objP n 7 8)], []⟩) := by
  refine ACalls.ren (R := fun v m' => v = .bp 9 0 ∧ (m' = ⟨(P1b n) ++ [bN n, bE, some (objP n 7 8)], []⟩ ∨ m' = ⟨(P1b n) ++ [bE, bN n, some (objP n 8 7)], []⟩)) ?_ ?_
  · refine ACalls.enter (mu := [29]) ok_mix Try.func24 rfl (by kernel_rfl) (by kernel_rfl) (by simp only [List.length_cons, List.length_nil, Try.ntmps24]; omega) ?_
    (repeat (first | refine aSeq fun X hX => ?_ | refine aBlk ?_ | refine aSkip ?_ | (first | refine aExit ?_ | refine aRet ?_); try simp only [slx, ↓reduceIte, Nat.reduceEqDiff, reduceCtorEq] | (first | refine aReg ?_ | refine aIf ?_); simp -implicitDefEqProofs only [forall_eq, ↓slp, slb, ↓reduceIte, reduceCtorEq, jA, jB, jC, jD, jE, jF, jG, jH, jI, jJ, jK, tfObPt]; try simp only [Ex.fold, Ex.foldcs, ← Va.pv.eq_1] | refine hX _ _ ?_; clear hX X | clear hX X; refine hX _ _ ?_; clear hX X | clear hX X; clear hX X; refine hX _ _ ?_; clear hX X | intro hlen; unfold maxLen at hlen | apply And.intro; focus (first | omega | assumption | (repeat' apply And.intro) <;> first | omega | assumption)))
    refine ⟨rfl, ?_⟩
    have hcs : (progT n).settle.cells = [.sl .no [], .sl .no [pCls n, topC]] := rfl
    (repeat (first | refine aSeq fun X hX => ?_ | refine aBlk ?_ | refine aSkip ?_ | (first | refine aExit ?_ | refine aRet ?_); try simp only [slx, ↓reduceIte, Nat.reduceEqDiff, reduceCtorEq] | (first | refine aReg ?_ | refine aIf ?_); simp -implicitDefEqProofs only [forall_eq, ↓slp, slb, ↓reduceIte, reduceCtorEq, jA, jB, jC, jD, jE, jF, jG, jH, jI, jJ, jK, tfObPt, hcs]; try simp only [Ex.fold, Ex.foldcs, ← Va.pv.eq_1] | refine hX _ _ ?_; clear hX X | clear hX X; refine hX _ _ ?_; clear hX X | clear hX X; clear hX X; refine hX _ _ ?_; clear hX X | intro hlen; unfold maxLen at hlen | apply And.intro; focus (first | omega | assumption | (repeat' apply And.intro) <;> first | omega | assumption)))
    refine callE (findC_any n _) ?_
    simp -implicitDefEqProofs only [↓slp, slb, ↓reduceIte, reduceCtorEq, jA, jB, jC, jD, jE, jF, jG, jH, jI, jJ, jK, tfObPt, hcs]; try simp only [Ex.fold, Ex.foldcs, ← Va.pv.eq_1]
    (repeat (first | refine aSeq fun X hX => ?_ | refine aBlk ?_ | refine aSkip ?_ | (first | refine aExit ?_ | refine aRet ?_); try simp only [slx, ↓reduceIte, Nat.reduceEqDiff, reduceCtorEq] | (first | refine aReg ?_ | refine aIf ?_); simp -implicitDefEqProofs only [forall_eq, ↓slp, slb, ↓reduceIte, reduceCtorEq, jA, jB, jC, jD, jE, jF, jG, jH, jI, jJ, jK, tfObPt, hcs, pS, pI]; try simp only [Ex.fold, Ex.foldcs, ← Va.pv.eq_1] | refine hX _ _ ?_; clear hX X | clear hX X; refine hX _ _ ?_; clear hX X | clear hX X; clear hX X; refine hX _ _ ?_; clear hX X | intro hlen; unfold maxLen at hlen | apply And.intro; focus (first | omega | assumption | (repeat' apply And.intro) <;> first | omega | assumption)))
    have join : ∀ (f : F) (i j : Nat) (mm mR : M), mm.get 9 = some (objP n i j) → ACalls Try.prog 14 [.bp 9 0] mm (fun v m' => v = .tp [] ∧ m' = mR) → (mR = ⟨(P1b n) ++ [bN n, bE, some (objP n 7 8)], []⟩ ∨ mR = ⟨(P1b n) ++ [bE, bN n, some (objP n 8 7)], []⟩) → f 8 = .bp 9 0 → X f mm := by
      intro f i j mm mR hg hR hm h8
      unfold objP at hg
      refine hX _ _ ?_
      clear hX X
      (repeat (first | refine aSeq fun X hX => ?_ | refine aBlk ?_ | refine aSkip ?_ | (first | refine aExit ?_ | refine aRet ?_); try simp only [slx, ↓reduceIte, Nat.reduceEqDiff, reduceCtorEq] | (first | refine aReg ?_ | refine aIf ?_); simp -implicitDefEqProofs only [forall_eq, ↓slp, slb, ↓reduceIte, reduceCtorEq, jA, jB, jC, jD, jE, jF, jG, jH, jI, jJ, jK, tfObPt, h8, hg]; try simp only [Ex.fold, Ex.foldcs, ← Va.pv.eq_1] | refine hX _ _ ?_; clear hX X | clear hX X; refine hX _ _ ?_; clear hX X | clear hX X; clear hX X; refine hX _ _ ?_; clear hX X | intro hlen; unfold maxLen at hlen | apply And.intro; focus (first | omega | assumption | (repeat' apply And.intro) <;> first | omega | assumption)))
      obtain ⟨I, hI⟩ : ∃ I : F → M → Prop, ∀ g m', I g m' = (g 8 = .bp 9 0 ∧ g 35 = pI 0 ∧ g 36 = pI 0 ∧ m' = mm) := ⟨_, fun _ _ => rfl⟩
      refine aLoop I (fun f m => 0) ?_ ?_
      · rw [hI]; exact ⟨h8, rfl, rfl, rfl⟩
      intro g m' hrel
      rw [hI] at hrel
      obtain ⟨g8, g35, g36, rfl⟩ := hrel
      (repeat (first | refine aSeq fun X hX => ?_ | refine aBlk ?_ | refine aSkip ?_ | (first | refine aExit ?_ | refine aRet ?_); try simp only [slx, ↓reduceIte, Nat.reduceEqDiff, reduceCtorEq] | (first | refine aReg ?_ | refine aDrE ?_); simp -implicitDefEqProofs only [forall_eq, ↓slp, slb, ↓reduceIte, reduceCtorEq, jA, jB, jC, jD, jE, jF, jG, jH, jI, jJ, jK, tfObPt, g8, g35, g36, pI]; try simp only [Ex.fold, Ex.foldcs, ← Va.pv.eq_1] | refine hX _ _ ?_; clear hX X | clear hX X; refine hX _ _ ?_; clear hX X | clear hX X; clear hX X; refine hX _ _ ?_; clear hX X | intro hlen; unfold maxLen at hlen | apply And.intro; focus (first | omega | assumption | (repeat' apply And.intro) <;> first | omega | assumption)))
      refine aIf ?_; simp -implicitDefEqProofs only [↓slp, slb, ↓reduceIte, reduceCtorEq, jA, jB, jC, jD, jE, jF, jG, jH, jI, jJ, jK]
      (repeat (first | refine aSeq fun X hX => ?_ | refine aBlk ?_ | refine aSkip ?_ | (first | refine aExit ?_ | refine aRet ?_); try simp only [slx, ↓reduceIte, Nat.reduceEqDiff, reduceCtorEq] | (first | refine aReg ?_ | refine aDrE ?_); simp -implicitDefEqProofs only [forall_eq, ↓slp, slb, ↓reduceIte, reduceCtorEq, jA, jB, jC, jD, jE, jF, jG, jH, jI, jJ, jK, tfObPt, g8, g35, g36, pI]; try simp only [Ex.fold, Ex.foldcs, ← Va.pv.eq_1] | refine hX _ _ ?_; clear hX X | clear hX X; refine hX _ _ ?_; clear hX X | clear hX X; clear hX X; refine hX _ _ ?_; clear hX X | intro hlen; unfold maxLen at hlen | apply And.intro; focus (first | omega | assumption | (repeat' apply And.intro) <;> first | omega | assumption)))
      refine callE hR ?_
      simp -implicitDefEqProofs only [↓slp, slb, ↓reduceIte, reduceCtorEq, jA, jB, jC, jD, jE, jF, jG, jH, jI, jJ, jK, tfObPt, g8]; try simp only [Ex.fold, Ex.foldcs, ← Va.pv.eq_1]
      (repeat (first | refine aSeq fun X hX => ?_ | refine aBlk ?_ | refine aSkip ?_ | (first | refine aExit ?_ | refine aRet ?_); try simp only [slx, ↓reduceIte, Nat.reduceEqDiff, reduceCtorEq] | (first | refine aReg ?_ | refine aDrE ?_); simp -implicitDefEqProofs only [forall_eq, ↓slp, slb, ↓reduceIte, reduceCtorEq, jA, jB, jC, jD, jE, jF, jG, jH, jI, jJ, jK, tfObPt, g8]; try simp only [Ex.fold, Ex.foldcs, ← Va.pv.eq_1] | refine hX _ _ ?_; clear hX X | clear hX X; refine hX _ _ ?_; clear hX X | clear hX X; clear hX X; refine hX _ _ ?_; clear hX X | intro hlen; unfold maxLen at hlen | apply And.intro; focus (first | omega | assumption | (repeat' apply And.intro) <;> first | omega | assumption)))
      simp only [aPost, Try.results24, aRes_n, aRes_t, aRes_c, pack_one, pack_two]
      simp -implicitDefEqProofs only [↓slp, slb, ↓reduceIte, reduceCtorEq, jA, jB, jC, jD, jE, jF, jG, jH, jI, jJ, jK, tfObPt, g8]; try simp only [Ex.fold, Ex.foldcs, ← Va.pv.eq_1]
      rcases hm with rfl | rfl
      · exact leave_over (by show 7 ≤ 7 + 3; omega) (Nat.le_refl _) rfl rfl ⟨rfl, .inl rfl⟩
      · exact leave_over (by show 7 ≤ 7 + 3; omega) (Nat.le_refl _) rfl rfl ⟨rfl, .inr rfl⟩
    clear hX
    refine aFltC 6 8 (fun _ => True) (by omega) (by simp only [List.length_cons, List.length_nil]; omega) (by kernel_rfl) trivial ?_
    simp -implicitDefEqProofs only [↓slp, slb, ↓reduceIte, reduceCtorEq, jA, jB, jC, jD, jE, jF, jG, jH, jI, jJ, jK, tfObPt, pCls, List.getElem_cons_succ, List.getElem_cons_zero, List.drop_succ_cons, List.drop_zero, List.take_succ_cons, List.take_zero, List.cons_append, List.nil_append, Nat.reduceSub]; try simp only [Ex.fold, Ex.foldcs, ← Va.pv.eq_1]
    refine ⟨?_, ?_⟩
    · exact join _ 7 8 _ _ rfl (rAQb n) (.inl rfl) rfl
    · exact join _ 8 7 _ _ rfl (rBQb n) (.inr rfl) rfl
  · rintro v m' ⟨rfl, rfl | rfl⟩
    · exact .inl ⟨rfl, rfl⟩
    · refine .inr ⟨swp 7 8, ⟨(P1b n) ++ [bN n, bE, some (objP n 7 8)], []⟩, ⟨swp_inv 7 8, fun i hi => ?_, rfl, rfl, fun i hi => ?_⟩, fun i hi => ?_, rfl, rfl⟩
      · have hi : i < 7 + 3 := hi
        show swp 7 8 i < 7 + 3
        unfold swp
        split
        · omega
        · split <;> omega
      · have hi : i < 7 + 3 := hi
        have h3 : i = 0 ∨ i = 1 ∨ i = 2 ∨ i = 3 ∨ i = 4 ∨ i = 5 ∨ i = 6 ∨ i = 7 ∨ i = 8 ∨ i = 9 := by omega
        rcases h3 with rfl | rfl | rfl | rfl | rfl | rfl | rfl | rfl | rfl | rfl <;> rfl
      · have hi : i < 7 := hi
        unfold swp
        rw [if_neg (by omega), if_neg (by omega)]
theorem rs0b (n : Int) (b0 : Nat) : ACalls Try.prog 14 [.bp 6 0] (R1b n b0 [st b0 0]) (fun v m' => v = .tp [] ∧ m' = R1b n b0 [st b0 0]) :=
  ACalls.ranV (mus := mus) (hook := obHook noHook) (k := 300) (n := 11) (q := (.tp [], R1b n b0 [st b0 0])) ok_mix (obHook_ok noHook_ok) (by kernel_rfl)
theorem rs1b (n : Int) (b0 : Nat) : ACalls Try.prog 14 [.bp 9 0] (R1b n b0 [st b0 1]) (fun v m' => v = .tp [] ∧ m' = R1b n b0 [st b0 1]) :=
  ACalls.ranV (mus := mus) (hook := obHook noHook) (k := 300) (n := 11) (q := (.tp [], R1b n b0 [st b0 1])) ok_mix (obHook_ok noHook_ok) (by kernel_rfl)
theorem rs01b (n : Int) (b0 : Nat) : ACalls Try.prog 14 [.bp 9 0] (R1b n b0 [st b0 0, st b0 1]) (fun v m' => v = .tp [] ∧ m' = R1b n b0 [st b0 0, st b0 1]) :=
  ACalls.ranV (mus := mus) (hook := obHook noHook) (k := 300) (n := 11) (q := (.tp [], R1b n b0 [st b0 0, st b0 1])) ok_mix (obHook_ok noHook_ok) (by kernel_rfl)
theorem rs10b (n : Int) (b0 : Nat) : ACalls Try.prog 14 [.bp 6 0] (R1b n b0 [st b0 1, st b0 0]) (fun v m' => v = .tp [] ∧ m' = R1b n b0 [st b0 1, st b0 0]) :=
  ACalls.ranV (mus := mus) (hook := obHook noHook) (k := 300) (n := 11) (q := (.tp [], R1b n b0 [st b0 1, st b0 0])) ok_mix (obHook_ok noHook_ok) (by kernel_rfl)
end Go.Proofs.Ytmcajiccepgagaa

/-
  An instance that holds two others begins: Reset, start, New.
-/
set_option linter.unusedVariables false
set_option linter.unusedSimpArgs false
namespace Go.Proofs.Ytmcajiccepgagaa
open Nat renaming reduceEqDiff → jA, reduceAdd → jB, reduceMul → jC, reduceLT → jD, reduceLeDiff → jE, reduceBEq → jF, reduceBNe → jG
open Int renaming reduceLE → jH, reduceLT → jI, reduceToNat → jJ, reduceEq → jK
open Go
set_option linter.defProp false
def tfObPu := And.intro @tfA (And.intro @Ex.settle_pv (And.intro @Ex.pure_pv (And.intro @Ex.cells_pv (And.intro @Ex.cs.eq_1 (And.intro @On.pv.eq_1 (And.intro @Ty.pv.eq_1 (And.intro @Va.settle_pv (And.intro @Va.pure_pv (And.intro @Va.cells_pv @Va.cs.eq_1)))))))))
set_option maxRecDepth 100000
-- TYPES:
theorem last_app (l : List PV) (x : PV) : (l ++ [x]).getLast? = some x := by simp
theorem st_toNat (b k : Nat) : ((b : Int) + (k : Int) - (b : Int)).toNat = k := by omega
theorem tm1 : tmap Try.prog 79 = some 21 := by kernel_rfl
theorem tm2 : tmap Try.prog 80 = some 48 := by kernel_rfl
theorem st_inj {b k l : Nat} (h : st b k = st b l) : k = l := by simp at h; omega
theorem R1a_3 (n : Int) (b0 : Nat) (s : List PV) : (R1a n b0 s).get 3 = some (objT n 1 2) := rfl
theorem R1a_j (n : Int) (b0 : Nat) (s : List PV) : (R1a n b0 s).get 2 = some [.tp [pS sP, pS sQ], .tp [.bp 6 0, .bp 9 0], .v (.int .i64 b0)] := rfl
theorem R1a_10 (n : Int) (b0 : Nat) (s : List PV) : (R1a n b0 s).get 10 = some [.mp 2, .tp s, .v (.int .i64 ((b0 : Int) + ((2 : Nat) : Int)))] := rfl
set_option maxHeartbeats 8000000 in
theorem resetTa (n : Int) : ACalls Try.prog 14 [.bp 3 0] ⟨Q1a n, []⟩ (fun v m' => v = .tp [] ∧ m' = ⟨Q1a n, []⟩) := by
  have q3 : (⟨Q1a n, []⟩ : M).get 3 = some (objT n 1 2) := rfl
  have qi : (⟨Q1a n, []⟩ : M).get 1 = some [.tp [], .tp []] := rfl
  have qj : (⟨Q1a n, []⟩ : M).get 2 = some [.tp [pS sP, pS sQ], .tp [.bp 6 0, .bp 9 0]] := rfl
  have qu : (⟨Q1a n, []⟩ : M).upd 1 [.tp [], .tp []] = ⟨Q1a n, []⟩ := rfl
  simp only [objT, topCs, List.cons_append, List.nil_append] at q3
  refine ACalls.enter (mu := []) ok_mix Try.func14 rfl (by kernel_rfl) (by kernel_rfl) (by simp only [List.length_cons, List.length_nil, Try.ntmps14]; omega) ?_
  (repeat (first | refine aSeq fun X hX => ?_ | refine aBlk ?_ | refine aSkip ?_ | (first | refine aExit ?_ | refine aRet ?_); try simp only [slx, ↓reduceIte, Nat.reduceEqDiff, reduceCtorEq] | (first | refine aReg ?_ | refine aIf ?_); simp -implicitDefEqProofs only [forall_eq, ↓slp, slb, ↓reduceIte, reduceCtorEq, jA, jB, jC, jD, jE, jF, jG, jH, jI, jJ, jK, tfObPu, q3, qi, qu, tm1]; try simp only [Ex.fold, Ex.foldcs, ← Va.pv.eq_1] | refine hX _ _ ?_; clear hX X | clear hX X; refine hX _ _ ?_; clear hX X | clear hX X; clear hX X; refine hX _ _ ?_; clear hX X | intro hlen; unfold maxLen at hlen | apply And.intro; focus (first | omega | assumption | (repeat' apply And.intro) <;> first | omega | assumption)))
  obtain ⟨I, hI⟩ : ∃ I : F → M → Prop, ∀ g m', I g m' = (g 0 = .bp 3 0 ∧ g 16 = .sl .no [] ∧ g 17 = pI 0 ∧ g 18 = pI 0 ∧ m' = ⟨Q1a n, []⟩) := ⟨_, fun _ _ => rfl⟩
  refine aLoop I (fun f m => 0) ?_ ?_
  · rw [hI]; exact ⟨rfl, rfl, rfl, rfl, rfl⟩
  intro g m' hrel
  rw [hI] at hrel
  obtain ⟨g0, g16, g17, g18, rfl⟩ := hrel
  (repeat (first | refine aSeq fun X hX => ?_ | refine aBlk ?_ | refine aSkip ?_ | (first | refine aExit ?_ | refine aRet ?_); try simp only [slx, ↓reduceIte, Nat.reduceEqDiff, reduceCtorEq] | (first | refine aReg ?_ | refine aIf ?_); simp -implicitDefEqProofs only [forall_eq, ↓slp, slb, ↓reduceIte, reduceCtorEq, jA, jB, jC, jD, jE, jF, jG, jH, jI, jJ, jK, tfObPu, g0, g16, g17, g18, pI, q3, qj, tm2]; try simp only [Ex.fold, Ex.foldcs, ← Va.pv.eq_1] | refine hX _ _ ?_; clear hX X | clear hX X; refine hX _ _ ?_; clear hX X | clear hX X; clear hX X; refine hX _ _ ?_; clear hX X | intro hlen; unfold maxLen at hlen | apply And.intro; focus (first | omega | assumption | (repeat' apply And.intro) <;> first | omega | assumption)))
  rintro v m' ⟨b0, rfl, rfl⟩
  have hR0 : (((⟨Q1a n, []⟩ : M).upd 2 [.tp [pS sP, pS sQ], .tp [.bp 6 0, .bp 9 0], .v (.int .i64 b0)]).push [.mp 2, .tp [], .v (.int .i64 ((b0 : Int) + (([PV.bp 6 0, PV.bp 9 0].length : Nat) : Int)))]) = R1a n b0 [] := rfl
  rw [hR0]
  have hu : ∀ (s s' : List PV), (R1a n b0 s).upd 10 [.mp 2, .tp s', .v (.int .i64 ((b0 : Int) + ((2 : Nat) : Int)))] = R1a n b0 s' := fun _ _ => rfl
  have hov : ∀ (s : List PV), (R1a n b0 s).upd 2 [.tp [pS sP, pS sQ], .tp [.bp 6 0, .bp 9 0]] = (⟨Q1a n, []⟩ : M).ext [some (itB 2 b0 s)] := fun _ => rfl
  refine hX _ _ ?_
  clear hX X hI I q3 qi qj qu
  obtain ⟨J, hJ⟩ : ∃ J : F → M → Prop, ∀ g m', J g m' = ∃ s : List PV, g 44 = .it 10 ∧ (s = [] ∨ s = [st b0 0] ∨ s = [st b0 1] ∨ s = [st b0 0, st b0 1] ∨ s = [st b0 1, st b0 0]) ∧ m' = R1a n b0 s := ⟨_, fun _ _ => rfl⟩
  refine aLoop J (fun f m => match m.get 10 with | some [_, .tp s, _] => 2 - s.length | _ => 0) ?_ ?_
  · rw [hJ]; exact ⟨[], rfl, .inl rfl, rfl⟩
  clear g0 g16 g17 g18 hR0
  intro f m' hrel
  rw [hJ] at hrel
  obtain ⟨s, h44, hs, rfl⟩ := hrel
  have r3 := R1a_3 n b0 s
  have rj := R1a_j n b0 s
  have r10 := R1a_10 n b0 s
  (repeat (first | refine aSeq fun X hX => ?_ | refine aBlk ?_ | refine aSkip ?_ | (first | refine aExit ?_ | refine aRet ?_); try simp only [slx, ↓reduceIte, Nat.reduceEqDiff, reduceCtorEq] | (first | refine aReg ?_ | refine aIf ?_); simp -implicitDefEqProofs only [forall_eq, ↓slp, slb, ↓reduceIte, reduceCtorEq, jA, jB, jC, jD, jE, jF, jG, jH, jI, jJ, jK, tfObPu, h44, rj, r10]; try simp only [Ex.fold, Ex.foldcs, ← Va.pv.eq_1] | refine hX _ _ ?_; clear hX X | clear hX X; refine hX _ _ ?_; clear hX X | clear hX X; clear hX X; refine hX _ _ ?_; clear hX X | intro hlen; unfold maxLen at hlen | apply And.intro; focus (first | omega | assumption | (repeat' apply And.intro) <;> first | omega | assumption)))
  have go : ∀ (k ob : Nat) (s' : List PV), k < 2 → [PV.bp 6 0, PV.bp 9 0].getD k .junk = .bp ob 0 → s'.getLast? = some (st b0 k) → ACalls Try.prog 14 [.bp ob 0] (R1a n b0 s') (fun v m' => v = .tp [] ∧ m' = R1a n b0 s') → (s' = [] ∨ s' = [st b0 0] ∨ s' = [st b0 1] ∨ s' = [st b0 0, st b0 1] ∨ s' = [st b0 1, st b0 0]) → s'.length = s.length + 1 → s.length ≤ 1 →
      ∀ f' : F, f' 44 = .it 10 → f' 46 = .v (.bool true) → X f' (R1a n b0 s') := by
    clear h44 rj r10 r3
    intro k ob s' hk hgd hla hR hs' hl1 hl2 f' h44 h46
    have rj := R1a_j n b0 s'
    have r10 := R1a_10 n b0 s'
    have hz := st_toNat b0 k
    have hc1 : (b0 : Int) ≤ (b0 : Int) + (k : Int) := by omega
    have hc2 : (b0 : Int) + (k : Int) < (b0 : Int) + ((2 : Nat) : Int) := by omega
    refine hX _ _ ?_
    clear hX X
    (repeat (first | refine aSeq fun X hX => ?_ | refine aBlk ?_ | refine aSkip ?_ | (first | refine aExit ?_ | refine aRet ?_); try simp only [slx, ↓reduceIte, Nat.reduceEqDiff, reduceCtorEq] | (first | refine aReg ?_ | refine aIf ?_); simp -implicitDefEqProofs only [forall_eq, ↓slp, slb, ↓reduceIte, reduceCtorEq, jA, jB, jC, jD, jE, jF, jG, jH, jI, jJ, jK, tfObPu, h44, h46, rj, r10, hla, hz, hgd]; try simp only [Ex.fold, Ex.foldcs, ← Va.pv.eq_1] | refine hX _ _ ?_; clear hX X | clear hX X; refine hX _ _ ?_; clear hX X | clear hX X; clear hX X; refine hX _ _ ?_; clear hX X | intro hlen; unfold maxLen at hlen | apply And.intro; focus (first | omega | assumption | (repeat' apply And.intro) <;> first | omega | assumption)))
    refine callE hR ?_
    simp -implicitDefEqProofs only [↓slp, slb, ↓reduceIte, reduceCtorEq, jA, jB, jC, jD, jE, jF, jG, jH, jI, jJ, jK, tfObPu]; try simp only [Ex.fold, Ex.foldcs, ← Va.pv.eq_1]
    (repeat (first | refine aSeq fun X hX => ?_ | refine aBlk ?_ | refine aSkip ?_ | (first | refine aExit ?_ | refine aRet ?_); try simp only [slx, ↓reduceIte, Nat.reduceEqDiff, reduceCtorEq] | (first | refine aReg ?_ | refine aIf ?_); simp -implicitDefEqProofs only [forall_eq, ↓slp, slb, ↓reduceIte, reduceCtorEq, jA, jB, jC, jD, jE, jF, jG, jH, jI, jJ, jK, tfObPu]; try simp only [Ex.fold, Ex.foldcs, ← Va.pv.eq_1] | refine hX _ _ ?_; clear hX X | clear hX X; refine hX _ _ ?_; clear hX X | clear hX X; clear hX X; refine hX _ _ ?_; clear hX X | intro hlen; unfold maxLen at hlen | apply And.intro; focus (first | omega | assumption | (repeat' apply And.intro) <;> first | omega | assumption)))
    rw [hJ]
    refine ⟨⟨s', h44, hs', rfl⟩, ?_⟩
    show 2 - s'.length < 2 - s.length
    omega
  rintro v m' (⟨k, hk, hns, rfl, rfl⟩ | ⟨hall, rfl, rfl⟩)
  · rw [hu]
    have hk2 : k = 0 ∨ k = 1 := by simp at hk; omega
    rcases hk2 with rfl | rfl
    · rcases hs with rfl | rfl | rfl | rfl | rfl
      · simp -implicitDefEqProofs only [↓slp, slb, ↓reduceIte, reduceCtorEq, jA, jB, jC, jD, jE, jF, jG, jH, jI, jJ, jK, tfObPu]; try simp only [Ex.fold, Ex.foldcs, ← Va.pv.eq_1]
        exact go 0 6 [st b0 0] (by omega) rfl rfl (rs0a n b0) (.inr (.inl rfl)) rfl (by simp) _ h44 rfl
      · exact absurd (by simp) hns
      · simp -implicitDefEqProofs only [↓slp, slb, ↓reduceIte, reduceCtorEq, jA, jB, jC, jD, jE, jF, jG, jH, jI, jJ, jK, tfObPu]; try simp only [Ex.fold, Ex.foldcs, ← Va.pv.eq_1]
        exact go 0 6 [st b0 1, st b0 0] (by omega) rfl rfl (rs10a n b0) (.inr (.inr (.inr (.inr rfl)))) rfl (by simp) _ h44 rfl
      · exact absurd (by simp) hns
      · exact absurd (by simp) hns
    · rcases hs with rfl | rfl | rfl | rfl | rfl
      · simp -implicitDefEqProofs only [↓slp, slb, ↓reduceIte, reduceCtorEq, jA, jB, jC, jD, jE, jF, jG, jH, jI, jJ, jK, tfObPu]; try simp only [Ex.fold, Ex.foldcs, ← Va.pv.eq_1]
        exact go 1 9 [st b0 1] (by omega) rfl rfl (rs1a n b0) (.inr (.inr (.inl rfl))) rfl (by simp) _ h44 rfl
      · simp -implicitDefEqProofs only [↓slp, slb, ↓reduceIte, reduceCtorEq, jA, jB, jC, jD, jE, jF, jG, jH, jI, jJ, jK, tfObPu]; try simp only [Ex.fold, Ex.foldcs, ← Va.pv.eq_1]
        exact go 1 9 [st b0 0, st b0 1] (by omega) rfl rfl (rs01a n b0) (.inr (.inr (.inr (.inl rfl)))) rfl (by simp) _ h44 rfl
      · exact absurd (by simp) hns
      · exact absurd (by simp) hns
      · exact absurd (by simp) hns
  · rw [hov]
    clear go
    simp -implicitDefEqProofs only [↓slp, slb, ↓reduceIte, reduceCtorEq, jA, jB, jC, jD, jE, jF, jG, jH, jI, jJ, jK, tfObPu]; try simp only [Ex.fold, Ex.foldcs, ← Va.pv.eq_1]
    (repeat (first | refine aSeq fun X hX => ?_ | refine aBlk ?_ | refine aSkip ?_ | (first | refine aExit ?_ | refine aRet ?_); try simp only [slx, ↓reduceIte, Nat.reduceEqDiff, reduceCtorEq] | (first | refine aReg ?_ | refine aIf ?_); simp -implicitDefEqProofs only [forall_eq, ↓slp, slb, ↓reduceIte, reduceCtorEq, jA, jB, jC, jD, jE, jF, jG, jH, jI, jJ, jK, tfObPu]; try simp only [Ex.fold, Ex.foldcs, ← Va.pv.eq_1] | refine hX _ _ ?_; clear hX X | clear hX X; refine hX _ _ ?_; clear hX X | clear hX X; clear hX X; refine hX _ _ ?_; clear hX X | intro hlen; unfold maxLen at hlen | apply And.intro; focus (first | omega | assumption | (repeat' apply And.intro) <;> first | omega | assumption)))
    simp only [aPost, Try.results14, aRes_n, aRes_t, aRes_c, pack_one, pack_two]
    exact leave_ext rfl ⟨rfl, rfl⟩
theorem R1b_3 (n : Int) (b0 : Nat) (s : List PV) : (R1b n b0 s).get 3 = some (objT n 2 1) := rfl
theorem R1b_j (n : Int) (b0 : Nat) (s : List PV) : (R1b n b0 s).get 1 = some [.tp [pS sP, pS sQ], .tp [.bp 6 0, .bp 9 0], .v (.int .i64 b0)] := rfl
theorem R1b_10 (n : Int) (b0 : Nat) (s : List PV) : (R1b n b0 s).get 10 = some [.mp 1, .tp s, .v (.int .i64 ((b0 : Int) + ((2 : Nat) : Int)))] := rfl
set_option maxHeartbeats 8000000 in
theorem resetTb (n : Int) : ACalls Try.prog 14 [.bp 3 0] ⟨Q1b n, []⟩ (fun v m' => v = .tp [] ∧ m' = ⟨Q1b n, []⟩) := by
  have q3 : (⟨Q1b n, []⟩ : M).get 3 = some (objT n 2 1) := rfl
  have qi : (⟨Q1b n, []⟩ : M).get 2 = some [.tp [], .tp []] := rfl
  have qj : (⟨Q1b n, []⟩ : M).get 1 = some [.tp [pS sP, pS sQ], .tp [.bp 6 0, .bp 9 0]] := rfl
  have qu : (⟨Q1b n, []⟩ : M).upd 2 [.tp [], .tp []] = ⟨Q1b n, []⟩ := rfl
  simp only [objT, topCs, List.cons_append, List.nil_append] at q3
  refine ACalls.enter (mu := []) ok_mix Try.func14 rfl (by kernel_rfl) (by kernel_rfl) (by simp only [List.length_cons, List.length_nil, Try.ntmps14]; omega) ?_
  (repeat (first | refine aSeq fun X hX => ?_ | refine aBlk ?_ | refine aSkip ?_ | (first | refine aExit ?_ | refine aRet ?_); try simp only [slx, ↓reduceIte, Nat.reduceEqDiff, reduceCtorEq] | (first | refine aReg ?_ | refine aIf ?_); simp -implicitDefEqProofs only [forall_eq, ↓slp, slb, ↓reduceIte, reduceCtorEq, jA, jB, jC, jD, jE, jF, jG, jH, jI, jJ, jK, tfObPu, q3, qi, qu, tm1]; try simp only [Ex.fold, Ex.foldcs, ← Va.pv.eq_1] | refine hX _ _ ?_; clear hX X | clear hX X; refine hX _ _ ?_; clear hX X | clear hX X; clear hX X; refine hX _ _ ?_; clear hX X | intro hlen; unfold maxLen at hlen | apply And.intro; focus (first | omega | assumption | (repeat' apply And.intro) <;> first | omega | assumption)))
  obtain ⟨I, hI⟩ : ∃ I : F → M → Prop, ∀ g m', I g m' = (g 0 = .bp 3 0 ∧ g 16 = .sl .no [] ∧ g 17 = pI 0 ∧ g 18 = pI 0 ∧ m' = ⟨Q1b n, []⟩) := ⟨_, fun _ _ => rfl⟩
  refine aLoop I (fun f m => 0) ?_ ?_
  · rw [hI]; exact ⟨rfl, rfl, rfl, rfl, rfl⟩
  intro g m' hrel
  rw [hI] at hrel
  obtain ⟨g0, g16, g17, g18, rfl⟩ := hrel
  (repeat (first | refine aSeq fun X hX => ?_ | refine aBlk ?_ | refine aSkip ?_ | (first | refine aExit ?_ | refine aRet ?_); try simp only [slx, ↓reduceIte, Nat.reduceEqDiff, reduceCtorEq] | (first | refine aReg ?_ | refine aIf ?_); simp -implicitDefEqProofs only [forall_eq, ↓slp, slb, ↓reduceIte, reduceCtorEq, jA, jB, jC, jD, jE, jF, jG, jH, jI, jJ, jK, tfObPu, g0, g16, g17, g18, pI, q3, qj, tm2]; try simp only [Ex.fold, Ex.foldcs, ← Va.pv.eq_1] | refine hX _ _ ?_; clear hX X | clear hX X; refine hX _ _ ?_; clear hX X | clear hX X; clear hX X; refine hX _ _ ?_; clear hX X | intro hlen; unfold maxLen at hlen | apply And.intro; focus (first | omega | assumption | (repeat' apply And.intro) <;> first | omega | assumption)))
  rintro v m' ⟨b0, rfl, rfl⟩
  have hR0 : (((⟨Q1b n, []⟩ : M).upd 1 [.tp [pS sP, pS sQ], .tp [.bp 6 0, .bp 9 0], .v (.int .i64 b0)]).push [.mp 1, .tp [], .v (.int .i64 ((b0 : Int) + (([PV.bp 6 0, PV.bp 9 0].length : Nat) : Int)))]) = R1b n b0 [] := rfl
  rw [hR0]
  have hu : ∀ (s s' : List PV), (R1b n b0 s).upd 10 [.mp 1, .tp s', .v (.int .i64 ((b0 : Int) + ((2 : Nat) : Int)))] = R1b n b0 s' := fun _ _ => rfl
  have hov : ∀ (s : List PV), (R1b n b0 s).upd 1 [.tp [pS sP, pS sQ], .tp [.bp 6 0, .bp 9 0]] = (⟨Q1b n, []⟩ : M).ext [some (itB 1 b0 s)] := fun _ => rfl
  refine hX _ _ ?_
  clear hX X hI I q3 qi qj qu
  obtain ⟨J, hJ⟩ : ∃ J : F → M → Prop, ∀ g m', J g m' = ∃ s : List PV, g 44 = .it 10 ∧ (s = [] ∨ s = [st b0 0] ∨ s = [st b0 1] ∨ s = [st b0 0, st b0 1] ∨ s = [st b0 1, st b0 0]) ∧ m' = R1b n b0 s := ⟨_, fun _ _ => rfl⟩
  refine aLoop J (fun f m => match m.get 10 with | some [_, .tp s, _] => 2 - s.length | _ => 0) ?_ ?_
  · rw [hJ]; exact ⟨[], rfl, .inl rfl, rfl⟩
  clear g0 g16 g17 g18 hR0
  intro f m' hrel
  rw [hJ] at hrel
  obtain ⟨s, h44, hs, rfl⟩ := hrel
  have r3 := R1b_3 n b0 s
  have rj := R1b_j n b0 s
  have r10 := R1b_10 n b0 s
  (repeat (first | refine aSeq fun X hX => ?_ | refine aBlk ?_ | refine aSkip ?_ | (first | refine aExit ?_ | refine aRet ?_); try simp only [slx, ↓reduceIte, Nat.reduceEqDiff, reduceCtorEq] | (first | refine aReg ?_ | refine aIf ?_); simp -implicitDefEqProofs only [forall_eq, ↓slp, slb, ↓reduceIte, reduceCtorEq, jA, jB, jC, jD, jE, jF, jG, jH, jI, jJ, jK, tfObPu, h44, rj, r10]; try simp only [Ex.fold, Ex.foldcs, ← Va.pv.eq_1] | refine hX _ _ ?_; clear hX X | clear hX X; refine hX _ _ ?_; clear hX X | clear hX X; clear hX X; refine hX _ _ ?_; clear hX X | intro hlen; unfold maxLen at hlen | apply And.intro; focus (first | omega | assumption | (repeat' apply And.intro) <;> first | omega | assumption)))
  have go : ∀ (k ob : Nat) (s' : List PV), k < 2 → [PV.bp 6 0, PV.bp 9 0].getD k .junk = .bp ob 0 → s'.getLast? = some (st b0 k) → ACalls Try.prog 14 [.bp ob 0] (R1b n b0 s') (fun v m' => v = .tp [] ∧ m' = R1b n b0 s') → (s' = [] ∨ s' = [st b0 0] ∨ s' = [st b0 1] ∨ s' = [st b0 0, st b0 1] ∨ s' = [st b0 1, st b0 0]) → s'.length = s.length + 1 → s.length ≤ 1 →
      ∀ f' : F, f' 44 = .it 10 → f' 46 = .v (.bool true) → X f' (R1b n b0 s') := by
    clear h44 rj r10 r3
    intro k ob s' hk hgd hla hR hs' hl1 hl2 f' h44 h46
    have rj := R1b_j n b0 s'
    have r10 := R1b_10 n b0 s'
    have hz := st_toNat b0 k
    have hc1 : (b0 : Int) ≤ (b0 : Int) + (k : Int) := by omega
    have hc2 : (b0 : Int) + (k : Int) < (b0 : Int) + ((2 : Nat) : Int) := by omega
    refine hX _ _ ?_
    clear hX X
    (repeat (first | refine aSeq fun X hX => ?_ | refine aBlk ?_ | refine aSkip ?_ | (first | refine aExit ?_ | refine aRet ?_); try simp only [slx, ↓reduceIte, Nat.reduceEqDiff, reduceCtorEq] | (first | refine aReg ?_ | refine aIf ?_); simp -implicitDefEqProofs only [forall_eq, ↓slp, slb, ↓reduceIte, reduceCtorEq, jA, jB, jC, jD, jE, jF, jG, jH, jI, jJ, jK, tfObPu, h44, h46, rj, r10, hla, hz, hgd]; try simp only [Ex.fold, Ex.foldcs, ← Va.pv.eq_1] | refine hX _ _ ?_; clear hX X | clear hX X; refine hX _ _ ?_; clear hX X | clear hX X; clear hX X; refine hX _ _ ?_; clear hX X | intro hlen; unfold maxLen at hlen | apply And.intro; focus (first | omega | assumption | (repeat' apply And.intro) <;> first | omega | assumption)))
    refine callE hR ?_
    simp -implicitDefEqProofs only [↓slp, slb, ↓reduceIte, reduceCtorEq, jA, jB, jC, jD, jE, jF, jG, jH, jI, jJ, jK, tfObPu]; try simp only [Ex.fold, Ex.foldcs, ← Va.pv.eq_1]
    (repeat (first | refine aSeq fun X hX => ?_ | refine aBlk ?_ | refine aSkip ?_ | (first | refine aExit ?_ | refine aRet ?_); try simp only [slx, ↓reduceIte, Nat.reduceEqDiff, reduceCtorEq] | (first | refine aReg ?_ | refine aIf ?_); simp -implicitDefEqProofs only [forall_eq, ↓slp, slb, ↓reduceIte, reduceCtorEq, jA, jB, jC, jD, jE, jF, jG, jH, jI, jJ, jK, tfObPu]; try simp only [Ex.fold, Ex.foldcs, ← Va.pv.eq_1] | refine hX _ _ ?_; clear hX X | clear hX X; refine hX _ _ ?_; clear hX X | clear hX X; clear hX X; refine hX _ _ ?_; clear hX X | intro hlen; unfold maxLen at hlen | apply And.intro; focus (first | omega | assumption | (repeat' apply And.intro) <;> first | omega | assumption)))
    rw [hJ]
    refine ⟨⟨s', h44, hs', rfl⟩, ?_⟩
    show 2 - s'.length < 2 - s.length
    omega
  rintro v m' (⟨k, hk, hns, rfl, rfl⟩ | ⟨hall, rfl, rfl⟩)
  · rw [hu]
    have hk2 : k = 0 ∨ k = 1 := by simp at hk; omega
    rcases hk2 with rfl | rfl
    · rcases hs with rfl | rfl | rfl | rfl | rfl
      · simp -implicitDefEqProofs only [↓slp, slb, ↓reduceIte, reduceCtorEq, jA, jB, jC, jD, jE, jF, jG, jH, jI, jJ, jK, tfObPu]; try simp only [Ex.fold, Ex.foldcs, ← Va.pv.eq_1]
        exact go 0 6 [st b0 0] (by omega) rfl rfl (rs0b n b0) (.inr (.inl rfl)) rfl (by simp) _ h44 rfl
      · exact absurd (by simp) hns
      · simp -implicitDefEqProofs only [↓slp, slb, ↓reduceIte, reduceCtorEq, jA, jB, jC, jD, jE, jF, jG, jH, jI, jJ, jK, tfObPu]; try simp only [Ex.fold, Ex.foldcs, ← Va.pv.eq_1]
        exact go 0 6 [st b0 1, st b0 0] (by omega) rfl rfl (rs10b n b0) (.inr (.inr (.inr (.inr rfl)))) rfl (by simp) _ h44 rfl
      · exact absurd (by simp) hns
      · exact absurd (by simp) hns
    · rcases hs with rfl | rfl | rfl | rfl | rfl
      · simp -implicitDefEqProofs only [↓slp, slb, ↓reduceIte, reduceCtorEq, jA, jB, jC, jD, jE, jF, jG, jH, jI, jJ, jK, tfObPu]; try simp only [Ex.fold, Ex.foldcs, ← Va.pv.eq_1]
        exact go 1 9 [st b0 1] (by omega) rfl rfl (rs1b n b0) (.inr (.inr (.inl rfl))) rfl (by simp) _ h44 rfl
      · simp -implicitDefEqProofs only [↓slp, slb, ↓reduceIte, reduceCtorEq, jA, jB, jC, jD, jE, jF, jG, jH, jI, jJ, jK, tfObPu]; try simp only [Ex.fold, Ex.foldcs, ← Va.pv.eq_1]
        exact go 1 9 [st b0 0, st b0 1] (by omega) rfl rfl (rs01b n b0) (.inr (.inr (.inr (.inl rfl)))) rfl (by simp) _ h44 rfl
      · exact absurd (by simp) hns
      · exact absurd (by simp) hns
      · exact absurd (by simp) hns
  · rw [hov]
    clear go
    simp -implicitDefEqProofs only [↓slp, slb, ↓reduceIte, reduceCtorEq, jA, jB, jC, jD, jE, jF, jG, jH, jI, jJ, jK, tfObPu]; try simp only [Ex.fold, Ex.foldcs, ← Va.pv.eq_1]
    (repeat (first | refine aSeq fun X hX => ?_ | refine aBlk ?_ | refine aSkip ?_ | (first | refine aExit ?_ | refine aRet ?_); try simp only [slx, ↓reduceIte, Nat.reduceEqDiff, reduceCtorEq] | (first | refine aReg ?_ | refine aIf ?_); simp -implicitDefEqProofs only [forall_eq, ↓slp, slb, ↓reduceIte, reduceCtorEq, jA, jB, jC, jD, jE, jF, jG, jH, jI, jJ, jK, tfObPu]; try simp only [Ex.fold, Ex.foldcs, ← Va.pv.eq_1] | refine hX _ _ ?_; clear hX X | clear hX X; refine hX _ _ ?_; clear hX X | clear hX X; clear hX X; refine hX _ _ ?_; clear hX X | intro hlen; unfold maxLen at hlen | apply And.intro; focus (first | omega | assumption | (repeat' apply And.intro) <;> first | omega | assumption)))
    simp only [aPost, Try.results14, aRes_n, aRes_t, aRes_c, pack_one, pack_two]
    exact leave_ext rfl ⟨rfl, rfl⟩
end Go.Proofs.Ytmcajiccepgagaa

/-
  An instance that holds two others begins: start, New.
-/
set_option linter.unusedVariables false
set_option linter.unusedSimpArgs false
namespace Go.Proofs.Ytmcajiccepgagaa
open Nat renaming reduceEqDiff → jA, reduceAdd → jB, reduceMul → jC, reduceLT → jD, reduceLeDiff → jE, reduceBEq → jF, reduceBNe → jG
open Int renaming reduceLE → jH, reduceLT → jI, reduceToNat → jJ, reduceEq → jK
open Go
set_option linter.defProp false
def tfObPv := And.intro @tfA (And.intro @Ex.settle_pv (And.intro @Ex.pure_pv (And.intro @Ex.cells_pv (And.intro @Ex.cs.eq_1 (And.intro @On.pv.eq_1 (And.intro @Ty.pv.eq_1 (And.intro @Va.settle_pv (And.intro @Va.pure_pv (And.intro @Va.cells_pv @Va.cs.eq_1)))))))))
set_option maxRecDepth 100000
-- TYPES:
/-- The states between which a region moves. -/
def isS (A B C : M) (m2 : M) : Prop := m2 = A ∨ m2 = B ∨ m2 = C
theorem isS_all {A B C : M} {Q : M → Prop} : (∀ m2, isS A B C m2 → Q m2) = (Q A ∧ Q B ∧ Q C) :=
  propext ⟨fun h => ⟨h _ (.inl rfl), h _ (.inr (.inl rfl)), h _ (.inr (.inr rfl))⟩, fun h m2 hm => by
    rcases hm with rfl | rfl | rfl
    · exact h.1
    · exact h.2.1
    · exact h.2.2⟩
set_option maxHeartbeats 8000000 in
theorem startT (n : Int) : ACalls Try.prog 24 [progT n, pS sTop, pI 2] M1 (fun v m' => v = .bp 3 0 ∧ (m' = ⟨Q1a n, []⟩ ∨ m' = ⟨Q1b n, []⟩)) := by
  refine ACalls.enter (mu := [29]) ok_mix Try.func24 rfl (by kernel_rfl) (by kernel_rfl) (by simp only [List.length_cons, List.length_nil, Try.ntmps24]; omega) ?_
  (repeat (first | refine aSeq fun X hX => ?_ | refine aBlk ?_ | refine aSkip ?_ | (first | refine aExit ?_ | refine aRet ?_); try simp only [slx, ↓reduceIte, Nat.reduceEqDiff, reduceCtorEq] | (first | refine aReg ?_ | refine aIf ?_); simp -implicitDefEqProofs only [forall_eq, ↓slp, slb, ↓reduceIte, reduceCtorEq, jA, jB, jC, jD, jE, jF, jG, jH, jI, jJ, jK, tfObPv]; try simp only [Ex.fold, Ex.foldcs, ← Va.pv.eq_1] | refine hX _ _ ?_; clear hX X | clear hX X; refine hX _ _ ?_; clear hX X | clear hX X; clear hX X; refine hX _ _ ?_; clear hX X | intro hlen; unfold maxLen at hlen | apply And.intro; focus (first | omega | assumption | (repeat' apply And.intro) <;> first | omega | assumption)))
  refine ⟨rfl, ?_⟩
  have hcs : (progT n).settle.cells = [.sl .no [], .sl .no [pCls n, topC]] := rfl
  (repeat (first | refine aSeq fun X hX => ?_ | refine aBlk ?_ | refine aSkip ?_ | (first | refine aExit ?_ | refine aRet ?_); try simp only [slx, ↓reduceIte, Nat.reduceEqDiff, reduceCtorEq] | (first | refine aReg ?_ | refine aIf ?_); simp -implicitDefEqProofs only [forall_eq, ↓slp, slb, ↓reduceIte, reduceCtorEq, jA, jB, jC, jD, jE, jF, jG, jH, jI, jJ, jK, tfObPv, hcs]; try simp only [Ex.fold, Ex.foldcs, ← Va.pv.eq_1] | refine hX _ _ ?_; clear hX X | clear hX X; refine hX _ _ ?_; clear hX X | clear hX X; clear hX X; refine hX _ _ ?_; clear hX X | intro hlen; unfold maxLen at hlen | apply And.intro; focus (first | omega | assumption | (repeat' apply And.intro) <;> first | omega | assumption)))
  refine callE (findT_any n _) ?_
  simp -implicitDefEqProofs only [↓slp, slb, ↓reduceIte, reduceCtorEq, jA, jB, jC, jD, jE, jF, jG, jH, jI, jJ, jK, tfObPv, hcs]; try simp only [Ex.fold, Ex.foldcs, ← Va.pv.eq_1]
  (repeat (first | refine aSeq fun X hX => ?_ | refine aBlk ?_ | refine aSkip ?_ | (first | refine aExit ?_ | refine aRet ?_); try simp only [slx, ↓reduceIte, Nat.reduceEqDiff, reduceCtorEq] | (first | refine aReg ?_ | refine aIf ?_); simp -implicitDefEqProofs only [forall_eq, ↓slp, slb, ↓reduceIte, reduceCtorEq, jA, jB, jC, jD, jE, jF, jG, jH, jI, jJ, jK, tfObPv, hcs, pS, pI]; try simp only [Ex.fold, Ex.foldcs, ← Va.pv.eq_1] | refine hX _ _ ?_; clear hX X | clear hX X; refine hX _ _ ?_; clear hX X | clear hX X; clear hX X; refine hX _ _ ?_; clear hX X | intro hlen; unfold maxLen at hlen | apply And.intro; focus (first | omega | assumption | (repeat' apply And.intro) <;> first | omega | assumption)))
  have joina : ∀ (f : F), f 2 = pI 2 → f 3 = .ep (progT n).settle.cells → f 8 = .bp 3 0 → X f ⟨T0a n, []⟩ := by
    intro f f2 f3 f8
    have q3 : (⟨T0a n, []⟩ : M).get 3 = some (objT n 1 2) := rfl
    simp only [objT, topCs, List.cons_append, List.nil_append] at q3
    refine hX _ _ ?_
    clear hX X
    (repeat (first | refine aSeq fun X hX => ?_ | refine aBlk ?_ | refine aSkip ?_ | (first | refine aExit ?_ | refine aRet ?_); try simp only [slx, ↓reduceIte, Nat.reduceEqDiff, reduceCtorEq] | (first | refine aReg ?_ | refine aIf ?_); simp -implicitDefEqProofs only [forall_eq, ↓slp, slb, ↓reduceIte, reduceCtorEq, jA, jB, jC, jD, jE, jF, jG, jH, jI, jJ, jK, tfObPv, f2, f3, f8, q3]; try simp only [Ex.fold, Ex.foldcs, ← Va.pv.eq_1] | refine hX _ _ ?_; clear hX X | clear hX X; refine hX _ _ ?_; clear hX X | clear hX X; clear hX X; refine hX _ _ ?_; clear hX X | intro hlen; unfold maxLen at hlen | apply And.intro; focus (first | omega | assumption | (repeat' apply And.intro) <;> first | omega | assumption)))
    obtain ⟨I, hI⟩ : ∃ I : F → M → Prop, ∀ g m', I g m' = (g 2 = pI 2 ∧ g 3 = .ep (progT n).settle.cells ∧ g 8 = .bp 3 0 ∧ g 34 = .sl .no [pInst sP, pInst sQ] ∧ g 35 = pI 2 ∧ ((g 36 = pI 0 ∧ m' = ⟨T0a n, []⟩) ∨ (g 36 = pI 1 ∧ m' = ⟨P1a n, []⟩) ∨ (g 36 = pI 2 ∧ m' = ⟨Q1a n, []⟩))) := ⟨_, fun _ _ => rfl⟩
    refine aLoop I (fun f m => 2 - numOf (f 36)) ?_ ?_
    · rw [hI]; exact ⟨f2, f3, f8, rfl, rfl, .inl ⟨rfl, rfl⟩⟩
    clear f2 f3 f8 q3
    intro g m' hrel
    rw [hI] at hrel
    obtain ⟨g2, g3, g8, g34, g35, hcase⟩ := hrel
    rcases hcase with ⟨g36, rfl⟩ | ⟨g36, rfl⟩ | ⟨g36, rfl⟩
    · have q3 : (⟨T0a n, []⟩ : M).get 3 = some (objT n 1 2) := rfl
      have p3 : (⟨P0a n, []⟩ : M).get 3 = some (objT n 1 2) := rfl
      have r3 : (⟨P1a n, []⟩ : M).get 3 = some (objT n 1 2) := rfl
      simp only [objT, topCs, List.cons_append, List.nil_append] at q3 p3 r3
      have pj : (⟨P0a n, []⟩ : M).get 2 = some [.tp [], .tp []] := rfl
      have rj : (⟨P1a n, []⟩ : M).get 2 = some [.tp [pS sP], .tp [.bp 6 0]] := rfl
      have hmp : mapPut [] [] sP (.bp 6 0) = ([pS sP], [.bp 6 0]) := by kernel_rfl
      have hmg : mapGet [pS sP] [.bp 6 0] sP = some (.bp 6 0) := by kernel_rfl
      have pu : (⟨P0a n, []⟩ : M).upd 2 [.tp [pS sP], .tp [.bp 6 0]] = ⟨P1a n, []⟩ := rfl
      have hst : ACalls Try.prog 24 [progT n, pS sC, pI 1] ⟨T0a n, []⟩ (fun v m' => v = .bp 6 0 ∧ m' = ⟨P0a n, []⟩) := startPa n
      have hlr : lookRes false (PV.v (Value.pointer none)) (some (PV.bp 6 0)) = .bp 6 0 := rfl
      have hi : IntKind.i64.wrap (0 + 1) = 0 + 1 := by decide
      have hd : IntKind.i64.wrap (2 - 1) = 1 := by decide
      (repeat (first | refine aSeq fun X hX => ?_ | refine aBlk ?_ | refine aSkip ?_ | (first | refine aExit ?_ | refine aRet ?_); try simp only [slx, ↓reduceIte, Nat.reduceEqDiff, reduceCtorEq] | (first | refine aReg ?_ | refine aIf ?_); simp -implicitDefEqProofs only [forall_eq, ↓slp, slb, ↓reduceIte, reduceCtorEq, jA, jB, jC, jD, jE, jF, jG, jH, jI, jJ, jK, tfObPv, g2, g3, g8, g34, g35, g36, pI, q3, pInst, hd]; try simp only [Ex.fold, Ex.foldcs, ← Va.pv.eq_1] | refine hX _ _ ?_; clear hX X | clear hX X; refine hX _ _ ?_; clear hX X | clear hX X; clear hX X; refine hX _ _ ?_; clear hX X | intro hlen; unfold maxLen at hlen | apply And.intro; focus (first | omega | assumption | (repeat' apply And.intro) <;> first | omega | assumption)))
      refine aDrw (isS ⟨T0a n, []⟩ ⟨P0a n, []⟩ ⟨P1a n, []⟩) (by kernel_rfl) (.inl rfl) ?_
      simp -implicitDefEqProofs only [↓slp, slb, ↓reduceIte, reduceCtorEq, jA, jB, jC, jD, jE, jF, jG, jH, jI, jJ, jK, tfObPv, isS_all, g2, g3, g8, g34, g35, g36, pI, q3, p3, r3, pInst, hd, tm2, hcs]; try simp only [Ex.fold, Ex.foldcs, ← Va.pv.eq_1]
      refine callE hst ?_
      refine ⟨.inr (.inl rfl), ?_⟩
      simp -implicitDefEqProofs only [↓slp, slb, ↓reduceIte, reduceCtorEq, jA, jB, jC, jD, jE, jF, jG, jH, jI, jJ, jK, tfObPv, isS_all, g2, g3, g8, g34, g35, g36, pI, q3, p3, r3, pInst, hd, tm2, hcs, pj, hmp, pu, pS]; try simp only [Ex.fold, Ex.foldcs, ← Va.pv.eq_1]
      refine ⟨.inr (.inr rfl), ?_⟩
      (repeat (first | refine aSeq fun X hX => ?_ | refine aBlk ?_ | refine aSkip ?_ | (first | refine aExit ?_ | refine aRet ?_); try simp only [slx, ↓reduceIte, Nat.reduceEqDiff, reduceCtorEq] | (first | refine aReg ?_ | refine aDrE ?_); simp -implicitDefEqProofs only [forall_eq, ↓slp, slb, ↓reduceIte, reduceCtorEq, jA, jB, jC, jD, jE, jF, jG, jH, jI, jJ, jK, tfObPv, g2, g3, g8, g34, g35, g36, pI, r3, rj, tm2, hmg, hlr, pS]; try simp only [Ex.fold, Ex.foldcs, ← Va.pv.eq_1] | refine hX _ _ ?_; clear hX X | clear hX X; refine hX _ _ ?_; clear hX X | clear hX X; clear hX X; refine hX _ _ ?_; clear hX X | intro hlen; unfold maxLen at hlen | apply And.intro; focus (first | omega | assumption | (repeat' apply And.intro) <;> first | omega | assumption)))
      refine aIf ?_; simp -implicitDefEqProofs only [↓slp, slb, ↓reduceIte, reduceCtorEq, jA, jB, jC, jD, jE, jF, jG, jH, jI, jJ, jK]
      (repeat (first | refine aSeq fun X hX => ?_ | refine aBlk ?_ | refine aSkip ?_ | (first | refine aExit ?_ | refine aRet ?_); try simp only [slx, ↓reduceIte, Nat.reduceEqDiff, reduceCtorEq] | (first | refine aReg ?_ | refine aDrE ?_); simp -implicitDefEqProofs only [forall_eq, ↓slp, slb, ↓reduceIte, reduceCtorEq, jA, jB, jC, jD, jE, jF, jG, jH, jI, jJ, jK, tfObPv, g36, pI, hi]; try simp only [Ex.fold, Ex.foldcs, ← Va.pv.eq_1] | refine hX _ _ ?_; clear hX X | clear hX X; refine hX _ _ ?_; clear hX X | clear hX X; clear hX X; refine hX _ _ ?_; clear hX X | intro hlen; unfold maxLen at hlen | apply And.intro; focus (first | omega | assumption | (repeat' apply And.intro) <;> first | omega | assumption)))
      rw [hI]
      exact ⟨⟨g2, g3, g8, g34, g35, .inr (.inl ⟨rfl, rfl⟩)⟩, by decide⟩
    · have q3 : (⟨P1a n, []⟩ : M).get 3 = some (objT n 1 2) := rfl
      have p3 : (⟨Q0a n, []⟩ : M).get 3 = some (objT n 1 2) := rfl
      have r3 : (⟨Q1a n, []⟩ : M).get 3 = some (objT n 1 2) := rfl
      simp only [objT, topCs, List.cons_append, List.nil_append] at q3 p3 r3
      have pj : (⟨Q0a n, []⟩ : M).get 2 = some [.tp [pS sP], .tp [.bp 6 0]] := rfl
      have rj : (⟨Q1a n, []⟩ : M).get 2 = some [.tp [pS sP, pS sQ], .tp [.bp 6 0, .bp 9 0]] := rfl
      have hmp : mapPut [pS sP] [.bp 6 0] sQ (.bp 9 0) = ([pS sP, pS sQ], [.bp 6 0, .bp 9 0]) := by kernel_rfl
      have hmg : mapGet [pS sP, pS sQ] [.bp 6 0, .bp 9 0] sQ = some (.bp 9 0) := by kernel_rfl
      have pu : (⟨Q0a n, []⟩ : M).upd 2 [.tp [pS sP, pS sQ], .tp [.bp 6 0, .bp 9 0]] = ⟨Q1a n, []⟩ := rfl
      have hst : ACalls Try.prog 24 [progT n, pS sC, pI 1] ⟨P1a n, []⟩ (fun v m' => v = .bp 9 0 ∧ m' = ⟨Q0a n, []⟩) := startQa n
      have hlr : lookRes false (PV.v (Value.pointer none)) (some (PV.bp 9 0)) = .bp 9 0 := rfl
      have hi : IntKind.i64.wrap (1 + 1) = 1 + 1 := by decide
      have hd : IntKind.i64.wrap (2 - 1) = 1 := by decide
      (repeat (first | refine aSeq fun X hX => ?_ | refine aBlk ?_ | refine aSkip ?_ | (first | refine aExit ?_ | refine aRet ?_); try simp only [slx, ↓reduceIte, Nat.reduceEqDiff, reduceCtorEq] | (first | refine aReg ?_ | refine aIf ?_); simp -implicitDefEqProofs only [forall_eq, ↓slp, slb, ↓reduceIte, reduceCtorEq, jA, jB, jC, jD, jE, jF, jG, jH, jI, jJ, jK, tfObPv, g2, g3, g8, g34, g35, g36, pI, q3, pInst, hd]; try simp only [Ex.fold, Ex.foldcs, ← Va.pv.eq_1] | refine hX _ _ ?_; clear hX X | clear hX X; refine hX _ _ ?_; clear hX X | clear hX X; clear hX X; refine hX _ _ ?_; clear hX X | intro hlen; unfold maxLen at hlen | apply And.intro; focus (first | omega | assumption | (repeat' apply And.intro) <;> first | omega | assumption)))
      refine aDrw (isS ⟨P1a n, []⟩ ⟨Q0a n, []⟩ ⟨Q1a n, []⟩) (by kernel_rfl) (.inl rfl) ?_
      simp -implicitDefEqProofs only [↓slp, slb, ↓reduceIte, reduceCtorEq, jA, jB, jC, jD, jE, jF, jG, jH, jI, jJ, jK, tfObPv, isS_all, g2, g3, g8, g34, g35, g36, pI, q3, p3, r3, pInst, hd, tm2, hcs]; try simp only [Ex.fold, Ex.foldcs, ← Va.pv.eq_1]
      refine callE hst ?_
      refine ⟨.inr (.inl rfl), ?_⟩
      simp -implicitDefEqProofs only [↓slp, slb, ↓reduceIte, reduceCtorEq, jA, jB, jC, jD, jE, jF, jG, jH, jI, jJ, jK, tfObPv, isS_all, g2, g3, g8, g34, g35, g36, pI, q3, p3, r3, pInst, hd, tm2, hcs, pj, hmp, pu, pS]; try simp only [Ex.fold, Ex.foldcs, ← Va.pv.eq_1]
      refine ⟨.inr (.inr rfl), ?_⟩
      (repeat (first | refine aSeq fun X hX => ?_ | refine aBlk ?_ | refine aSkip ?_ | (first | refine aExit ?_ | refine aRet ?_); try simp only [slx, ↓reduceIte, Nat.reduceEqDiff, reduceCtorEq] | (first | refine aReg ?_ | refine aDrE ?_); simp -implicitDefEqProofs only [forall_eq, ↓slp, slb, ↓reduceIte, reduceCtorEq, jA, jB, jC, jD, jE, jF, jG, jH, jI, jJ, jK, tfObPv, g2, g3, g8, g34, g35, g36, pI, r3, rj, tm2, hmg, hlr, pS]; try simp only [Ex.fold, Ex.foldcs, ← Va.pv.eq_1] | refine hX _ _ ?_; clear hX X | clear hX X; refine hX _ _ ?_; clear hX X | clear hX X; clear hX X; refine hX _ _ ?_; clear hX X | intro hlen; unfold maxLen at hlen | apply And.intro; focus (first | omega | assumption | (repeat' apply And.intro) <;> first | omega | assumption)))
      refine aIf ?_; simp -implicitDefEqProofs only [↓slp, slb, ↓reduceIte, reduceCtorEq, jA, jB, jC, jD, jE, jF, jG, jH, jI, jJ, jK]
      (repeat (first | refine aSeq fun X hX => ?_ | refine aBlk ?_ | refine aSkip ?_ | (first | refine aExit ?_ | refine aRet ?_); try simp only [slx, ↓reduceIte, Nat.reduceEqDiff, reduceCtorEq] | (first | refine aReg ?_ | refine aDrE ?_); simp -implicitDefEqProofs only [forall_eq, ↓slp, slb, ↓reduceIte, reduceCtorEq, jA, jB, jC, jD, jE, jF, jG, jH, jI, jJ, jK, tfObPv, g36, pI, hi]; try simp only [Ex.fold, Ex.foldcs, ← Va.pv.eq_1] | refine hX _ _ ?_; clear hX X | clear hX X; refine hX _ _ ?_; clear hX X | clear hX X; clear hX X; refine hX _ _ ?_; clear hX X | intro hlen; unfold maxLen at hlen | apply And.intro; focus (first | omega | assumption | (repeat' apply And.intro) <;> first | omega | assumption)))
      rw [hI]
      exact ⟨⟨g2, g3, g8, g34, g35, .inr (.inr ⟨rfl, rfl⟩)⟩, by decide⟩
    · have q3 : (⟨Q1a n, []⟩ : M).get 3 = some (objT n 1 2) := rfl
      have hr := resetTa n
      (repeat (first | refine aSeq fun X hX => ?_ | refine aBlk ?_ | refine aSkip ?_ | (first | refine aExit ?_ | refine aRet ?_); try simp only [slx, ↓reduceIte, Nat.reduceEqDiff, reduceCtorEq] | (first | refine aReg ?_ | refine aDrE ?_); simp -implicitDefEqProofs only [forall_eq, ↓slp, slb, ↓reduceIte, reduceCtorEq, jA, jB, jC, jD, jE, jF, jG, jH, jI, jJ, jK, tfObPv, g2, g3, g8, g34, g35, g36, pI]; try simp only [Ex.fold, Ex.foldcs, ← Va.pv.eq_1] | refine hX _ _ ?_; clear hX X | clear hX X; refine hX _ _ ?_; clear hX X | clear hX X; clear hX X; refine hX _ _ ?_; clear hX X | intro hlen; unfold maxLen at hlen | apply And.intro; focus (first | omega | assumption | (repeat' apply And.intro) <;> first | omega | assumption)))
      refine aIf ?_; simp -implicitDefEqProofs only [↓slp, slb, ↓reduceIte, reduceCtorEq, jA, jB, jC, jD, jE, jF, jG, jH, jI, jJ, jK]
      (repeat (first | refine aSeq fun X hX => ?_ | refine aBlk ?_ | refine aSkip ?_ | (first | refine aExit ?_ | refine aRet ?_); try simp only [slx, ↓reduceIte, Nat.reduceEqDiff, reduceCtorEq] | (first | refine aReg ?_ | refine aDrE ?_); simp -implicitDefEqProofs only [forall_eq, ↓slp, slb, ↓reduceIte, reduceCtorEq, jA, jB, jC, jD, jE, jF, jG, jH, jI, jJ, jK, tfObPv, g8]; try simp only [Ex.fold, Ex.foldcs, ← Va.pv.eq_1] | refine hX _ _ ?_; clear hX X | clear hX X; refine hX _ _ ?_; clear hX X | clear hX X; clear hX X; refine hX _ _ ?_; clear hX X | intro hlen; unfold maxLen at hlen | apply And.intro; focus (first | omega | assumption | (repeat' apply And.intro) <;> first | omega | assumption)))
      refine callE hr ?_
      simp -implicitDefEqProofs only [↓slp, slb, ↓reduceIte, reduceCtorEq, jA, jB, jC, jD, jE, jF, jG, jH, jI, jJ, jK, tfObPv, g8]; try simp only [Ex.fold, Ex.foldcs, ← Va.pv.eq_1]
      (repeat (first | refine aSeq fun X hX => ?_ | refine aBlk ?_ | refine aSkip ?_ | (first | refine aExit ?_ | refine aRet ?_); try simp only [slx, ↓reduceIte, Nat.reduceEqDiff, reduceCtorEq] | (first | refine aReg ?_ | refine aDrE ?_); simp -implicitDefEqProofs only [forall_eq, ↓slp, slb, ↓reduceIte, reduceCtorEq, jA, jB, jC, jD, jE, jF, jG, jH, jI, jJ, jK, tfObPv, g8]; try simp only [Ex.fold, Ex.foldcs, ← Va.pv.eq_1] | refine hX _ _ ?_; clear hX X | clear hX X; refine hX _ _ ?_; clear hX X | clear hX X; clear hX X; refine hX _ _ ?_; clear hX X | intro hlen; unfold maxLen at hlen | apply And.intro; focus (first | omega | assumption | (repeat' apply And.intro) <;> first | omega | assumption)))
      simp only [aPost, Try.results24, aRes_n, aRes_t, aRes_c, pack_one, pack_two]
      simp -implicitDefEqProofs only [↓slp, slb, ↓reduceIte, reduceCtorEq, jA, jB, jC, jD, jE, jF, jG, jH, jI, jJ, jK, tfObPv, g8]; try simp only [Ex.fold, Ex.foldcs, ← Va.pv.eq_1]
      exact leave_over (by show 1 ≤ 10; omega) (Nat.le_refl _) rfl rfl ⟨rfl, .inl rfl⟩
  have joinb : ∀ (f : F), f 2 = pI 2 → f 3 = .ep (progT n).settle.cells → f 8 = .bp 3 0 → X f ⟨T0b n, []⟩ := by
    intro f f2 f3 f8
    have q3 : (⟨T0b n, []⟩ : M).get 3 = some (objT n 2 1) := rfl
    simp only [objT, topCs, List.cons_append, List.nil_append] at q3
    refine hX _ _ ?_
    clear hX joina X
    (repeat (first | refine aSeq fun X hX => ?_ | refine aBlk ?_ | refine aSkip ?_ | (first | refine aExit ?_ | refine aRet ?_); try simp only [slx, ↓reduceIte, Nat.reduceEqDiff, reduceCtorEq] | (first | refine aReg ?_ | refine aIf ?_); simp -implicitDefEqProofs only [forall_eq, ↓slp, slb, ↓reduceIte, reduceCtorEq, jA, jB, jC, jD, jE, jF, jG, jH, jI, jJ, jK, tfObPv, f2, f3, f8, q3]; try simp only [Ex.fold, Ex.foldcs, ← Va.pv.eq_1] | refine hX _ _ ?_; clear hX X | clear hX X; refine hX _ _ ?_; clear hX X | clear hX X; clear hX X; refine hX _ _ ?_; clear hX X | intro hlen; unfold maxLen at hlen | apply And.intro; focus (first | omega | assumption | (repeat' apply And.intro) <;> first | omega | assumption)))
    obtain ⟨I, hI⟩ : ∃ I : F → M → Prop, ∀ g m', I g m' = (g 2 = pI 2 ∧ g 3 = .ep (progT n).settle.cells ∧ g 8 = .bp 3 0 ∧ g 34 = .sl .no [pInst sP, pInst sQ] ∧ g 35 = pI 2 ∧ ((g 36 = pI 0 ∧ m' = ⟨T0b n, []⟩) ∨ (g 36 = pI 1 ∧ m' = ⟨P1b n, []⟩) ∨ (g 36 = pI 2 ∧ m' = ⟨Q1b n, []⟩))) := ⟨_, fun _ _ => rfl⟩
    refine aLoop I (fun f m => 2 - numOf (f 36)) ?_ ?_
    · rw [hI]; exact ⟨f2, f3, f8, rfl, rfl, .inl ⟨rfl, rfl⟩⟩
    clear f2 f3 f8 q3
    intro g m' hrel
    rw [hI] at hrel
    obtain ⟨g2, g3, g8, g34, g35, hcase⟩ := hrel
    rcases hcase with ⟨g36, rfl⟩ | ⟨g36, rfl⟩ | ⟨g36, rfl⟩
    · have q3 : (⟨T0b n, []⟩ : M).get 3 = some (objT n 2 1) := rfl
      have p3 : (⟨P0b n, []⟩ : M).get 3 = some (objT n 2 1) := rfl
      have r3 : (⟨P1b n, []⟩ : M).get 3 = some (objT n 2 1) := rfl
      simp only [objT, topCs, List.cons_append, List.nil_append] at q3 p3 r3
      have pj : (⟨P0b n, []⟩ : M).get 1 = some [.tp [], .tp []] := rfl
      have rj : (⟨P1b n, []⟩ : M).get 1 = some [.tp [pS sP], .tp [.bp 6 0]] := rfl
      have hmp : mapPut [] [] sP (.bp 6 0) = ([pS sP], [.bp 6 0]) := by kernel_rfl
      have hmg : mapGet [pS sP] [.bp 6 0] sP = some (.bp 6 0) := by kernel_rfl
      have pu : (⟨P0b n, []⟩ : M).upd 1 [.tp [pS sP], .tp [.bp 6 0]] = ⟨P1b n, []⟩ := rfl
      have hst : ACalls Try.prog 24 [progT n, pS sC, pI 1] ⟨T0b n, []⟩ (fun v m' => v = .bp 6 0 ∧ m' = ⟨P0b n, []⟩) := startPb n
      have hlr : lookRes false (PV.v (Value.pointer none)) (some (PV.bp 6 0)) = .bp 6 0 := rfl
      have hi : IntKind.i64.wrap (0 + 1) = 0 + 1 := by decide
      have hd : IntKind.i64.wrap (2 - 1) = 1 := by decide
      (repeat (first | refine aSeq fun X hX => ?_ | refine aBlk ?_ | refine aSkip ?_ | (first | refine aExit ?_ | refine aRet ?_); try simp only [slx, ↓reduceIte, Nat.reduceEqDiff, reduceCtorEq] | (first | refine aReg ?_ | refine aIf ?_); simp -implicitDefEqProofs only [forall_eq, ↓slp, slb, ↓reduceIte, reduceCtorEq, jA, jB, jC, jD, jE, jF, jG, jH, jI, jJ, jK, tfObPv, g2, g3, g8, g34, g35, g36, pI, q3, pInst, hd]; try simp only [Ex.fold, Ex.foldcs, ← Va.pv.eq_1] | refine hX _ _ ?_; clear hX X | clear hX X; refine hX _ _ ?_; clear hX X | clear hX X; clear hX X; refine hX _ _ ?_; clear hX X | intro hlen; unfold maxLen at hlen | apply And.intro; focus (first | omega | assumption | (repeat' apply And.intro) <;> first | omega | assumption)))
      refine aDrw (isS ⟨T0b n, []⟩ ⟨P0b n, []⟩ ⟨P1b n, []⟩) (by kernel_rfl) (.inl rfl) ?_
      simp -implicitDefEqProofs only [↓slp, slb, ↓reduceIte, reduceCtorEq, jA, jB, jC, jD, jE, jF, jG, jH, jI, jJ, jK, tfObPv, isS_all, g2, g3, g8, g34, g35, g36, pI, q3, p3, r3, pInst, hd, tm2, hcs]; try simp only [Ex.fold, Ex.foldcs, ← Va.pv.eq_1]
      refine callE hst ?_
      refine ⟨.inr (.inl rfl), ?_⟩
      simp -implicitDefEqProofs only [↓slp, slb, ↓reduceIte, reduceCtorEq, jA, jB, jC, jD, jE, jF, jG, jH, jI, jJ, jK, tfObPv, isS_all, g2, g3, g8, g34, g35, g36, pI, q3, p3, r3, pInst, hd, tm2, hcs, pj, hmp, pu, pS]; try simp only [Ex.fold, Ex.foldcs, ← Va.pv.eq_1]
      refine ⟨.inr (.inr rfl), ?_⟩
      (repeat (first | refine aSeq fun X hX => ?_ | refine aBlk ?_ | refine aSkip ?_ | (first | refine aExit ?_ | refine aRet ?_); try simp only [slx, ↓reduceIte, Nat.reduceEqDiff, reduceCtorEq] | (first | refine aReg ?_ | refine aDrE ?_); simp -implicitDefEqProofs only [forall_eq, ↓slp, slb, ↓reduceIte, reduceCtorEq, jA, jB, jC, jD, jE, jF, jG, jH, jI, jJ, jK, tfObPv, g2, g3, g8, g34, g35, g36, pI, r3, rj, tm2, hmg, hlr, pS]; try simp only [Ex.fold, Ex.foldcs, ← Va.pv.eq_1] | refine hX _ _ ?_; clear hX X | clear hX X; refine hX _ _ ?_; clear hX X | clear hX X; clear hX X; refine hX _ _ ?_; clear hX X | intro hlen; unfold maxLen at hlen | apply And.intro; focus (first | omega | assumption | (repeat' apply And.intro) <;> first | omega | assumption)))
      refine aIf ?_; simp -implicitDefEqProofs only [↓slp, slb, ↓reduceIte, reduceCtorEq, jA, jB, jC, jD, jE, jF, jG, jH, jI, jJ, jK]
      (repeat (first | refine aSeq fun X hX => ?_ | refine aBlk ?_ | refine aSkip ?_ | (first | refine aExit ?_ | refine aRet ?_); try simp only [slx, ↓reduceIte, Nat.reduceEqDiff, reduceCtorEq] | (first | refine aReg ?_ | refine aDrE ?_); simp -implicitDefEqProofs only [forall_eq, ↓slp, slb, ↓reduceIte, reduceCtorEq, jA, jB, jC, jD, jE, jF, jG, jH, jI, jJ, jK, tfObPv, g36, pI, hi]; try simp only [Ex.fold, Ex.foldcs, ← Va.pv.eq_1] | refine hX _ _ ?_; clear hX X | clear hX X; refine hX _ _ ?_; clear hX X | clear hX X; clear hX X; refine hX _ _ ?_; clear hX X | intro hlen; unfold maxLen at hlen | apply And.intro; focus (first | omega | assumption | (repeat' apply And.intro) <;> first | omega | assumption)))
      rw [hI]
      exact ⟨⟨g2, g3, g8, g34, g35, .inr (.inl ⟨rfl, rfl⟩)⟩, by decide⟩
    · have q3 : (⟨P1b n, []⟩ : M).get 3 = some (objT n 2 1) := rfl
      have p3 : (⟨Q0b n, []⟩ : M).get 3 = some (objT n 2 1) := rfl
      have r3 : (⟨Q1b n, []⟩ : M).get 3 = some (objT n 2 1) := rfl
      simp only [objT, topCs, List.cons_append, List.nil_append] at q3 p3 r3
      have pj : (⟨Q0b n, []⟩ : M).get 1 = some [.tp [pS sP], .tp [.bp 6 0]] := rfl
      have rj : (⟨Q1b n, []⟩ : M).get 1 = some [.tp [pS sP, pS sQ], .tp [.bp 6 0, .bp 9 0]] := rfl
      have hmp : mapPut [pS sP] [.bp 6 0] sQ (.bp 9 0) = ([pS sP, pS sQ], [.bp 6 0, .bp 9 0]) := by kernel_rfl
      have hmg : mapGet [pS sP, pS sQ] [.bp 6 0, .bp 9 0] sQ = some (.bp 9 0) := by kernel_rfl
      have pu : (⟨Q0b n, []⟩ : M).upd 1 [.tp [pS sP, pS sQ], .tp [.bp 6 0, .bp 9 0]] = ⟨Q1b n, []⟩ := rfl
      have hst : ACalls Try.prog 24 [progT n, pS sC, pI 1] ⟨P1b n, []⟩ (fun v m' => v = .bp 9 0 ∧ m' = ⟨Q0b n, []⟩) := startQb n
      have hlr : lookRes false (PV.v (Value.pointer none)) (some (PV.bp 9 0)) = .bp 9 0 := rfl
      have hi : IntKind.i64.wrap (1 + 1) = 1 + 1 := by decide
      have hd : IntKind.i64.wrap (2 - 1) = 1 := by decide
      (repeat (first | refine aSeq fun X hX => ?_ | refine aBlk ?_ | refine aSkip ?_ | (first | refine aExit ?_ | refine aRet ?_); try simp only [slx, ↓reduceIte, Nat.reduceEqDiff, reduceCtorEq] | (first | refine aReg ?_ | refine aIf ?_); simp -implicitDefEqProofs only [forall_eq, ↓slp, slb, ↓reduceIte, reduceCtorEq, jA, jB, jC, jD, jE, jF, jG, jH, jI, jJ, jK, tfObPv, g2, g3, g8, g34, g35, g36, pI, q3, pInst, hd]; try simp only [Ex.fold, Ex.foldcs, ← Va.pv.eq_1] | refine hX _ _ ?_; clear hX X | clear hX X; refine hX _ _ ?_; clear hX X | clear hX X; clear hX X; refine hX _ _ ?_; clear hX X | intro hlen; unfold maxLen at hlen | apply And.intro; focus (first | omega | assumption | (repeat' apply And.intro) <;> first | omega | assumption)))
      refine aDrw (isS ⟨P1b n, []⟩ ⟨Q0b n, []⟩ ⟨Q1b n, []⟩) (by kernel_rfl) (.inl rfl) ?_
      simp -implicitDefEqProofs only [↓slp, slb, ↓reduceIte, reduceCtorEq, jA, jB, jC, jD, jE, jF, jG, jH, jI, jJ, jK, tfObPv, isS_all, g2, g3, g8, g34, g35, g36, pI, q3, p3, r3, pInst, hd, tm2, hcs]; try simp only [Ex.fold, Ex.foldcs, ← Va.pv.eq_1]
      refine callE hst ?_
      refine ⟨.inr (.inl rfl), ?_⟩
      simp -implicitDefEqProofs only [↓slp, slb, ↓reduceIte, reduceCtorEq, jA, jB, jC, jD, jE, jF, jG, jH, jI, jJ, jK, tfObPv, isS_all, g2, g3, g8, g34, g35, g36, pI, q3, p3, r3, pInst, hd, tm2, hcs, pj, hmp, pu, pS]; try simp only [Ex.fold, Ex.foldcs, ← Va.pv.eq_1]
      refine ⟨.inr (.inr rfl), ?_⟩
      (repeat (first | refine aSeq fun X hX => ?_ | refine aBlk ?_ | refine aSkip ?_ | (first | refine aExit ?_ | refine aRet ?_); try simp only [slx, ↓reduceIte, Nat.reduceEqDiff, reduceCtorEq] | (first | refine aReg ?_ | refine aDrE ?_); simp -implicitDefEqProofs only [forall_eq, ↓slp, slb, ↓reduceIte, reduceCtorEq, jA, jB, jC, jD, jE, jF, jG, jH, jI, jJ, jK, tfObPv, g2, g3, g8, g34, g35, g36, pI, r3, rj, tm2, hmg, hlr, pS]; try simp only [Ex.fold, Ex.foldcs, ← Va.pv.eq_1] | refine hX _ _ ?_; clear hX X | clear hX X; refine hX _ _ ?_; clear hX X | clear hX X; clear hX X; refine hX _ _ ?_; clear hX X | intro hlen; unfold maxLen at hlen | apply And.intro; focus (first | omega | assumption | (repeat' apply And.intro) <;> first | omega | assumption)))
      refine aIf ?_; simp -implicitDefEqProofs only [↓slp, slb, ↓reduceIte, reduceCtorEq, jA, jB, jC, jD, jE, jF, jG, jH, jI, jJ, jK]
      (repeat (first | refine aSeq fun X hX => ?_ | refine aBlk ?_ | refine aSkip ?_ | (first | refine aExit ?_ | refine aRet ?_); try simp only [slx, ↓reduceIte, Nat.reduceEqDiff, reduceCtorEq] | (first | refine aReg ?_ | refine aDrE ?_); simp -implicitDefEqProofs only [forall_eq, ↓slp, slb, ↓reduceIte, reduceCtorEq, jA, jB, jC, jD, jE, jF, jG, jH, jI, jJ, jK, tfObPv, g36, pI, hi]; try simp only [Ex.fold, Ex.foldcs, ← Va.pv.eq_1] | refine hX _ _ ?_; clear hX X | clear hX X; refine hX _ _ ?_; clear hX X | clear hX X; clear hX X; refine hX _ _ ?_; clear hX X | intro hlen; unfold maxLen at hlen | apply And.intro; focus (first | omega | assumption | (repeat' apply And.intro) <;> first | omega | assumption)))
      rw [hI]
      exact ⟨⟨g2, g3, g8, g34, g35, .inr (.inr ⟨rfl, rfl⟩)⟩, by decide⟩
    · have q3 : (⟨Q1b n, []⟩ : M).get 3 = some (objT n 2 1) := rfl
      have hr := resetTb n
      (repeat (first | refine aSeq fun X hX => ?_ | refine aBlk ?_ | refine aSkip ?_ | (first | refine aExit ?_ | refine aRet ?_); try simp only [slx, ↓reduceIte, Nat.reduceEqDiff, reduceCtorEq] | (first | refine aReg ?_ | refine aDrE ?_); simp -implicitDefEqProofs only [forall_eq, ↓slp, slb, ↓reduceIte, reduceCtorEq, jA, jB, jC, jD, jE, jF, jG, jH, jI, jJ, jK, tfObPv, g2, g3, g8, g34, g35, g36, pI]; try simp only [Ex.fold, Ex.foldcs, ← Va.pv.eq_1] | refine hX _ _ ?_; clear hX X | clear hX X; refine hX _ _ ?_; clear hX X | clear hX X; clear hX X; refine hX _ _ ?_; clear hX X | intro hlen; unfold maxLen at hlen | apply And.intro; focus (first | omega | assumption | (repeat' apply And.intro) <;> first | omega | assumption)))
      refine aIf ?_; simp -implicitDefEqProofs only [↓slp, slb, ↓reduceIte, reduceCtorEq, jA, jB, jC, jD, jE, jF, jG, jH, jI, jJ, jK]
      (repeat (first | refine aSeq fun X hX => ?_ | refine aBlk ?_ | refine aSkip ?_ | (first | refine aExit ?_ | refine aRet ?_); try simp only [slx, ↓reduceIte, Nat.reduceEqDiff, reduceCtorEq] | (first | refine aReg ?_ | refine aDrE ?_); simp -implicitDefEqProofs only [forall_eq, ↓slp, slb, ↓reduceIte, reduceCtorEq, jA, jB, jC, jD, jE, jF, jG, jH, jI, jJ, jK, tfObPv, g8]; try simp only [Ex.fold, Ex.foldcs, ← Va.pv.eq_1] | refine hX _ _ ?_; clear hX X | clear hX X; refine hX _ _ ?_; clear hX X | clear hX X; clear hX X; refine hX _ _ ?_; clear hX X | intro hlen; unfold maxLen at hlen | apply And.intro; focus (first | omega | assumption | (repeat' apply And.intro) <;> first | omega | assumption)))
      refine callE hr ?_
      simp -implicitDefEqProofs only [↓slp, slb, ↓reduceIte, reduceCtorEq, jA, jB, jC, jD, jE, jF, jG, jH, jI, jJ, jK, tfObPv, g8]; try simp only [Ex.fold, Ex.foldcs, ← Va.pv.eq_1]
      (repeat (first | refine aSeq fun X hX => ?_ | refine aBlk ?_ | refine aSkip ?_ | (first | refine aExit ?_ | refine aRet ?_); try simp only [slx, ↓reduceIte, Nat.reduceEqDiff, reduceCtorEq] | (first | refine aReg ?_ | refine aDrE ?_); simp -implicitDefEqProofs only [forall_eq, ↓slp, slb, ↓reduceIte, reduceCtorEq, jA, jB, jC, jD, jE, jF, jG, jH, jI, jJ, jK, tfObPv, g8]; try simp only [Ex.fold, Ex.foldcs, ← Va.pv.eq_1] | refine hX _ _ ?_; clear hX X | clear hX X; refine hX _ _ ?_; clear hX X | clear hX X; clear hX X; refine hX _ _ ?_; clear hX X | intro hlen; unfold maxLen at hlen | apply And.intro; focus (first | omega | assumption | (repeat' apply And.intro) <;> first | omega | assumption)))
      simp only [aPost, Try.results24, aRes_n, aRes_t, aRes_c, pack_one, pack_two]
      simp -implicitDefEqProofs only [↓slp, slb, ↓reduceIte, reduceCtorEq, jA, jB, jC, jD, jE, jF, jG, jH, jI, jJ, jK, tfObPv, g8]; try simp only [Ex.fold, Ex.foldcs, ← Va.pv.eq_1]
      exact leave_over (by show 1 ≤ 10; omega) (Nat.le_refl _) rfl rfl ⟨rfl, .inr rfl⟩
  clear hX
  refine aFltC 6 8 (fun _ => True) (by omega) (by simp only [List.length_cons, List.length_nil]; omega) (by kernel_rfl) trivial ?_
  have htc : topC.cells = [pS sTop, .sl .no [], .sl .no [pInst sP, pInst sQ], .sl .no [(vaI sA).pv, (vaB sR).pv], .sl .no [(vaI sX).pv, (vaI sY).pv], .sl .no [], .sl .no topS] := rfl
  simp -implicitDefEqProofs only [↓slp, slb, ↓reduceIte, reduceCtorEq, jA, jB, jC, jD, jE, jF, jG, jH, jI, jJ, jK, tfObPv, hcs, htc, pCls, List.getElem_cons_succ, List.getElem_cons_zero, List.drop_succ_cons, List.drop_zero, List.take_succ_cons, List.take_zero, List.cons_append, List.nil_append, Nat.reduceSub]; try simp only [Ex.fold, Ex.foldcs, ← Va.pv.eq_1]
  refine ⟨?_, ?_⟩
  · refine joina _ ?_ ?_ ?_
    all_goals rfl
  · refine joinb _ ?_ ?_ ?_
    all_goals rfl
/-- .. in one order. -/
theorem startT_one (n : Int) : ACalls Try.prog 24 [progT n, pS sTop, pI 2] M1 (fun v m' => v = .bp 3 0 ∧ m' = ⟨Q1a n, []⟩) := by
  refine ACalls.ren (startT n) ?_
  rintro v m' ⟨rfl, rfl | rfl⟩
  · exact .inl ⟨rfl, rfl⟩
  · refine .inr ⟨swp 1 2, ⟨Q1a n, []⟩, ⟨swp_inv 1 2, fun i hi => ?_, rfl, rfl, fun i hi => ?_⟩, fun i hi => ?_, rfl, rfl⟩
    · have hi : i < 10 := hi
      show swp 1 2 i < 10
      unfold swp
      split
      · omega
      · split <;> omega
    · have hi : i < 10 := hi
      have h3 : i = 0 ∨ i = 1 ∨ i = 2 ∨ i = 3 ∨ i = 4 ∨ i = 5 ∨ i = 6 ∨ i = 7 ∨ i = 8 ∨ i = 9 := by omega
      rcases h3 with rfl | rfl | rfl | rfl | rfl | rfl | rfl | rfl | rfl | rfl <;> rfl
    · have hi : i < 1 := hi
      unfold swp
      rw [if_neg (by omega), if_neg (by omega)]
theorem newT_any (n : Int) : ACalls Try.prog 9 [progT n, pS sTop] M1 (fun v m' => v = .tp [.bp 3 0, pI 0] ∧ m' = ⟨Q1a n, []⟩) := by
  refine ACalls.enter (mu := []) ok_mix Try.func9 rfl (by kernel_rfl) (by kernel_rfl) (by simp only [List.length_cons, List.length_nil, Try.ntmps9]; omega) ?_
  (repeat (first | refine aSeq fun X hX => ?_ | refine aBlk ?_ | refine aSkip ?_ | (first | refine aExit ?_ | refine aRet ?_); try simp only [slx, ↓reduceIte, Nat.reduceEqDiff, reduceCtorEq] | (first | refine aReg ?_ | refine aIf ?_); simp -implicitDefEqProofs only [forall_eq, ↓slp, slb, ↓reduceIte, reduceCtorEq, jA, jB, jC, jD, jE, jF, jG, jH, jI, jJ, jK, tfObPv]; try simp only [Ex.fold, Ex.foldcs, ← Va.pv.eq_1] | refine hX _ _ ?_; clear hX X | clear hX X; refine hX _ _ ?_; clear hX X | clear hX X; clear hX X; refine hX _ _ ?_; clear hX X | intro hlen; unfold maxLen at hlen | apply And.intro; focus (first | omega | assumption | (repeat' apply And.intro) <;> first | omega | assumption)))
  refine ⟨rfl, ?_⟩
  have hcs : (progT n).settle.cells = [.sl .no [], .sl .no [pCls n, topC]] := rfl
  (repeat (first | refine aSeq fun X hX => ?_ | refine aBlk ?_ | refine aSkip ?_ | (first | refine aExit ?_ | refine aRet ?_); try simp only [slx, ↓reduceIte, Nat.reduceEqDiff, reduceCtorEq] | (first | refine aReg ?_ | refine aIf ?_); simp -implicitDefEqProofs only [forall_eq, ↓slp, slb, ↓reduceIte, reduceCtorEq, jA, jB, jC, jD, jE, jF, jG, jH, jI, jJ, jK, tfObPv, hcs]; try simp only [Ex.fold, Ex.foldcs, ← Va.pv.eq_1] | refine hX _ _ ?_; clear hX X | clear hX X; refine hX _ _ ?_; clear hX X | clear hX X; clear hX X; refine hX _ _ ?_; clear hX X | intro hlen; unfold maxLen at hlen | apply And.intro; focus (first | omega | assumption | (repeat' apply And.intro) <;> first | omega | assumption)))
  refine callE (findT_any n _) ?_
  simp -implicitDefEqProofs only [↓slp, slb, ↓reduceIte, reduceCtorEq, jA, jB, jC, jD, jE, jF, jG, jH, jI, jJ, jK, tfObPv, hcs]; try simp only [Ex.fold, Ex.foldcs, ← Va.pv.eq_1]
  (repeat (first | refine aSeq fun X hX => ?_ | refine aBlk ?_ | refine aSkip ?_ | (first | refine aExit ?_ | refine aRet ?_); try simp only [slx, ↓reduceIte, Nat.reduceEqDiff, reduceCtorEq] | (first | refine aReg ?_ | refine aIf ?_); simp -implicitDefEqProofs only [forall_eq, ↓slp, slb, ↓reduceIte, reduceCtorEq, jA, jB, jC, jD, jE, jF, jG, jH, jI, jJ, jK, tfObPv, hcs, pS, pI]; try simp only [Ex.fold, Ex.foldcs, ← Va.pv.eq_1] | refine hX _ _ ?_; clear hX X | clear hX X; refine hX _ _ ?_; clear hX X | clear hX X; clear hX X; refine hX _ _ ?_; clear hX X | intro hlen; unfold maxLen at hlen | apply And.intro; focus (first | omega | assumption | (repeat' apply And.intro) <;> first | omega | assumption)))
  refine callE (startT_one n) ?_
  simp -implicitDefEqProofs only [↓slp, slb, ↓reduceIte, reduceCtorEq, jA, jB, jC, jD, jE, jF, jG, jH, jI, jJ, jK, tfObPv, hcs]; try simp only [Ex.fold, Ex.foldcs, ← Va.pv.eq_1]
  (repeat (first | refine aSeq fun X hX => ?_ | refine aBlk ?_ | refine aSkip ?_ | (first | refine aExit ?_ | refine aRet ?_); try simp only [slx, ↓reduceIte, Nat.reduceEqDiff, reduceCtorEq] | (first | refine aReg ?_ | refine aDrE ?_); simp -implicitDefEqProofs only [forall_eq, ↓slp, slb, ↓reduceIte, reduceCtorEq, jA, jB, jC, jD, jE, jF, jG, jH, jI, jJ, jK, tfObPv]; try simp only [Ex.fold, Ex.foldcs, ← Va.pv.eq_1] | refine hX _ _ ?_; clear hX X | clear hX X; refine hX _ _ ?_; clear hX X | clear hX X; clear hX X; refine hX _ _ ?_; clear hX X | intro hlen; unfold maxLen at hlen | apply And.intro; focus (first | omega | assumption | (repeat' apply And.intro) <;> first | omega | assumption)))
  refine aIf ?_; simp -implicitDefEqProofs only [↓slp, slb, ↓reduceIte, reduceCtorEq, jA, jB, jC, jD, jE, jF, jG, jH, jI, jJ, jK]
  (repeat (first | refine aSeq fun X hX => ?_ | refine aBlk ?_ | refine aSkip ?_ | (first | refine aExit ?_ | refine aRet ?_); try simp only [slx, ↓reduceIte, Nat.reduceEqDiff, reduceCtorEq] | (first | refine aReg ?_ | refine aDrE ?_); simp -implicitDefEqProofs only [forall_eq, ↓slp, slb, ↓reduceIte, reduceCtorEq, jA, jB, jC, jD, jE, jF, jG, jH, jI, jJ, jK, tfObPv]; try simp only [Ex.fold, Ex.foldcs, ← Va.pv.eq_1] | refine hX _ _ ?_; clear hX X | clear hX X; refine hX _ _ ?_; clear hX X | clear hX X; clear hX X; refine hX _ _ ?_; clear hX X | intro hlen; unfold maxLen at hlen | apply And.intro; focus (first | omega | assumption | (repeat' apply And.intro) <;> first | omega | assumption)))
  simp only [aPost, Try.results9, aRes_n, aRes_t, aRes_c, pack_one, pack_two]
  simp -implicitDefEqProofs only [↓slp, slb, ↓reduceIte, reduceCtorEq, jA, jB, jC, jD, jE, jF, jG, jH, jI, jJ, jK, tfObPv]; try simp only [Ex.fold, Ex.foldcs, ← Va.pv.eq_1]
  exact leave_over (by show 1 ≤ 10; omega) (Nat.le_refl _) rfl rfl ⟨rfl, rfl⟩
/-- The state of the two instances: what each keeps. -/
def PM (n x y : Int) : M := ⟨[none, bE, some bI2, some (objT n 1 2), bN x, bE, some (objP n 4 5), bN y, bE, some (objP n 7 8)], []⟩
theorem PM_new (n : Int) : (⟨Q1a n, []⟩ : M) = PM n n n := rfl
theorem stepT0 (n x y a : Int) : ACalls Try.prog 11 [.bp 3 0, .sl .no [pJ' a, pJ' 0]] (PM n x y) (fun v m' => v = .tp [.sl .no [pJ' x, pJ' y], pI 0] ∧ m' = PM n (IntKind.i32.wrap (x + a)) (IntKind.i32.wrap (y + 1))) :=
  ACalls.ranV (mus := mus) (hook := obHook noHook) (k := 600) (n := 10) (q := (.tp [.sl .no [pJ' x, pJ' y], pI 0], PM n (IntKind.i32.wrap (x + a)) (IntKind.i32.wrap (y + 1)))) ok_mix (obHook_ok noHook_ok) (by kernel_rfl)
theorem stepT1 (n x y a : Int) : ACalls Try.prog 11 [.bp 3 0, .sl .no [pJ' a, pJ' 1]] (PM n x y) (fun v m' => v = .tp [.sl .no [pJ' n, pJ' y], pI 0] ∧ m' = PM n (IntKind.i32.wrap (n + a)) (IntKind.i32.wrap (y + 1))) :=
  ACalls.ranV (mus := mus) (hook := obHook noHook) (k := 600) (n := 10) (q := (.tp [.sl .no [pJ' n, pJ' y], pI 0], PM n (IntKind.i32.wrap (n + a)) (IntKind.i32.wrap (y + 1)))) ok_mix (obHook_ok noHook_ok) (by kernel_rfl)
end Go.Proofs.Ytmcajiccepgagaa
