/-
  The maker of clite's expressions, and what they are like.
-/
import Derived.Test.YtepjjgnkhcjpcaaDoorCeMk2
import Derived.Test.YtepjjgnkhcjpcaaDoorCtI
set_option linter.unusedVariables false
set_option linter.unusedSimpArgs false
namespace Go.Proofs.YtepjjgnkhcjpcaaDoor
open Nat renaming reduceEqDiff → jA, reduceAdd → jB, reduceMul → jC, reduceLT → jD, reduceLeDiff → jE, reduceBEq → jF, reduceBNe → jG
open Int renaming reduceLE → jH, reduceLT → jI, reduceToNat → jJ, reduceEq → jK
open Go
-- EXX: cst_nb, cst_nt, cst_fresh, cst_use, cst_free, cst_alive, cst_a, cst_upda, cst_ext, cst_ext2, cst_ea, cst_own, cst_own0, cst_ou, cst_ou0, CP.at, CE.settle_pv, CE.pure_pv, CE.cells_pv, CE.cs
set_option maxRecDepth 20000
-- TNAMES: int; uint8; int32; string; bool; []uint8; *int; []clite.Expr; clite.Expr; []string
set_option linter.defProp false
def tfCtMk := And.intro @tfA (And.intro @Ex.settle_pv (And.intro @Ex.pure_pv (And.intro @Ex.cells_pv (And.intro @Ex.cs.eq_1 (And.intro @On.pv.eq_1 (And.intro @Ty.pv.eq_1 (And.intro @Va.settle_pv (And.intro @Va.pure_pv (And.intro @Va.cells_pv (And.intro @Va.cs.eq_1 (And.intro @cst_nb (And.intro @cst_nt (And.intro @cst_fresh (And.intro @cst_use (And.intro @cst_free (And.intro @cst_alive (And.intro @cst_a (And.intro @cst_upda (And.intro @cst_ext (And.intro @cst_ext2 (And.intro @cst_ea (And.intro @cst_own (And.intro @cst_own0 (And.intro @cst_ou (And.intro @cst_ou0 (And.intro @CP.at.eq_1 (And.intro @CE.settle_pv (And.intro @CE.pure_pv (And.intro @CE.cells_pv @CE.cs.eq_1)))))))))))))))))))))))))))))

/-- What expr promises at a depth. -/
theorem name8T : ∀ t, t < 8 → ∃ nm : Str, [PV.v (.string ⟨#[102, 97]⟩), PV.v (.string ⟨#[102, 98]⟩), PV.v (.string ⟨#[102, 97]⟩), PV.v (.string ⟨#[102, 98]⟩), PV.v (.string ⟨#[102, 97]⟩), PV.v (.string ⟨#[102, 98]⟩), PV.v (.string ⟨#[112]⟩), PV.v (.string ⟨#[110, 111]⟩)].getD t PV.junk = .v (.string nm) ∧ (nm = ⟨#[102, 97]⟩ ∨ nm = ⟨#[102, 98]⟩ ∨ nm = ⟨#[112]⟩ ∨ nm = ⟨#[110, 111]⟩)
  | 0, _ => ⟨_, rfl, .inl rfl⟩
  | 1, _ => ⟨_, rfl, .inr (.inl rfl)⟩
  | 2, _ => ⟨_, rfl, .inl rfl⟩
  | 3, _ => ⟨_, rfl, .inr (.inl rfl)⟩
  | 4, _ => ⟨_, rfl, .inl rfl⟩
  | 5, _ => ⟨_, rfl, .inr (.inl rfl)⟩
  | 6, _ => ⟨_, rfl, .inr (.inr (.inl rfl))⟩
  | 7, _ => ⟨_, rfl, .inr (.inr (.inr rfl))⟩
  | n + 8, h => absurd h (by omega)
def ECr (d : Nat) : Prop := ∀ (p : CP) (m : M), p.ok m → ∀ (i : Nat), ACalls Tryd.prog 5 [.sl .no (p.l.map pU), .bp p.a 0, .v (.int .i64 (d : Int))] (cst p m i) (fun v m' => ∃ e i', v = CE.pv e ∧ TX d e ∧ m' = cst p m i')
set_option maxHeartbeats 4000000 in
theorem expr0r_any : ECr 0 := by
  intro p m hok i
  have hA := hok.a
  have c0 : decide (((0 : Nat) : Int) ≤ 0) = true := rfl
  refine ACalls.enter (mu := [6]) ok_mix Tryd.func5 rfl (by kernel_rfl) (by kernel_rfl) (by simp only [List.length_cons, List.length_nil, Tryd.ntmps5]; omega) ?_
  (repeat (first | refine aSeq fun X hX => ?_ | refine aBlk ?_ | refine aSkip ?_ | (first | refine aExit ?_ | refine aRet ?_); try simp only [slx, ↓reduceIte, Nat.reduceEqDiff, reduceCtorEq] | (first | refine aReg ?_ | refine aDrE ?_ | refine aIf ?_); simp -implicitDefEqProofs only [forall_eq, ↓slp, slb, ↓reduceIte, reduceCtorEq, jA, jB, jC, jD, jE, jF, jG, jH, jI, jJ, jK, tfCtMk, hA, c0]; try simp only [Ex.fold, Ex.foldcs, ← Va.pv.eq_1] | refine hX _ _ ?_; clear hX X | clear hX X; refine hX _ _ ?_; clear hX X | clear hX X; clear hX X; refine hX _ _ ?_; clear hX X | intro hlen; unfold maxLen at hlen | apply And.intro; focus (first | omega | assumption | (repeat' apply And.intro) <;> first | omega | assumption)))
  refine callM (nextC_any p _ (hok.ext _) i) ?_
  rintro v m' ⟨r, i', rfl, hr, rfl⟩
  obtain ⟨k, hk, hk10⟩ := tmod_nat hr.1 10 (by omega)
  have hk' : r.tmod 10 = (k : Int) := hk
  obtain ⟨q, hq, hq4⟩ := tmod_nat (r := (k : Int)) (by omega) 4 (by omega)
  have hq' : (k : Int).tmod 4 = (q : Int) := hq
  have h4 : q = 0 ∨ (q = 1 ∨ q = 2) ∨ q = 3 := by omega
  rcases h4 with rfl | h4 | rfl
  · have hq0 : (k : Int).tmod 4 = 0 := hq'
    simp -implicitDefEqProofs only [↓slp, slb, ↓reduceIte, reduceCtorEq, jA, jB, jC, jD, jE, jF, jG, jH, jI, jJ, jK, tfCtMk, hA, hk', hq0, c0, Int.reduceBEq, decide_true, decide_false]; try simp only [Ex.fold, Ex.foldcs, ← Va.pv.eq_1]
    (repeat (first | refine aSeq fun X hX => ?_ | refine aBlk ?_ | refine aSkip ?_ | (first | refine aExit ?_ | refine aRet ?_); try simp only [slx, ↓reduceIte, Nat.reduceEqDiff, reduceCtorEq] | (first | refine aReg ?_ | refine aDrE ?_ | refine aIf ?_); simp -implicitDefEqProofs only [forall_eq, ↓slp, slb, ↓reduceIte, reduceCtorEq, jA, jB, jC, jD, jE, jF, jG, jH, jI, jJ, jK, tfCtMk, hA, hk', hq0, c0, Int.reduceBEq, decide_true, decide_false]; try simp only [Ex.fold, Ex.foldcs, ← Va.pv.eq_1] | refine hX _ _ ?_; clear hX X | clear hX X; refine hX _ _ ?_; clear hX X | clear hX X; clear hX X; refine hX _ _ ?_; clear hX X | intro hlen; unfold maxLen at hlen | apply And.intro; focus (first | omega | assumption | (repeat' apply And.intro) <;> first | omega | assumption)))
    refine callM (nextC_any p _ (hok.ext _) i') ?_
    rintro v m' ⟨r2, i2, rfl, hr2, rfl⟩
    have w1 : IntKind.i32.wrap r2 = r2 := IntWalk.i32_in _ (by omega)
    have w2 : IntKind.i32.wrap (r2 - 100) = r2 - 100 := IntWalk.i32_in _ (by omega)
    simp -implicitDefEqProofs only [↓slp, slb, ↓reduceIte, reduceCtorEq, jA, jB, jC, jD, jE, jF, jG, jH, jI, jJ, jK, tfCtMk, hA, w1, w2]; try simp only [Ex.fold, Ex.foldcs, ← Va.pv.eq_1]
    refine callE (num_any _ _) ?_
    simp -implicitDefEqProofs only [↓slp, slb, ↓reduceIte, reduceCtorEq, jA, jB, jC, jD, jE, jF, jG, jH, jI, jJ, jK, tfCtMk, hA]; try simp only [Ex.fold, Ex.foldcs, ← Va.pv.eq_1]
    (repeat (first | refine aSeq fun X hX => ?_ | refine aBlk ?_ | refine aSkip ?_ | (first | refine aExit ?_ | refine aRet ?_); try simp only [slx, ↓reduceIte, Nat.reduceEqDiff, reduceCtorEq] | (first | refine aReg ?_ | refine aDrE ?_ | refine aIf ?_); simp -implicitDefEqProofs only [forall_eq, ↓slp, slb, ↓reduceIte, reduceCtorEq, jA, jB, jC, jD, jE, jF, jG, jH, jI, jJ, jK, tfCtMk, hA]; try simp only [Ex.fold, Ex.foldcs, ← Va.pv.eq_1] | refine hX _ _ ?_; clear hX X | clear hX X; refine hX _ _ ?_; clear hX X | clear hX X; clear hX X; refine hX _ _ ?_; clear hX X | intro hlen; unfold maxLen at hlen | apply And.intro; focus (first | omega | assumption | (repeat' apply And.intro) <;> first | omega | assumption)))
    simp only [aPost, Tryd.results5, aRes_n, aRes_t, aRes_c, pack_one, pack_two]
    simp -implicitDefEqProofs only [↓slp, slb, ↓reduceIte, reduceCtorEq, jA, jB, jC, jD, jE, jF, jG, jH, jI, jJ, jK, tfCtMk, hA]; try simp only [Ex.fold, Ex.foldcs, ← Va.pv.eq_1]
    exact leave_cst hok (.refl m) rfl ⟨.mk 1 0 (r2 - 100) ⟨#[]⟩ [], i2, rfl, .num _ _ (by omega) (by omega), rfl⟩
  · have hq0 : (k : Int).tmod 4 = 1 ∨ (k : Int).tmod 4 = 2 := by rcases h4 with rfl | rfl; exact .inl hq'; exact .inr hq'
    rcases hq0 with hq0 | hq0
    all_goals
      simp -implicitDefEqProofs only [↓slp, slb, ↓reduceIte, reduceCtorEq, jA, jB, jC, jD, jE, jF, jG, jH, jI, jJ, jK, tfCtMk, hA, hk', hq0, c0, Int.reduceBEq, decide_true, decide_false]; try simp only [Ex.fold, Ex.foldcs, ← Va.pv.eq_1]
      (repeat (first | refine aSeq fun X hX => ?_ | refine aBlk ?_ | refine aSkip ?_ | (first | refine aExit ?_ | refine aRet ?_); try simp only [slx, ↓reduceIte, Nat.reduceEqDiff, reduceCtorEq] | (first | refine aReg ?_ | refine aDrE ?_ | refine aIf ?_); simp -implicitDefEqProofs only [forall_eq, ↓slp, slb, ↓reduceIte, reduceCtorEq, jA, jB, jC, jD, jE, jF, jG, jH, jI, jJ, jK, tfCtMk, hA, hk', hq0, c0, Int.reduceBEq, decide_true, decide_false]; try simp only [Ex.fold, Ex.foldcs, ← Va.pv.eq_1] | refine hX _ _ ?_; clear hX X | clear hX X; refine hX _ _ ?_; clear hX X | clear hX X; clear hX X; refine hX _ _ ?_; clear hX X | intro hlen; unfold maxLen at hlen | apply And.intro; focus (first | omega | assumption | (repeat' apply And.intro) <;> first | omega | assumption)))
      refine callM (nextC_any p _ (hok.ext _) i') ?_
      rintro v m' ⟨r2, i2, rfl, hr2, rfl⟩
      obtain ⟨t, ht, ht4⟩ := tmod_nat hr2.1 4 (by omega)
      have ht' : r2.tmod 4 = (t : Int) := ht
      simp -implicitDefEqProofs only [↓slp, slb, ↓reduceIte, reduceCtorEq, jA, jB, jC, jD, jE, jF, jG, jH, jI, jJ, jK, tfCtMk, hA, ht']; try simp only [Ex.fold, Ex.foldcs, ← Va.pv.eq_1]
      refine callE (letterC_any t (by omega) _) ?_
      have hz : (strOf [((97 + t : Nat) : Int)]).size = 1 := rfl
      have hz2 : (⟨#[118]⟩ : ByteArray).size = 1 := rfl
      simp -implicitDefEqProofs only [↓slp, slb, ↓reduceIte, reduceCtorEq, jA, jB, jC, jD, jE, jF, jG, jH, jI, jJ, jK, tfCtMk, hA]; try simp only [Ex.fold, Ex.foldcs, ← Va.pv.eq_1]
      refine ⟨by omega, ?_⟩
      refine callE (local_any _ _) ?_
      simp -implicitDefEqProofs only [↓slp, slb, ↓reduceIte, reduceCtorEq, jA, jB, jC, jD, jE, jF, jG, jH, jI, jJ, jK, tfCtMk, hA]; try simp only [Ex.fold, Ex.foldcs, ← Va.pv.eq_1]
      (repeat (first | refine aSeq fun X hX => ?_ | refine aBlk ?_ | refine aSkip ?_ | (first | refine aExit ?_ | refine aRet ?_); try simp only [slx, ↓reduceIte, Nat.reduceEqDiff, reduceCtorEq] | (first | refine aReg ?_ | refine aDrE ?_ | refine aIf ?_); simp -implicitDefEqProofs only [forall_eq, ↓slp, slb, ↓reduceIte, reduceCtorEq, jA, jB, jC, jD, jE, jF, jG, jH, jI, jJ, jK, tfCtMk, hA]; try simp only [Ex.fold, Ex.foldcs, ← Va.pv.eq_1] | refine hX _ _ ?_; clear hX X | clear hX X; refine hX _ _ ?_; clear hX X | clear hX X; clear hX X; refine hX _ _ ?_; clear hX X | intro hlen; unfold maxLen at hlen | apply And.intro; focus (first | omega | assumption | (repeat' apply And.intro) <;> first | omega | assumption)))
      simp only [aPost, Tryd.results5, aRes_n, aRes_t, aRes_c, pack_one, pack_two]
      simp -implicitDefEqProofs only [↓slp, slb, ↓reduceIte, reduceCtorEq, jA, jB, jC, jD, jE, jF, jG, jH, jI, jJ, jK, tfCtMk, hA]; try simp only [Ex.fold, Ex.foldcs, ← Va.pv.eq_1]
      exact leave_cst hok (.refl m) rfl ⟨.mk 2 0 0 (⟨#[118]⟩ ++ strOf [((97 + t : Nat) : Int)]) [], i2, rfl, .loc _ t (by omega), rfl⟩
  · have hq0 : (k : Int).tmod 4 = 3 := hq'
    simp -implicitDefEqProofs only [↓slp, slb, ↓reduceIte, reduceCtorEq, jA, jB, jC, jD, jE, jF, jG, jH, jI, jJ, jK, tfCtMk, hA, hk', hq0, c0, Int.reduceBEq, decide_true, decide_false]; try simp only [Ex.fold, Ex.foldcs, ← Va.pv.eq_1]
    (repeat (first | refine aSeq fun X hX => ?_ | refine aBlk ?_ | refine aSkip ?_ | (first | refine aExit ?_ | refine aRet ?_); try simp only [slx, ↓reduceIte, Nat.reduceEqDiff, reduceCtorEq] | (first | refine aReg ?_ | refine aDrE ?_ | refine aIf ?_); simp -implicitDefEqProofs only [forall_eq, ↓slp, slb, ↓reduceIte, reduceCtorEq, jA, jB, jC, jD, jE, jF, jG, jH, jI, jJ, jK, tfCtMk, hA, hk', hq0, c0, Int.reduceBEq, decide_true, decide_false]; try simp only [Ex.fold, Ex.foldcs, ← Va.pv.eq_1] | refine hX _ _ ?_; clear hX X | clear hX X; refine hX _ _ ?_; clear hX X | clear hX X; clear hX X; refine hX _ _ ?_; clear hX X | intro hlen; unfold maxLen at hlen | apply And.intro; focus (first | omega | assumption | (repeat' apply And.intro) <;> first | omega | assumption)))
    refine ⟨rfl, ?_⟩
    (repeat (first | refine aSeq fun X hX => ?_ | refine aBlk ?_ | refine aSkip ?_ | (first | refine aExit ?_ | refine aRet ?_); try simp only [slx, ↓reduceIte, Nat.reduceEqDiff, reduceCtorEq] | (first | refine aReg ?_ | refine aDrE ?_ | refine aIf ?_); simp -implicitDefEqProofs only [forall_eq, ↓slp, slb, ↓reduceIte, reduceCtorEq, jA, jB, jC, jD, jE, jF, jG, jH, jI, jJ, jK, tfCtMk, hA]; try simp only [Ex.fold, Ex.foldcs, ← Va.pv.eq_1] | refine hX _ _ ?_; clear hX X | clear hX X; refine hX _ _ ?_; clear hX X | clear hX X; clear hX X; refine hX _ _ ?_; clear hX X | intro hlen; unfold maxLen at hlen | apply And.intro; focus (first | omega | assumption | (repeat' apply And.intro) <;> first | omega | assumption)))
    refine callM (nextC_any p _ (hok.ext _) i') ?_
    rintro v m' ⟨r2, i2, rfl, hr2, rfl⟩
    obtain ⟨t, ht, ht8⟩ := tmod_nat hr2.1 8 (by omega)
    have ht' : r2.tmod 8 = (t : Int) := ht
    obtain ⟨nm, hnm, hnm2⟩ : ∃ nm : Str, [PV.v (.string ⟨#[102, 97]⟩), PV.v (.string ⟨#[102, 98]⟩), PV.v (.string ⟨#[102, 97]⟩), PV.v (.string ⟨#[102, 98]⟩), PV.v (.string ⟨#[102, 97]⟩), PV.v (.string ⟨#[102, 98]⟩), PV.v (.string ⟨#[112]⟩), PV.v (.string ⟨#[110, 111]⟩)].getD t PV.junk = .v (.string nm) ∧ (nm = ⟨#[102, 97]⟩ ∨ nm = ⟨#[102, 98]⟩ ∨ nm = ⟨#[112]⟩ ∨ nm = ⟨#[110, 111]⟩) := name8T t ht8
    simp -implicitDefEqProofs only [↓slp, slb, ↓reduceIte, reduceCtorEq, jA, jB, jC, jD, jE, jF, jG, jH, jI, jJ, jK, tfCtMk, hA, ht', hnm]; try simp only [Ex.fold, Ex.foldcs, ← Va.pv.eq_1]
    (repeat (first | (intro hlen; unfold maxLen at hlen) | (apply And.intro; (focus (first | omega | assumption | trivial | (repeat' apply And.intro) <;> first | omega | assumption | trivial)))))
    (repeat (first | refine aSeq fun X hX => ?_ | refine aBlk ?_ | refine aSkip ?_ | (first | refine aExit ?_ | refine aRet ?_); try simp only [slx, ↓reduceIte, Nat.reduceEqDiff, reduceCtorEq] | (first | refine aReg ?_ | refine aDrE ?_ | refine aIf ?_); simp -implicitDefEqProofs only [forall_eq, ↓slp, slb, ↓reduceIte, reduceCtorEq, jA, jB, jC, jD, jE, jF, jG, jH, jI, jJ, jK, tfCtMk, hA]; try simp only [Ex.fold, Ex.foldcs, ← Va.pv.eq_1] | refine hX _ _ ?_; clear hX X | clear hX X; refine hX _ _ ?_; clear hX X | clear hX X; clear hX X; refine hX _ _ ?_; clear hX X | intro hlen; unfold maxLen at hlen | apply And.intro; focus (first | omega | assumption | (repeat' apply And.intro) <;> first | omega | assumption)))
    simp only [aPost, Tryd.results5, aRes_n, aRes_t, aRes_c, pack_one, pack_two]
    simp -implicitDefEqProofs only [↓slp, slb, ↓reduceIte, reduceCtorEq, jA, jB, jC, jD, jE, jF, jG, jH, jI, jJ, jK, tfCtMk, hA]; try simp only [Ex.fold, Ex.foldcs, ← Va.pv.eq_1]
    exact leave_cst hok (.refl m) rfl ⟨.mk 3 0 0 nm [], i2, rfl, .fld _ nm hnm2, rfl⟩
set_option maxHeartbeats 8000000 in
theorem exprSr_any (d : Nat) (hd : d < 1000) (E : ECr d) : ECr (d + 1) := by
  intro p m hok i
  have hA := hok.a
  have hw : IntKind.i64.wrap (((d + 1 : Nat) : Int) - 1) = (d : Int) := by rw [wrap64 (by omega)]; omega
  have c0 : decide (((d + 1 : Nat) : Int) ≤ 0) = false := by simp
  refine ACalls.enter (mu := [6]) ok_mix Tryd.func5 rfl (by kernel_rfl) (by kernel_rfl) (by simp only [List.length_cons, List.length_nil, Tryd.ntmps5]; omega) ?_
  (repeat (first | refine aSeq fun X hX => ?_ | refine aBlk ?_ | refine aSkip ?_ | (first | refine aExit ?_ | refine aRet ?_); try simp only [slx, ↓reduceIte, Nat.reduceEqDiff, reduceCtorEq] | (first | refine aReg ?_ | refine aDrE ?_ | refine aIf ?_); simp -implicitDefEqProofs only [forall_eq, ↓slp, slb, ↓reduceIte, reduceCtorEq, jA, jB, jC, jD, jE, jF, jG, jH, jI, jJ, jK, tfCtMk, hA, c0]; try simp only [Ex.fold, Ex.foldcs, ← Va.pv.eq_1] | refine hX _ _ ?_; clear hX X | clear hX X; refine hX _ _ ?_; clear hX X | clear hX X; clear hX X; refine hX _ _ ?_; clear hX X | intro hlen; unfold maxLen at hlen | apply And.intro; focus (first | omega | assumption | (repeat' apply And.intro) <;> first | omega | assumption)))
  refine callM (nextC_any p _ (hok.ext _) i) ?_
  rintro v m' ⟨r, i', rfl, hr, rfl⟩
  obtain ⟨k, hk, hk10⟩ := tmod_nat hr.1 10 (by omega)
  have h10 : k = 0 ∨ k = 1 ∨ k = 2 ∨ k = 3 ∨ k = 4 ∨ k = 5 ∨ k = 6 ∨ k = 7 ∨ k = 8 ∨ k = 9 := by omega
  rcases h10 with rfl | rfl | rfl | rfl | rfl | rfl | rfl | rfl | rfl | rfl
  · have hk' : r.tmod 10 = 0 := hk
    simp -implicitDefEqProofs only [↓slp, slb, ↓reduceIte, reduceCtorEq, jA, jB, jC, jD, jE, jF, jG, jH, jI, jJ, jK, tfCtMk, hk', hA, c0, hw, Int.reduceBEq, decide_true, decide_false]; try simp only [Ex.fold, Ex.foldcs, ← Va.pv.eq_1]
    (repeat (first | refine aSeq fun X hX => ?_ | refine aBlk ?_ | refine aSkip ?_ | (first | refine aExit ?_ | refine aRet ?_); try simp only [slx, ↓reduceIte, Nat.reduceEqDiff, reduceCtorEq] | (first | refine aReg ?_ | refine aDrE ?_ | refine aIf ?_); simp -implicitDefEqProofs only [forall_eq, ↓slp, slb, ↓reduceIte, reduceCtorEq, jA, jB, jC, jD, jE, jF, jG, jH, jI, jJ, jK, tfCtMk, hk', hA, c0, hw, Int.reduceBEq, decide_true, decide_false]; try simp only [Ex.fold, Ex.foldcs, ← Va.pv.eq_1] | refine hX _ _ ?_; clear hX X | clear hX X; refine hX _ _ ?_; clear hX X | clear hX X; clear hX X; refine hX _ _ ?_; clear hX X | intro hlen; unfold maxLen at hlen | apply And.intro; focus (first | omega | assumption | (repeat' apply And.intro) <;> first | omega | assumption)))
    refine callM (nextC_any p _ (hok.ext _) i') ?_
    rintro v m' ⟨r2, i2, rfl, hr2, rfl⟩
    have w1 : IntKind.i32.wrap r2 = r2 := IntWalk.i32_in _ (by omega)
    have w2 : IntKind.i32.wrap (r2 - 100) = r2 - 100 := IntWalk.i32_in _ (by omega)
    simp -implicitDefEqProofs only [↓slp, slb, ↓reduceIte, reduceCtorEq, jA, jB, jC, jD, jE, jF, jG, jH, jI, jJ, jK, tfCtMk, hA, w1, w2]; try simp only [Ex.fold, Ex.foldcs, ← Va.pv.eq_1]
    refine callE (num_any _ _) ?_
    simp -implicitDefEqProofs only [↓slp, slb, ↓reduceIte, reduceCtorEq, jA, jB, jC, jD, jE, jF, jG, jH, jI, jJ, jK, tfCtMk, hA]; try simp only [Ex.fold, Ex.foldcs, ← Va.pv.eq_1]
    (repeat (first | refine aSeq fun X hX => ?_ | refine aBlk ?_ | refine aSkip ?_ | (first | refine aExit ?_ | refine aRet ?_); try simp only [slx, ↓reduceIte, Nat.reduceEqDiff, reduceCtorEq] | (first | refine aReg ?_ | refine aDrE ?_ | refine aIf ?_); simp -implicitDefEqProofs only [forall_eq, ↓slp, slb, ↓reduceIte, reduceCtorEq, jA, jB, jC, jD, jE, jF, jG, jH, jI, jJ, jK, tfCtMk, hA]; try simp only [Ex.fold, Ex.foldcs, ← Va.pv.eq_1] | refine hX _ _ ?_; clear hX X | clear hX X; refine hX _ _ ?_; clear hX X | clear hX X; clear hX X; refine hX _ _ ?_; clear hX X | intro hlen; unfold maxLen at hlen | apply And.intro; focus (first | omega | assumption | (repeat' apply And.intro) <;> first | omega | assumption)))
    simp only [aPost, Tryd.results5, aRes_n, aRes_t, aRes_c, pack_one, pack_two]
    simp -implicitDefEqProofs only [↓slp, slb, ↓reduceIte, reduceCtorEq, jA, jB, jC, jD, jE, jF, jG, jH, jI, jJ, jK, tfCtMk, hA]; try simp only [Ex.fold, Ex.foldcs, ← Va.pv.eq_1]
    exact leave_cst hok (.refl m) rfl ⟨.mk 1 0 (r2 - 100) ⟨#[]⟩ [], i2, rfl, .num _ _ (by omega) (by omega), rfl⟩
  · have hk' : r.tmod 10 = 1 := hk
    simp -implicitDefEqProofs only [↓slp, slb, ↓reduceIte, reduceCtorEq, jA, jB, jC, jD, jE, jF, jG, jH, jI, jJ, jK, tfCtMk, hk', hA, c0, hw, Int.reduceBEq, decide_true, decide_false]; try simp only [Ex.fold, Ex.foldcs, ← Va.pv.eq_1]
    (repeat (first | refine aSeq fun X hX => ?_ | refine aBlk ?_ | refine aSkip ?_ | (first | refine aExit ?_ | refine aRet ?_); try simp only [slx, ↓reduceIte, Nat.reduceEqDiff, reduceCtorEq] | (first | refine aReg ?_ | refine aDrE ?_ | refine aIf ?_); simp -implicitDefEqProofs only [forall_eq, ↓slp, slb, ↓reduceIte, reduceCtorEq, jA, jB, jC, jD, jE, jF, jG, jH, jI, jJ, jK, tfCtMk, hk', hA, c0, hw, Int.reduceBEq, decide_true, decide_false]; try simp only [Ex.fold, Ex.foldcs, ← Va.pv.eq_1] | refine hX _ _ ?_; clear hX X | clear hX X; refine hX _ _ ?_; clear hX X | clear hX X; clear hX X; refine hX _ _ ?_; clear hX X | intro hlen; unfold maxLen at hlen | apply And.intro; focus (first | omega | assumption | (repeat' apply And.intro) <;> first | omega | assumption)))
    refine callM (nextC_any p _ (hok.ext _) i') ?_
    rintro v m' ⟨r2, i2, rfl, hr2, rfl⟩
    obtain ⟨t, ht, ht4⟩ := tmod_nat hr2.1 4 (by omega)
    have ht' : r2.tmod 4 = (t : Int) := ht
    simp -implicitDefEqProofs only [↓slp, slb, ↓reduceIte, reduceCtorEq, jA, jB, jC, jD, jE, jF, jG, jH, jI, jJ, jK, tfCtMk, hA, ht']; try simp only [Ex.fold, Ex.foldcs, ← Va.pv.eq_1]
    refine callE (letterC_any t (by omega) _) ?_
    have hz : (strOf [((97 + t : Nat) : Int)]).size = 1 := rfl
    have hz2 : (⟨#[118]⟩ : ByteArray).size = 1 := rfl
    simp -implicitDefEqProofs only [↓slp, slb, ↓reduceIte, reduceCtorEq, jA, jB, jC, jD, jE, jF, jG, jH, jI, jJ, jK, tfCtMk, hA]; try simp only [Ex.fold, Ex.foldcs, ← Va.pv.eq_1]
    refine ⟨by omega, ?_⟩
    refine callE (local_any _ _) ?_
    simp -implicitDefEqProofs only [↓slp, slb, ↓reduceIte, reduceCtorEq, jA, jB, jC, jD, jE, jF, jG, jH, jI, jJ, jK, tfCtMk, hA]; try simp only [Ex.fold, Ex.foldcs, ← Va.pv.eq_1]
    (repeat (first | refine aSeq fun X hX => ?_ | refine aBlk ?_ | refine aSkip ?_ | (first | refine aExit ?_ | refine aRet ?_); try simp only [slx, ↓reduceIte, Nat.reduceEqDiff, reduceCtorEq] | (first | refine aReg ?_ | refine aDrE ?_ | refine aIf ?_); simp -implicitDefEqProofs only [forall_eq, ↓slp, slb, ↓reduceIte, reduceCtorEq, jA, jB, jC, jD, jE, jF, jG, jH, jI, jJ, jK, tfCtMk, hA]; try simp only [Ex.fold, Ex.foldcs, ← Va.pv.eq_1] | refine hX _ _ ?_; clear hX X | clear hX X; refine hX _ _ ?_; clear hX X | clear hX X; clear hX X; refine hX _ _ ?_; clear hX X | intro hlen; unfold maxLen at hlen | apply And.intro; focus (first | omega | assumption | (repeat' apply And.intro) <;> first | omega | assumption)))
    simp only [aPost, Tryd.results5, aRes_n, aRes_t, aRes_c, pack_one, pack_two]
    simp -implicitDefEqProofs only [↓slp, slb, ↓reduceIte, reduceCtorEq, jA, jB, jC, jD, jE, jF, jG, jH, jI, jJ, jK, tfCtMk, hA]; try simp only [Ex.fold, Ex.foldcs, ← Va.pv.eq_1]
    exact leave_cst hok (.refl m) rfl ⟨.mk 2 0 0 (⟨#[118]⟩ ++ strOf [((97 + t : Nat) : Int)]) [], i2, rfl, .loc _ t (by omega), rfl⟩
  · have hk' : r.tmod 10 = 2 := hk
    simp -implicitDefEqProofs only [↓slp, slb, ↓reduceIte, reduceCtorEq, jA, jB, jC, jD, jE, jF, jG, jH, jI, jJ, jK, tfCtMk, hk', hA, c0, hw, Int.reduceBEq, decide_true, decide_false]; try simp only [Ex.fold, Ex.foldcs, ← Va.pv.eq_1]
    (repeat (first | refine aSeq fun X hX => ?_ | refine aBlk ?_ | refine aSkip ?_ | (first | refine aExit ?_ | refine aRet ?_); try simp only [slx, ↓reduceIte, Nat.reduceEqDiff, reduceCtorEq] | (first | refine aReg ?_ | refine aDrE ?_ | refine aIf ?_); simp -implicitDefEqProofs only [forall_eq, ↓slp, slb, ↓reduceIte, reduceCtorEq, jA, jB, jC, jD, jE, jF, jG, jH, jI, jJ, jK, tfCtMk, hk', hA, c0, hw, Int.reduceBEq, decide_true, decide_false]; try simp only [Ex.fold, Ex.foldcs, ← Va.pv.eq_1] | refine hX _ _ ?_; clear hX X | clear hX X; refine hX _ _ ?_; clear hX X | clear hX X; clear hX X; refine hX _ _ ?_; clear hX X | intro hlen; unfold maxLen at hlen | apply And.intro; focus (first | omega | assumption | (repeat' apply And.intro) <;> first | omega | assumption)))
    refine callM (nextC_any p _ (hok.ext _) i') ?_
    rintro v m' ⟨r2, i2, rfl, hr2, rfl⟩
    obtain ⟨t, ht, ht4⟩ := tmod_nat hr2.1 4 (by omega)
    have ht' : r2.tmod 4 = (t : Int) := ht
    simp -implicitDefEqProofs only [↓slp, slb, ↓reduceIte, reduceCtorEq, jA, jB, jC, jD, jE, jF, jG, jH, jI, jJ, jK, tfCtMk, hA, ht']; try simp only [Ex.fold, Ex.foldcs, ← Va.pv.eq_1]
    refine callE (letterC_any t (by omega) _) ?_
    have hz : (strOf [((97 + t : Nat) : Int)]).size = 1 := rfl
    have hz2 : (⟨#[118]⟩ : ByteArray).size = 1 := rfl
    simp -implicitDefEqProofs only [↓slp, slb, ↓reduceIte, reduceCtorEq, jA, jB, jC, jD, jE, jF, jG, jH, jI, jJ, jK, tfCtMk, hA]; try simp only [Ex.fold, Ex.foldcs, ← Va.pv.eq_1]
    refine ⟨by omega, ?_⟩
    refine callE (local_any _ _) ?_
    simp -implicitDefEqProofs only [↓slp, slb, ↓reduceIte, reduceCtorEq, jA, jB, jC, jD, jE, jF, jG, jH, jI, jJ, jK, tfCtMk, hA]; try simp only [Ex.fold, Ex.foldcs, ← Va.pv.eq_1]
    (repeat (first | refine aSeq fun X hX => ?_ | refine aBlk ?_ | refine aSkip ?_ | (first | refine aExit ?_ | refine aRet ?_); try simp only [slx, ↓reduceIte, Nat.reduceEqDiff, reduceCtorEq] | (first | refine aReg ?_ | refine aDrE ?_ | refine aIf ?_); simp -implicitDefEqProofs only [forall_eq, ↓slp, slb, ↓reduceIte, reduceCtorEq, jA, jB, jC, jD, jE, jF, jG, jH, jI, jJ, jK, tfCtMk, hA]; try simp only [Ex.fold, Ex.foldcs, ← Va.pv.eq_1] | refine hX _ _ ?_; clear hX X | clear hX X; refine hX _ _ ?_; clear hX X | clear hX X; clear hX X; refine hX _ _ ?_; clear hX X | intro hlen; unfold maxLen at hlen | apply And.intro; focus (first | omega | assumption | (repeat' apply And.intro) <;> first | omega | assumption)))
    simp only [aPost, Tryd.results5, aRes_n, aRes_t, aRes_c, pack_one, pack_two]
    simp -implicitDefEqProofs only [↓slp, slb, ↓reduceIte, reduceCtorEq, jA, jB, jC, jD, jE, jF, jG, jH, jI, jJ, jK, tfCtMk, hA]; try simp only [Ex.fold, Ex.foldcs, ← Va.pv.eq_1]
    exact leave_cst hok (.refl m) rfl ⟨.mk 2 0 0 (⟨#[118]⟩ ++ strOf [((97 + t : Nat) : Int)]) [], i2, rfl, .loc _ t (by omega), rfl⟩
  · have hk' : r.tmod 10 = 3 := hk
    simp -implicitDefEqProofs only [↓slp, slb, ↓reduceIte, reduceCtorEq, jA, jB, jC, jD, jE, jF, jG, jH, jI, jJ, jK, tfCtMk, hk', hA, c0, hw, Int.reduceBEq, decide_true, decide_false]; try simp only [Ex.fold, Ex.foldcs, ← Va.pv.eq_1]
    (repeat (first | refine aSeq fun X hX => ?_ | refine aBlk ?_ | refine aSkip ?_ | (first | refine aExit ?_ | refine aRet ?_); try simp only [slx, ↓reduceIte, Nat.reduceEqDiff, reduceCtorEq] | (first | refine aReg ?_ | refine aDrE ?_ | refine aIf ?_); simp -implicitDefEqProofs only [forall_eq, ↓slp, slb, ↓reduceIte, reduceCtorEq, jA, jB, jC, jD, jE, jF, jG, jH, jI, jJ, jK, tfCtMk, hk', hA, c0, hw, Int.reduceBEq, decide_true, decide_false]; try simp only [Ex.fold, Ex.foldcs, ← Va.pv.eq_1] | refine hX _ _ ?_; clear hX X | clear hX X; refine hX _ _ ?_; clear hX X | clear hX X; clear hX X; refine hX _ _ ?_; clear hX X | intro hlen; unfold maxLen at hlen | apply And.intro; focus (first | omega | assumption | (repeat' apply And.intro) <;> first | omega | assumption)))
    refine ⟨rfl, ?_⟩
    (repeat (first | refine aSeq fun X hX => ?_ | refine aBlk ?_ | refine aSkip ?_ | (first | refine aExit ?_ | refine aRet ?_); try simp only [slx, ↓reduceIte, Nat.reduceEqDiff, reduceCtorEq] | (first | refine aReg ?_ | refine aDrE ?_ | refine aIf ?_); simp -implicitDefEqProofs only [forall_eq, ↓slp, slb, ↓reduceIte, reduceCtorEq, jA, jB, jC, jD, jE, jF, jG, jH, jI, jJ, jK, tfCtMk, hA]; try simp only [Ex.fold, Ex.foldcs, ← Va.pv.eq_1] | refine hX _ _ ?_; clear hX X | clear hX X; refine hX _ _ ?_; clear hX X | clear hX X; clear hX X; refine hX _ _ ?_; clear hX X | intro hlen; unfold maxLen at hlen | apply And.intro; focus (first | omega | assumption | (repeat' apply And.intro) <;> first | omega | assumption)))
    refine callM (nextC_any p _ (hok.ext _) i') ?_
    rintro v m' ⟨r2, i2, rfl, hr2, rfl⟩
    obtain ⟨t, ht, ht8⟩ := tmod_nat hr2.1 8 (by omega)
    have ht' : r2.tmod 8 = (t : Int) := ht
    obtain ⟨nm, hnm, hnm2⟩ : ∃ nm : Str, [PV.v (.string ⟨#[102, 97]⟩), PV.v (.string ⟨#[102, 98]⟩), PV.v (.string ⟨#[102, 97]⟩), PV.v (.string ⟨#[102, 98]⟩), PV.v (.string ⟨#[102, 97]⟩), PV.v (.string ⟨#[102, 98]⟩), PV.v (.string ⟨#[112]⟩), PV.v (.string ⟨#[110, 111]⟩)].getD t PV.junk = .v (.string nm) ∧ (nm = ⟨#[102, 97]⟩ ∨ nm = ⟨#[102, 98]⟩ ∨ nm = ⟨#[112]⟩ ∨ nm = ⟨#[110, 111]⟩) := name8T t ht8
    simp -implicitDefEqProofs only [↓slp, slb, ↓reduceIte, reduceCtorEq, jA, jB, jC, jD, jE, jF, jG, jH, jI, jJ, jK, tfCtMk, hA, ht', hnm]; try simp only [Ex.fold, Ex.foldcs, ← Va.pv.eq_1]
    (repeat (first | (intro hlen; unfold maxLen at hlen) | (apply And.intro; (focus (first | omega | assumption | trivial | (repeat' apply And.intro) <;> first | omega | assumption | trivial)))))
    (repeat (first | refine aSeq fun X hX => ?_ | refine aBlk ?_ | refine aSkip ?_ | (first | refine aExit ?_ | refine aRet ?_); try simp only [slx, ↓reduceIte, Nat.reduceEqDiff, reduceCtorEq] | (first | refine aReg ?_ | refine aDrE ?_ | refine aIf ?_); simp -implicitDefEqProofs only [forall_eq, ↓slp, slb, ↓reduceIte, reduceCtorEq, jA, jB, jC, jD, jE, jF, jG, jH, jI, jJ, jK, tfCtMk, hA]; try simp only [Ex.fold, Ex.foldcs, ← Va.pv.eq_1] | refine hX _ _ ?_; clear hX X | clear hX X; refine hX _ _ ?_; clear hX X | clear hX X; clear hX X; refine hX _ _ ?_; clear hX X | intro hlen; unfold maxLen at hlen | apply And.intro; focus (first | omega | assumption | (repeat' apply And.intro) <;> first | omega | assumption)))
    simp only [aPost, Tryd.results5, aRes_n, aRes_t, aRes_c, pack_one, pack_two]
    simp -implicitDefEqProofs only [↓slp, slb, ↓reduceIte, reduceCtorEq, jA, jB, jC, jD, jE, jF, jG, jH, jI, jJ, jK, tfCtMk, hA]; try simp only [Ex.fold, Ex.foldcs, ← Va.pv.eq_1]
    exact leave_cst hok (.refl m) rfl ⟨.mk 3 0 0 nm [], i2, rfl, .fld _ nm hnm2, rfl⟩
  · have hk' : r.tmod 10 = 4 := hk
    simp -implicitDefEqProofs only [↓slp, slb, ↓reduceIte, reduceCtorEq, jA, jB, jC, jD, jE, jF, jG, jH, jI, jJ, jK, tfCtMk, hk', hA, c0, hw, Int.reduceBEq, decide_true, decide_false]; try simp only [Ex.fold, Ex.foldcs, ← Va.pv.eq_1]
    (repeat (first | refine aSeq fun X hX => ?_ | refine aBlk ?_ | refine aSkip ?_ | (first | refine aExit ?_ | refine aRet ?_); try simp only [slx, ↓reduceIte, Nat.reduceEqDiff, reduceCtorEq] | (first | refine aReg ?_ | refine aDrE ?_ | refine aIf ?_); simp -implicitDefEqProofs only [forall_eq, ↓slp, slb, ↓reduceIte, reduceCtorEq, jA, jB, jC, jD, jE, jF, jG, jH, jI, jJ, jK, tfCtMk, hk', hA, c0, hw, Int.reduceBEq, decide_true, decide_false]; try simp only [Ex.fold, Ex.foldcs, ← Va.pv.eq_1] | refine hX _ _ ?_; clear hX X | clear hX X; refine hX _ _ ?_; clear hX X | clear hX X; clear hX X; refine hX _ _ ?_; clear hX X | intro hlen; unfold maxLen at hlen | apply And.intro; focus (first | omega | assumption | (repeat' apply And.intro) <;> first | omega | assumption)))
    refine callM (nextC_any p _ (hok.ext _) i') ?_
    rintro v m' ⟨r2, i2, rfl, hr2, rfl⟩
    obtain ⟨t, ht, ht2⟩ := tmod_nat hr2.1 2 (by omega)
    have ht' : r2.tmod 2 = (t : Int) := ht
    have w1 : IntKind.u8.wrap (t : Int) = t := IntWalk.u8_in _ (by omega)
    have w2 : IntKind.u8.wrap (1 + (t : Int)) = 1 + t := IntWalk.u8_in _ (by omega)
    simp -implicitDefEqProofs only [↓slp, slb, ↓reduceIte, reduceCtorEq, jA, jB, jC, jD, jE, jF, jG, jH, jI, jJ, jK, tfCtMk, hA, ht', w1, w2, hw]; try simp only [Ex.fold, Ex.foldcs, ← Va.pv.eq_1]
    refine callM (E p _ (hok.ext _) i2) ?_
    rintro v m' ⟨e1, i3, rfl, g1, rfl⟩
    simp -implicitDefEqProofs only [↓slp, slb, ↓reduceIte, reduceCtorEq, jA, jB, jC, jD, jE, jF, jG, jH, jI, jJ, jK, tfCtMk, hA]; try simp only [Ex.fold, Ex.foldcs, ← Va.pv.eq_1]
    (repeat (first | refine aSeq fun X hX => ?_ | refine aBlk ?_ | refine aSkip ?_ | (first | refine aExit ?_ | refine aRet ?_); try simp only [slx, ↓reduceIte, Nat.reduceEqDiff, reduceCtorEq] | (first | refine aReg ?_ | refine aDrE ?_ | refine aIf ?_); simp -implicitDefEqProofs only [forall_eq, ↓slp, slb, ↓reduceIte, reduceCtorEq, jA, jB, jC, jD, jE, jF, jG, jH, jI, jJ, jK, tfCtMk, hA]; try simp only [Ex.fold, Ex.foldcs, ← Va.pv.eq_1] | refine hX _ _ ?_; clear hX X | clear hX X; refine hX _ _ ?_; clear hX X | clear hX X; clear hX X; refine hX _ _ ?_; clear hX X | intro hlen; unfold maxLen at hlen | apply And.intro; focus (first | omega | assumption | (repeat' apply And.intro) <;> first | omega | assumption)))
    simp only [aPost, Tryd.results5, aRes_n, aRes_t, aRes_c, pack_one, pack_two]
    simp -implicitDefEqProofs only [↓slp, slb, ↓reduceIte, reduceCtorEq, jA, jB, jC, jD, jE, jF, jG, jH, jI, jJ, jK, tfCtMk, hA]; try simp only [Ex.fold, Ex.foldcs, ← Va.pv.eq_1]
    exact leave_cst hok (.refl m) (by simp only [CE.foldcs, CE.fold, PV.settle, PV.settles, CE.settle_pv]; rfl) ⟨.mk 4 (1 + t) 0 ⟨#[]⟩ [e1], i3, by simp only [CE.foldcs, CE.fold, PV.settle, PV.settles, CE.settle_pv]; rfl, (show ((1 : Int) + (t : Int)) = ((1 + t : Nat) : Int) by omega) ▸ TX.un _ (1 + t) e1 (by omega) (by omega) g1, rfl⟩
  · have hk' : r.tmod 10 = 5 := hk
    simp -implicitDefEqProofs only [↓slp, slb, ↓reduceIte, reduceCtorEq, jA, jB, jC, jD, jE, jF, jG, jH, jI, jJ, jK, tfCtMk, hk', hA, c0, hw, Int.reduceBEq, decide_true, decide_false]; try simp only [Ex.fold, Ex.foldcs, ← Va.pv.eq_1]
    (repeat (first | refine aSeq fun X hX => ?_ | refine aBlk ?_ | refine aSkip ?_ | (first | refine aExit ?_ | refine aRet ?_); try simp only [slx, ↓reduceIte, Nat.reduceEqDiff, reduceCtorEq] | (first | refine aReg ?_ | refine aDrE ?_ | refine aIf ?_); simp -implicitDefEqProofs only [forall_eq, ↓slp, slb, ↓reduceIte, reduceCtorEq, jA, jB, jC, jD, jE, jF, jG, jH, jI, jJ, jK, tfCtMk, hk', hA, c0, hw, Int.reduceBEq, decide_true, decide_false]; try simp only [Ex.fold, Ex.foldcs, ← Va.pv.eq_1] | refine hX _ _ ?_; clear hX X | clear hX X; refine hX _ _ ?_; clear hX X | clear hX X; clear hX X; refine hX _ _ ?_; clear hX X | intro hlen; unfold maxLen at hlen | apply And.intro; focus (first | omega | assumption | (repeat' apply And.intro) <;> first | omega | assumption)))
    refine callM (E p _ (hok.ext _) i') ?_
    rintro v m' ⟨e1, i2, rfl, g1, rfl⟩
    simp -implicitDefEqProofs only [↓slp, slb, ↓reduceIte, reduceCtorEq, jA, jB, jC, jD, jE, jF, jG, jH, jI, jJ, jK, tfCtMk, hA, hw]; try simp only [Ex.fold, Ex.foldcs, ← Va.pv.eq_1]
    (repeat (first | refine aSeq fun X hX => ?_ | refine aBlk ?_ | refine aSkip ?_ | (first | refine aExit ?_ | refine aRet ?_); try simp only [slx, ↓reduceIte, Nat.reduceEqDiff, reduceCtorEq] | (first | refine aReg ?_ | refine aDrE ?_ | refine aIf ?_); simp -implicitDefEqProofs only [forall_eq, ↓slp, slb, ↓reduceIte, reduceCtorEq, jA, jB, jC, jD, jE, jF, jG, jH, jI, jJ, jK, tfCtMk, hA, hw]; try simp only [Ex.fold, Ex.foldcs, ← Va.pv.eq_1] | refine hX _ _ ?_; clear hX X | clear hX X; refine hX _ _ ?_; clear hX X | clear hX X; clear hX X; refine hX _ _ ?_; clear hX X | intro hlen; unfold maxLen at hlen | apply And.intro; focus (first | omega | assumption | (repeat' apply And.intro) <;> first | omega | assumption)))
    refine callM (E p _ (hok.ext _) i2) ?_
    rintro v m' ⟨e2, i3, rfl, g2, rfl⟩
    simp -implicitDefEqProofs only [↓slp, slb, ↓reduceIte, reduceCtorEq, jA, jB, jC, jD, jE, jF, jG, jH, jI, jJ, jK, tfCtMk, hA, hw]; try simp only [Ex.fold, Ex.foldcs, ← Va.pv.eq_1]
    (repeat (first | refine aSeq fun X hX => ?_ | refine aBlk ?_ | refine aSkip ?_ | (first | refine aExit ?_ | refine aRet ?_); try simp only [slx, ↓reduceIte, Nat.reduceEqDiff, reduceCtorEq] | (first | refine aReg ?_ | refine aIf ?_); simp -implicitDefEqProofs only [forall_eq, ↓slp, slb, ↓reduceIte, reduceCtorEq, jA, jB, jC, jD, jE, jF, jG, jH, jI, jJ, jK, tfCtMk, hA, hw]; try simp only [Ex.fold, Ex.foldcs, ← Va.pv.eq_1] | refine hX _ _ ?_; clear hX X | clear hX X; refine hX _ _ ?_; clear hX X | clear hX X; clear hX X; refine hX _ _ ?_; clear hX X | intro hlen; unfold maxLen at hlen | apply And.intro; focus (first | omega | assumption | (repeat' apply And.intro) <;> first | omega | assumption)))
    refine aDrw (fun _ => True) (by kernel_rfl) trivial ?_
    simp -implicitDefEqProofs only [↓slp, slb, ↓reduceIte, reduceCtorEq, jA, jB, jC, jD, jE, jF, jG, jH, jI, jJ, jK, tfCtMk, hA, hw]; try simp only [Ex.fold, Ex.foldcs, ← Va.pv.eq_1]
    refine callM (E p _ (hok.ext _) i3) ?_
    rintro v m' ⟨e3, i4, rfl, g3, rfl⟩
    refine ⟨trivial, ?_⟩
    simp -implicitDefEqProofs only [↓slp, slb, ↓reduceIte, reduceCtorEq, jA, jB, jC, jD, jE, jF, jG, jH, jI, jJ, jK, tfCtMk, hA]; try simp only [Ex.fold, Ex.foldcs, ← Va.pv.eq_1]
    (repeat (first | refine aSeq fun X hX => ?_ | refine aBlk ?_ | refine aSkip ?_ | (first | refine aExit ?_ | refine aRet ?_); try simp only [slx, ↓reduceIte, Nat.reduceEqDiff, reduceCtorEq] | (first | refine aReg ?_ | refine aDrE ?_ | refine aIf ?_); simp -implicitDefEqProofs only [forall_eq, ↓slp, slb, ↓reduceIte, reduceCtorEq, jA, jB, jC, jD, jE, jF, jG, jH, jI, jJ, jK, tfCtMk, hA]; try simp only [Ex.fold, Ex.foldcs, ← Va.pv.eq_1] | refine hX _ _ ?_; clear hX X | clear hX X; refine hX _ _ ?_; clear hX X | clear hX X; clear hX X; refine hX _ _ ?_; clear hX X | intro hlen; unfold maxLen at hlen | apply And.intro; focus (first | omega | assumption | (repeat' apply And.intro) <;> first | omega | assumption)))
    simp only [aPost, Tryd.results5, aRes_n, aRes_t, aRes_c, pack_one, pack_two]
    simp -implicitDefEqProofs only [↓slp, slb, ↓reduceIte, reduceCtorEq, jA, jB, jC, jD, jE, jF, jG, jH, jI, jJ, jK, tfCtMk, hA]; try simp only [Ex.fold, Ex.foldcs, ← Va.pv.eq_1]
    exact leave_cst hok (.refl m) (by simp only [CE.foldcs, CE.fold, PV.settle, PV.settles, CE.settle_pv]; rfl) ⟨.mk 6 0 0 ⟨#[]⟩ [e1, e2, e3], i4, by simp only [CE.foldcs, CE.fold, PV.settle, PV.settles, CE.settle_pv]; rfl, .cond _ e1 e2 e3 g1 g2 g3, rfl⟩
  · have hk' : r.tmod 10 = 6 := hk
    simp -implicitDefEqProofs only [↓slp, slb, ↓reduceIte, reduceCtorEq, jA, jB, jC, jD, jE, jF, jG, jH, jI, jJ, jK, tfCtMk, hk', hA, c0, hw, Int.reduceBEq, decide_true, decide_false]; try simp only [Ex.fold, Ex.foldcs, ← Va.pv.eq_1]
    (repeat (first | refine aSeq fun X hX => ?_ | refine aBlk ?_ | refine aSkip ?_ | (first | refine aExit ?_ | refine aRet ?_); try simp only [slx, ↓reduceIte, Nat.reduceEqDiff, reduceCtorEq] | (first | refine aReg ?_ | refine aDrE ?_ | refine aIf ?_); simp -implicitDefEqProofs only [forall_eq, ↓slp, slb, ↓reduceIte, reduceCtorEq, jA, jB, jC, jD, jE, jF, jG, jH, jI, jJ, jK, tfCtMk, hk', hA, c0, hw, Int.reduceBEq, decide_true, decide_false]; try simp only [Ex.fold, Ex.foldcs, ← Va.pv.eq_1] | refine hX _ _ ?_; clear hX X | clear hX X; refine hX _ _ ?_; clear hX X | clear hX X; clear hX X; refine hX _ _ ?_; clear hX X | intro hlen; unfold maxLen at hlen | apply And.intro; focus (first | omega | assumption | (repeat' apply And.intro) <;> first | omega | assumption)))
    refine callM (nextC_any p _ (hok.ext _) i') ?_
    rintro v m' ⟨r2, i2, rfl, hr2, rfl⟩
    cases c6 : (r2.tmod 16 == 0) with
    | true =>
      simp -implicitDefEqProofs only [↓slp, slb, ↓reduceIte, reduceCtorEq, jA, jB, jC, jD, jE, jF, jG, jH, jI, jJ, jK, tfCtMk, hA, c6, hw]; try simp only [Ex.fold, Ex.foldcs, ← Va.pv.eq_1]
      (repeat (first | refine aSeq fun X hX => ?_ | refine aBlk ?_ | refine aSkip ?_ | (first | refine aExit ?_ | refine aRet ?_); try simp only [slx, ↓reduceIte, Nat.reduceEqDiff, reduceCtorEq] | (first | refine aReg ?_ | refine aDrE ?_ | refine aIf ?_); simp -implicitDefEqProofs only [forall_eq, ↓slp, slb, ↓reduceIte, reduceCtorEq, jA, jB, jC, jD, jE, jF, jG, jH, jI, jJ, jK, tfCtMk, hA, c6, hw]; try simp only [Ex.fold, Ex.foldcs, ← Va.pv.eq_1] | refine hX _ _ ?_; clear hX X | clear hX X; refine hX _ _ ?_; clear hX X | clear hX X; clear hX X; refine hX _ _ ?_; clear hX X | intro hlen; unfold maxLen at hlen | apply And.intro; focus (first | omega | assumption | (repeat' apply And.intro) <;> first | omega | assumption)))
      refine callM (nextC_any p _ (hok.ext _) i2) ?_
      rintro v m' ⟨r3, i3, rfl, hr3, rfl⟩
      obtain ⟨t, ht, ht9⟩ := tmod_nat hr3.1 9 (by omega)
      have ht' : r3.tmod 9 = (t : Int) := ht
      have w1 : IntKind.u8.wrap (t : Int) = t := IntWalk.u8_in _ (by omega)
      simp -implicitDefEqProofs only [↓slp, slb, ↓reduceIte, reduceCtorEq, jA, jB, jC, jD, jE, jF, jG, jH, jI, jJ, jK, tfCtMk, hA, ht', w1]; try simp only [Ex.fold, Ex.foldcs, ← Va.pv.eq_1]
      refine callE (num_any _ _) ?_
      simp -implicitDefEqProofs only [↓slp, slb, ↓reduceIte, reduceCtorEq, jA, jB, jC, jD, jE, jF, jG, jH, jI, jJ, jK, tfCtMk, hA]; try simp only [Ex.fold, Ex.foldcs, ← Va.pv.eq_1]
      (repeat (first | refine aSeq fun X hX => ?_ | refine aBlk ?_ | refine aSkip ?_ | (first | refine aExit ?_ | refine aRet ?_); try simp only [slx, ↓reduceIte, Nat.reduceEqDiff, reduceCtorEq] | (first | refine aReg ?_ | refine aDrE ?_ | refine aIf ?_); simp -implicitDefEqProofs only [forall_eq, ↓slp, slb, ↓reduceIte, reduceCtorEq, jA, jB, jC, jD, jE, jF, jG, jH, jI, jJ, jK, tfCtMk, hA]; try simp only [Ex.fold, Ex.foldcs, ← Va.pv.eq_1] | refine hX _ _ ?_; clear hX X | clear hX X; refine hX _ _ ?_; clear hX X | clear hX X; clear hX X; refine hX _ _ ?_; clear hX X | intro hlen; unfold maxLen at hlen | apply And.intro; focus (first | omega | assumption | (repeat' apply And.intro) <;> first | omega | assumption)))
      simp only [aPost, Tryd.results5, aRes_n, aRes_t, aRes_c, pack_one, pack_two]
      simp -implicitDefEqProofs only [↓slp, slb, ↓reduceIte, reduceCtorEq, jA, jB, jC, jD, jE, jF, jG, jH, jI, jJ, jK, tfCtMk, hA]; try simp only [Ex.fold, Ex.foldcs, ← Va.pv.eq_1]
      exact leave_cst hok (.refl m) (by simp only [CE.foldcs, CE.fold, PV.settle, PV.settles, CE.settle_pv]; rfl) ⟨.mk t 0 0 ⟨#[]⟩ [.mk 1 0 1 ⟨#[]⟩ []], i3, by simp only [CE.foldcs, CE.fold, PV.settle, PV.settles, CE.settle_pv]; rfl, .odd _ t ht9, rfl⟩
    | false =>
      simp -implicitDefEqProofs only [↓slp, slb, ↓reduceIte, reduceCtorEq, jA, jB, jC, jD, jE, jF, jG, jH, jI, jJ, jK, tfCtMk, hA, c6, hw]; try simp only [Ex.fold, Ex.foldcs, ← Va.pv.eq_1]
      (repeat (first | refine aSeq fun X hX => ?_ | refine aBlk ?_ | refine aSkip ?_ | (first | refine aExit ?_ | refine aRet ?_); try simp only [slx, ↓reduceIte, Nat.reduceEqDiff, reduceCtorEq] | (first | refine aReg ?_ | refine aDrE ?_ | refine aIf ?_); simp -implicitDefEqProofs only [forall_eq, ↓slp, slb, ↓reduceIte, reduceCtorEq, jA, jB, jC, jD, jE, jF, jG, jH, jI, jJ, jK, tfCtMk, hA, c6, hw]; try simp only [Ex.fold, Ex.foldcs, ← Va.pv.eq_1] | refine hX _ _ ?_; clear hX X | clear hX X; refine hX _ _ ?_; clear hX X | clear hX X; clear hX X; refine hX _ _ ?_; clear hX X | intro hlen; unfold maxLen at hlen | apply And.intro; focus (first | omega | assumption | (repeat' apply And.intro) <;> first | omega | assumption)))
      refine callM (nextC_any p _ (hok.ext _) i2) ?_
      rintro v m' ⟨s2, j2, rfl, hs2, rfl⟩
      obtain ⟨u, hu, hu14⟩ := tmod_nat hs2.1 14 (by omega)
      have hu' : s2.tmod 14 = (u : Int) := hu
      have w3 : IntKind.u8.wrap (u : Int) = u := IntWalk.u8_in _ (by omega)
      have w4 : IntKind.u8.wrap (3 + (u : Int)) = 3 + u := IntWalk.u8_in _ (by omega)
      simp -implicitDefEqProofs only [↓slp, slb, ↓reduceIte, reduceCtorEq, jA, jB, jC, jD, jE, jF, jG, jH, jI, jJ, jK, tfCtMk, hA, hu', w3, w4, hw]; try simp only [Ex.fold, Ex.foldcs, ← Va.pv.eq_1]
      (repeat (first | refine aSeq fun X hX => ?_ | refine aBlk ?_ | refine aSkip ?_ | (first | refine aExit ?_ | refine aRet ?_); try simp only [slx, ↓reduceIte, Nat.reduceEqDiff, reduceCtorEq] | (first | refine aReg ?_ | refine aDrE ?_ | refine aIf ?_); simp -implicitDefEqProofs only [forall_eq, ↓slp, slb, ↓reduceIte, reduceCtorEq, jA, jB, jC, jD, jE, jF, jG, jH, jI, jJ, jK, tfCtMk, hA, hu', w3, w4, hw]; try simp only [Ex.fold, Ex.foldcs, ← Va.pv.eq_1] | refine hX _ _ ?_; clear hX X | clear hX X; refine hX _ _ ?_; clear hX X | clear hX X; clear hX X; refine hX _ _ ?_; clear hX X | intro hlen; unfold maxLen at hlen | apply And.intro; focus (first | omega | assumption | (repeat' apply And.intro) <;> first | omega | assumption)))
      refine callM (E p _ (hok.ext _) j2) ?_
      rintro v m' ⟨e1, i2, rfl, g1, rfl⟩
      simp -implicitDefEqProofs only [↓slp, slb, ↓reduceIte, reduceCtorEq, jA, jB, jC, jD, jE, jF, jG, jH, jI, jJ, jK, tfCtMk, hA, hw]; try simp only [Ex.fold, Ex.foldcs, ← Va.pv.eq_1]
      (repeat (first | refine aSeq fun X hX => ?_ | refine aBlk ?_ | refine aSkip ?_ | (first | refine aExit ?_ | refine aRet ?_); try simp only [slx, ↓reduceIte, Nat.reduceEqDiff, reduceCtorEq] | (first | refine aReg ?_ | refine aIf ?_); simp -implicitDefEqProofs only [forall_eq, ↓slp, slb, ↓reduceIte, reduceCtorEq, jA, jB, jC, jD, jE, jF, jG, jH, jI, jJ, jK, tfCtMk, hA, hw]; try simp only [Ex.fold, Ex.foldcs, ← Va.pv.eq_1] | refine hX _ _ ?_; clear hX X | clear hX X; refine hX _ _ ?_; clear hX X | clear hX X; clear hX X; refine hX _ _ ?_; clear hX X | intro hlen; unfold maxLen at hlen | apply And.intro; focus (first | omega | assumption | (repeat' apply And.intro) <;> first | omega | assumption)))
      refine aDrw (fun _ => True) (by kernel_rfl) trivial ?_
      simp -implicitDefEqProofs only [↓slp, slb, ↓reduceIte, reduceCtorEq, jA, jB, jC, jD, jE, jF, jG, jH, jI, jJ, jK, tfCtMk, hA, hw]; try simp only [Ex.fold, Ex.foldcs, ← Va.pv.eq_1]
      refine callM (E p _ (hok.ext _) i2) ?_
      rintro v m' ⟨e2, i3, rfl, g2, rfl⟩
      refine ⟨trivial, ?_⟩
      simp -implicitDefEqProofs only [↓slp, slb, ↓reduceIte, reduceCtorEq, jA, jB, jC, jD, jE, jF, jG, jH, jI, jJ, jK, tfCtMk, hA]; try simp only [Ex.fold, Ex.foldcs, ← Va.pv.eq_1]
      (repeat (first | refine aSeq fun X hX => ?_ | refine aBlk ?_ | refine aSkip ?_ | (first | refine aExit ?_ | refine aRet ?_); try simp only [slx, ↓reduceIte, Nat.reduceEqDiff, reduceCtorEq] | (first | refine aReg ?_ | refine aDrE ?_ | refine aIf ?_); simp -implicitDefEqProofs only [forall_eq, ↓slp, slb, ↓reduceIte, reduceCtorEq, jA, jB, jC, jD, jE, jF, jG, jH, jI, jJ, jK, tfCtMk, hA]; try simp only [Ex.fold, Ex.foldcs, ← Va.pv.eq_1] | refine hX _ _ ?_; clear hX X | clear hX X; refine hX _ _ ?_; clear hX X | clear hX X; clear hX X; refine hX _ _ ?_; clear hX X | intro hlen; unfold maxLen at hlen | apply And.intro; focus (first | omega | assumption | (repeat' apply And.intro) <;> first | omega | assumption)))
      simp only [aPost, Tryd.results5, aRes_n, aRes_t, aRes_c, pack_one, pack_two]
      simp -implicitDefEqProofs only [↓slp, slb, ↓reduceIte, reduceCtorEq, jA, jB, jC, jD, jE, jF, jG, jH, jI, jJ, jK, tfCtMk, hA]; try simp only [Ex.fold, Ex.foldcs, ← Va.pv.eq_1]
      exact leave_cst hok (.refl m) (by simp only [CE.foldcs, CE.fold, PV.settle, PV.settles, CE.settle_pv]; rfl) ⟨.mk 5 (3 + u) 0 ⟨#[]⟩ [e1, e2], i3, by simp only [CE.foldcs, CE.fold, PV.settle, PV.settles, CE.settle_pv]; rfl, (show ((3 : Int) + (u : Int)) = ((3 + u : Nat) : Int) by omega) ▸ TX.bin _ (3 + u) e1 e2 (by omega) (by omega) g1 g2, rfl⟩
  · have hk' : r.tmod 10 = 7 := hk
    simp -implicitDefEqProofs only [↓slp, slb, ↓reduceIte, reduceCtorEq, jA, jB, jC, jD, jE, jF, jG, jH, jI, jJ, jK, tfCtMk, hk', hA, c0, hw, Int.reduceBEq, decide_true, decide_false]; try simp only [Ex.fold, Ex.foldcs, ← Va.pv.eq_1]
    (repeat (first | refine aSeq fun X hX => ?_ | refine aBlk ?_ | refine aSkip ?_ | (first | refine aExit ?_ | refine aRet ?_); try simp only [slx, ↓reduceIte, Nat.reduceEqDiff, reduceCtorEq] | (first | refine aReg ?_ | refine aDrE ?_ | refine aIf ?_); simp -implicitDefEqProofs only [forall_eq, ↓slp, slb, ↓reduceIte, reduceCtorEq, jA, jB, jC, jD, jE, jF, jG, jH, jI, jJ, jK, tfCtMk, hk', hA, c0, hw, Int.reduceBEq, decide_true, decide_false]; try simp only [Ex.fold, Ex.foldcs, ← Va.pv.eq_1] | refine hX _ _ ?_; clear hX X | clear hX X; refine hX _ _ ?_; clear hX X | clear hX X; clear hX X; refine hX _ _ ?_; clear hX X | intro hlen; unfold maxLen at hlen | apply And.intro; focus (first | omega | assumption | (repeat' apply And.intro) <;> first | omega | assumption)))
    refine callM (nextC_any p _ (hok.ext _) i') ?_
    rintro v m' ⟨s2, j2, rfl, hs2, rfl⟩
    obtain ⟨u, hu, hu14⟩ := tmod_nat hs2.1 14 (by omega)
    have hu' : s2.tmod 14 = (u : Int) := hu
    have w3 : IntKind.u8.wrap (u : Int) = u := IntWalk.u8_in _ (by omega)
    have w4 : IntKind.u8.wrap (3 + (u : Int)) = 3 + u := IntWalk.u8_in _ (by omega)
    simp -implicitDefEqProofs only [↓slp, slb, ↓reduceIte, reduceCtorEq, jA, jB, jC, jD, jE, jF, jG, jH, jI, jJ, jK, tfCtMk, hA, hu', w3, w4, hw]; try simp only [Ex.fold, Ex.foldcs, ← Va.pv.eq_1]
    (repeat (first | refine aSeq fun X hX => ?_ | refine aBlk ?_ | refine aSkip ?_ | (first | refine aExit ?_ | refine aRet ?_); try simp only [slx, ↓reduceIte, Nat.reduceEqDiff, reduceCtorEq] | (first | refine aReg ?_ | refine aDrE ?_ | refine aIf ?_); simp -implicitDefEqProofs only [forall_eq, ↓slp, slb, ↓reduceIte, reduceCtorEq, jA, jB, jC, jD, jE, jF, jG, jH, jI, jJ, jK, tfCtMk, hA, hu', w3, w4, hw]; try simp only [Ex.fold, Ex.foldcs, ← Va.pv.eq_1] | refine hX _ _ ?_; clear hX X | clear hX X; refine hX _ _ ?_; clear hX X | clear hX X; clear hX X; refine hX _ _ ?_; clear hX X | intro hlen; unfold maxLen at hlen | apply And.intro; focus (first | omega | assumption | (repeat' apply And.intro) <;> first | omega | assumption)))
    refine callM (E p _ (hok.ext _) j2) ?_
    rintro v m' ⟨e1, i2, rfl, g1, rfl⟩
    simp -implicitDefEqProofs only [↓slp, slb, ↓reduceIte, reduceCtorEq, jA, jB, jC, jD, jE, jF, jG, jH, jI, jJ, jK, tfCtMk, hA, hw]; try simp only [Ex.fold, Ex.foldcs, ← Va.pv.eq_1]
    (repeat (first | refine aSeq fun X hX => ?_ | refine aBlk ?_ | refine aSkip ?_ | (first | refine aExit ?_ | refine aRet ?_); try simp only [slx, ↓reduceIte, Nat.reduceEqDiff, reduceCtorEq] | (first | refine aReg ?_ | refine aIf ?_); simp -implicitDefEqProofs only [forall_eq, ↓slp, slb, ↓reduceIte, reduceCtorEq, jA, jB, jC, jD, jE, jF, jG, jH, jI, jJ, jK, tfCtMk, hA, hw]; try simp only [Ex.fold, Ex.foldcs, ← Va.pv.eq_1] | refine hX _ _ ?_; clear hX X | clear hX X; refine hX _ _ ?_; clear hX X | clear hX X; clear hX X; refine hX _ _ ?_; clear hX X | intro hlen; unfold maxLen at hlen | apply And.intro; focus (first | omega | assumption | (repeat' apply And.intro) <;> first | omega | assumption)))
    refine aDrw (fun _ => True) (by kernel_rfl) trivial ?_
    simp -implicitDefEqProofs only [↓slp, slb, ↓reduceIte, reduceCtorEq, jA, jB, jC, jD, jE, jF, jG, jH, jI, jJ, jK, tfCtMk, hA, hw]; try simp only [Ex.fold, Ex.foldcs, ← Va.pv.eq_1]
    refine callM (E p _ (hok.ext _) i2) ?_
    rintro v m' ⟨e2, i3, rfl, g2, rfl⟩
    refine ⟨trivial, ?_⟩
    simp -implicitDefEqProofs only [↓slp, slb, ↓reduceIte, reduceCtorEq, jA, jB, jC, jD, jE, jF, jG, jH, jI, jJ, jK, tfCtMk, hA]; try simp only [Ex.fold, Ex.foldcs, ← Va.pv.eq_1]
    (repeat (first | refine aSeq fun X hX => ?_ | refine aBlk ?_ | refine aSkip ?_ | (first | refine aExit ?_ | refine aRet ?_); try simp only [slx, ↓reduceIte, Nat.reduceEqDiff, reduceCtorEq] | (first | refine aReg ?_ | refine aDrE ?_ | refine aIf ?_); simp -implicitDefEqProofs only [forall_eq, ↓slp, slb, ↓reduceIte, reduceCtorEq, jA, jB, jC, jD, jE, jF, jG, jH, jI, jJ, jK, tfCtMk, hA]; try simp only [Ex.fold, Ex.foldcs, ← Va.pv.eq_1] | refine hX _ _ ?_; clear hX X | clear hX X; refine hX _ _ ?_; clear hX X | clear hX X; clear hX X; refine hX _ _ ?_; clear hX X | intro hlen; unfold maxLen at hlen | apply And.intro; focus (first | omega | assumption | (repeat' apply And.intro) <;> first | omega | assumption)))
    simp only [aPost, Tryd.results5, aRes_n, aRes_t, aRes_c, pack_one, pack_two]
    simp -implicitDefEqProofs only [↓slp, slb, ↓reduceIte, reduceCtorEq, jA, jB, jC, jD, jE, jF, jG, jH, jI, jJ, jK, tfCtMk, hA]; try simp only [Ex.fold, Ex.foldcs, ← Va.pv.eq_1]
    exact leave_cst hok (.refl m) (by simp only [CE.foldcs, CE.fold, PV.settle, PV.settles, CE.settle_pv]; rfl) ⟨.mk 5 (3 + u) 0 ⟨#[]⟩ [e1, e2], i3, by simp only [CE.foldcs, CE.fold, PV.settle, PV.settles, CE.settle_pv]; rfl, (show ((3 : Int) + (u : Int)) = ((3 + u : Nat) : Int) by omega) ▸ TX.bin _ (3 + u) e1 e2 (by omega) (by omega) g1 g2, rfl⟩
  · have hk' : r.tmod 10 = 8 := hk
    simp -implicitDefEqProofs only [↓slp, slb, ↓reduceIte, reduceCtorEq, jA, jB, jC, jD, jE, jF, jG, jH, jI, jJ, jK, tfCtMk, hk', hA, c0, hw, Int.reduceBEq, decide_true, decide_false]; try simp only [Ex.fold, Ex.foldcs, ← Va.pv.eq_1]
    (repeat (first | refine aSeq fun X hX => ?_ | refine aBlk ?_ | refine aSkip ?_ | (first | refine aExit ?_ | refine aRet ?_); try simp only [slx, ↓reduceIte, Nat.reduceEqDiff, reduceCtorEq] | (first | refine aReg ?_ | refine aDrE ?_ | refine aIf ?_); simp -implicitDefEqProofs only [forall_eq, ↓slp, slb, ↓reduceIte, reduceCtorEq, jA, jB, jC, jD, jE, jF, jG, jH, jI, jJ, jK, tfCtMk, hk', hA, c0, hw, Int.reduceBEq, decide_true, decide_false]; try simp only [Ex.fold, Ex.foldcs, ← Va.pv.eq_1] | refine hX _ _ ?_; clear hX X | clear hX X; refine hX _ _ ?_; clear hX X | clear hX X; clear hX X; refine hX _ _ ?_; clear hX X | intro hlen; unfold maxLen at hlen | apply And.intro; focus (first | omega | assumption | (repeat' apply And.intro) <;> first | omega | assumption)))
    refine callM (nextC_any p _ (hok.ext _) i') ?_
    rintro v m' ⟨s2, j2, rfl, hs2, rfl⟩
    obtain ⟨u, hu, hu14⟩ := tmod_nat hs2.1 14 (by omega)
    have hu' : s2.tmod 14 = (u : Int) := hu
    have w3 : IntKind.u8.wrap (u : Int) = u := IntWalk.u8_in _ (by omega)
    have w4 : IntKind.u8.wrap (3 + (u : Int)) = 3 + u := IntWalk.u8_in _ (by omega)
    simp -implicitDefEqProofs only [↓slp, slb, ↓reduceIte, reduceCtorEq, jA, jB, jC, jD, jE, jF, jG, jH, jI, jJ, jK, tfCtMk, hA, hu', w3, w4, hw]; try simp only [Ex.fold, Ex.foldcs, ← Va.pv.eq_1]
    (repeat (first | refine aSeq fun X hX => ?_ | refine aBlk ?_ | refine aSkip ?_ | (first | refine aExit ?_ | refine aRet ?_); try simp only [slx, ↓reduceIte, Nat.reduceEqDiff, reduceCtorEq] | (first | refine aReg ?_ | refine aDrE ?_ | refine aIf ?_); simp -implicitDefEqProofs only [forall_eq, ↓slp, slb, ↓reduceIte, reduceCtorEq, jA, jB, jC, jD, jE, jF, jG, jH, jI, jJ, jK, tfCtMk, hA, hu', w3, w4, hw]; try simp only [Ex.fold, Ex.foldcs, ← Va.pv.eq_1] | refine hX _ _ ?_; clear hX X | clear hX X; refine hX _ _ ?_; clear hX X | clear hX X; clear hX X; refine hX _ _ ?_; clear hX X | intro hlen; unfold maxLen at hlen | apply And.intro; focus (first | omega | assumption | (repeat' apply And.intro) <;> first | omega | assumption)))
    refine callM (E p _ (hok.ext _) j2) ?_
    rintro v m' ⟨e1, i2, rfl, g1, rfl⟩
    simp -implicitDefEqProofs only [↓slp, slb, ↓reduceIte, reduceCtorEq, jA, jB, jC, jD, jE, jF, jG, jH, jI, jJ, jK, tfCtMk, hA, hw]; try simp only [Ex.fold, Ex.foldcs, ← Va.pv.eq_1]
    (repeat (first | refine aSeq fun X hX => ?_ | refine aBlk ?_ | refine aSkip ?_ | (first | refine aExit ?_ | refine aRet ?_); try simp only [slx, ↓reduceIte, Nat.reduceEqDiff, reduceCtorEq] | (first | refine aReg ?_ | refine aIf ?_); simp -implicitDefEqProofs only [forall_eq, ↓slp, slb, ↓reduceIte, reduceCtorEq, jA, jB, jC, jD, jE, jF, jG, jH, jI, jJ, jK, tfCtMk, hA, hw]; try simp only [Ex.fold, Ex.foldcs, ← Va.pv.eq_1] | refine hX _ _ ?_; clear hX X | clear hX X; refine hX _ _ ?_; clear hX X | clear hX X; clear hX X; refine hX _ _ ?_; clear hX X | intro hlen; unfold maxLen at hlen | apply And.intro; focus (first | omega | assumption | (repeat' apply And.intro) <;> first | omega | assumption)))
    refine aDrw (fun _ => True) (by kernel_rfl) trivial ?_
    simp -implicitDefEqProofs only [↓slp, slb, ↓reduceIte, reduceCtorEq, jA, jB, jC, jD, jE, jF, jG, jH, jI, jJ, jK, tfCtMk, hA, hw]; try simp only [Ex.fold, Ex.foldcs, ← Va.pv.eq_1]
    refine callM (E p _ (hok.ext _) i2) ?_
    rintro v m' ⟨e2, i3, rfl, g2, rfl⟩
    refine ⟨trivial, ?_⟩
    simp -implicitDefEqProofs only [↓slp, slb, ↓reduceIte, reduceCtorEq, jA, jB, jC, jD, jE, jF, jG, jH, jI, jJ, jK, tfCtMk, hA]; try simp only [Ex.fold, Ex.foldcs, ← Va.pv.eq_1]
    (repeat (first | refine aSeq fun X hX => ?_ | refine aBlk ?_ | refine aSkip ?_ | (first | refine aExit ?_ | refine aRet ?_); try simp only [slx, ↓reduceIte, Nat.reduceEqDiff, reduceCtorEq] | (first | refine aReg ?_ | refine aDrE ?_ | refine aIf ?_); simp -implicitDefEqProofs only [forall_eq, ↓slp, slb, ↓reduceIte, reduceCtorEq, jA, jB, jC, jD, jE, jF, jG, jH, jI, jJ, jK, tfCtMk, hA]; try simp only [Ex.fold, Ex.foldcs, ← Va.pv.eq_1] | refine hX _ _ ?_; clear hX X | clear hX X; refine hX _ _ ?_; clear hX X | clear hX X; clear hX X; refine hX _ _ ?_; clear hX X | intro hlen; unfold maxLen at hlen | apply And.intro; focus (first | omega | assumption | (repeat' apply And.intro) <;> first | omega | assumption)))
    simp only [aPost, Tryd.results5, aRes_n, aRes_t, aRes_c, pack_one, pack_two]
    simp -implicitDefEqProofs only [↓slp, slb, ↓reduceIte, reduceCtorEq, jA, jB, jC, jD, jE, jF, jG, jH, jI, jJ, jK, tfCtMk, hA]; try simp only [Ex.fold, Ex.foldcs, ← Va.pv.eq_1]
    exact leave_cst hok (.refl m) (by simp only [CE.foldcs, CE.fold, PV.settle, PV.settles, CE.settle_pv]; rfl) ⟨.mk 5 (3 + u) 0 ⟨#[]⟩ [e1, e2], i3, by simp only [CE.foldcs, CE.fold, PV.settle, PV.settles, CE.settle_pv]; rfl, (show ((3 : Int) + (u : Int)) = ((3 + u : Nat) : Int) by omega) ▸ TX.bin _ (3 + u) e1 e2 (by omega) (by omega) g1 g2, rfl⟩
  · have hk' : r.tmod 10 = 9 := hk
    simp -implicitDefEqProofs only [↓slp, slb, ↓reduceIte, reduceCtorEq, jA, jB, jC, jD, jE, jF, jG, jH, jI, jJ, jK, tfCtMk, hk', hA, c0, hw, Int.reduceBEq, decide_true, decide_false]; try simp only [Ex.fold, Ex.foldcs, ← Va.pv.eq_1]
    (repeat (first | refine aSeq fun X hX => ?_ | refine aBlk ?_ | refine aSkip ?_ | (first | refine aExit ?_ | refine aRet ?_); try simp only [slx, ↓reduceIte, Nat.reduceEqDiff, reduceCtorEq] | (first | refine aReg ?_ | refine aDrE ?_ | refine aIf ?_); simp -implicitDefEqProofs only [forall_eq, ↓slp, slb, ↓reduceIte, reduceCtorEq, jA, jB, jC, jD, jE, jF, jG, jH, jI, jJ, jK, tfCtMk, hk', hA, c0, hw, Int.reduceBEq, decide_true, decide_false]; try simp only [Ex.fold, Ex.foldcs, ← Va.pv.eq_1] | refine hX _ _ ?_; clear hX X | clear hX X; refine hX _ _ ?_; clear hX X | clear hX X; clear hX X; refine hX _ _ ?_; clear hX X | intro hlen; unfold maxLen at hlen | apply And.intro; focus (first | omega | assumption | (repeat' apply And.intro) <;> first | omega | assumption)))
    refine callM (nextC_any p _ (hok.ext _) i') ?_
    rintro v m' ⟨s2, j2, rfl, hs2, rfl⟩
    obtain ⟨u, hu, hu14⟩ := tmod_nat hs2.1 14 (by omega)
    have hu' : s2.tmod 14 = (u : Int) := hu
    have w3 : IntKind.u8.wrap (u : Int) = u := IntWalk.u8_in _ (by omega)
    have w4 : IntKind.u8.wrap (3 + (u : Int)) = 3 + u := IntWalk.u8_in _ (by omega)
    simp -implicitDefEqProofs only [↓slp, slb, ↓reduceIte, reduceCtorEq, jA, jB, jC, jD, jE, jF, jG, jH, jI, jJ, jK, tfCtMk, hA, hu', w3, w4, hw]; try simp only [Ex.fold, Ex.foldcs, ← Va.pv.eq_1]
    (repeat (first | refine aSeq fun X hX => ?_ | refine aBlk ?_ | refine aSkip ?_ | (first | refine aExit ?_ | refine aRet ?_); try simp only [slx, ↓reduceIte, Nat.reduceEqDiff, reduceCtorEq] | (first | refine aReg ?_ | refine aDrE ?_ | refine aIf ?_); simp -implicitDefEqProofs only [forall_eq, ↓slp, slb, ↓reduceIte, reduceCtorEq, jA, jB, jC, jD, jE, jF, jG, jH, jI, jJ, jK, tfCtMk, hA, hu', w3, w4, hw]; try simp only [Ex.fold, Ex.foldcs, ← Va.pv.eq_1] | refine hX _ _ ?_; clear hX X | clear hX X; refine hX _ _ ?_; clear hX X | clear hX X; clear hX X; refine hX _ _ ?_; clear hX X | intro hlen; unfold maxLen at hlen | apply And.intro; focus (first | omega | assumption | (repeat' apply And.intro) <;> first | omega | assumption)))
    refine callM (E p _ (hok.ext _) j2) ?_
    rintro v m' ⟨e1, i2, rfl, g1, rfl⟩
    simp -implicitDefEqProofs only [↓slp, slb, ↓reduceIte, reduceCtorEq, jA, jB, jC, jD, jE, jF, jG, jH, jI, jJ, jK, tfCtMk, hA, hw]; try simp only [Ex.fold, Ex.foldcs, ← Va.pv.eq_1]
    (repeat (first | refine aSeq fun X hX => ?_ | refine aBlk ?_ | refine aSkip ?_ | (first | refine aExit ?_ | refine aRet ?_); try simp only [slx, ↓reduceIte, Nat.reduceEqDiff, reduceCtorEq] | (first | refine aReg ?_ | refine aIf ?_); simp -implicitDefEqProofs only [forall_eq, ↓slp, slb, ↓reduceIte, reduceCtorEq, jA, jB, jC, jD, jE, jF, jG, jH, jI, jJ, jK, tfCtMk, hA, hw]; try simp only [Ex.fold, Ex.foldcs, ← Va.pv.eq_1] | refine hX _ _ ?_; clear hX X | clear hX X; refine hX _ _ ?_; clear hX X | clear hX X; clear hX X; refine hX _ _ ?_; clear hX X | intro hlen; unfold maxLen at hlen | apply And.intro; focus (first | omega | assumption | (repeat' apply And.intro) <;> first | omega | assumption)))
    refine aDrw (fun _ => True) (by kernel_rfl) trivial ?_
    simp -implicitDefEqProofs only [↓slp, slb, ↓reduceIte, reduceCtorEq, jA, jB, jC, jD, jE, jF, jG, jH, jI, jJ, jK, tfCtMk, hA, hw]; try simp only [Ex.fold, Ex.foldcs, ← Va.pv.eq_1]
    refine callM (E p _ (hok.ext _) i2) ?_
    rintro v m' ⟨e2, i3, rfl, g2, rfl⟩
    refine ⟨trivial, ?_⟩
    simp -implicitDefEqProofs only [↓slp, slb, ↓reduceIte, reduceCtorEq, jA, jB, jC, jD, jE, jF, jG, jH, jI, jJ, jK, tfCtMk, hA]; try simp only [Ex.fold, Ex.foldcs, ← Va.pv.eq_1]
    (repeat (first | refine aSeq fun X hX => ?_ | refine aBlk ?_ | refine aSkip ?_ | (first | refine aExit ?_ | refine aRet ?_); try simp only [slx, ↓reduceIte, Nat.reduceEqDiff, reduceCtorEq] | (first | refine aReg ?_ | refine aDrE ?_ | refine aIf ?_); simp -implicitDefEqProofs only [forall_eq, ↓slp, slb, ↓reduceIte, reduceCtorEq, jA, jB, jC, jD, jE, jF, jG, jH, jI, jJ, jK, tfCtMk, hA]; try simp only [Ex.fold, Ex.foldcs, ← Va.pv.eq_1] | refine hX _ _ ?_; clear hX X | clear hX X; refine hX _ _ ?_; clear hX X | clear hX X; clear hX X; refine hX _ _ ?_; clear hX X | intro hlen; unfold maxLen at hlen | apply And.intro; focus (first | omega | assumption | (repeat' apply And.intro) <;> first | omega | assumption)))
    simp only [aPost, Tryd.results5, aRes_n, aRes_t, aRes_c, pack_one, pack_two]
    simp -implicitDefEqProofs only [↓slp, slb, ↓reduceIte, reduceCtorEq, jA, jB, jC, jD, jE, jF, jG, jH, jI, jJ, jK, tfCtMk, hA]; try simp only [Ex.fold, Ex.foldcs, ← Va.pv.eq_1]
    exact leave_cst hok (.refl m) (by simp only [CE.foldcs, CE.fold, PV.settle, PV.settles, CE.settle_pv]; rfl) ⟨.mk 5 (3 + u) 0 ⟨#[]⟩ [e1, e2], i3, by simp only [CE.foldcs, CE.fold, PV.settle, PV.settles, CE.settle_pv]; rfl, (show ((3 : Int) + (u : Int)) = ((3 + u : Nat) : Int) by omega) ▸ TX.bin _ (3 + u) e1 e2 (by omega) (by omega) g1 g2, rfl⟩

theorem exprR_any : ∀ d, d ≤ 1000 → ECr d
  | 0, _ => expr0r_any
  | d + 1, h => exprSr_any d (by omega) (exprR_any d (by omega))
end Go.Proofs.YtepjjgnkhcjpcaaDoor
