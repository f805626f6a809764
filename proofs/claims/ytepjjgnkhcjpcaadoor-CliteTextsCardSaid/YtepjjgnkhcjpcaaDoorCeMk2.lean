/-
  The maker of clite's expressions: expressions.
-/
import Derived.Test.YtepjjgnkhcjpcaaDoorCeMk1
set_option linter.unusedVariables false
set_option linter.unusedSimpArgs false
namespace Go.Proofs.YtepjjgnkhcjpcaaDoor
open Nat renaming reduceEqDiff → jA, reduceAdd → jB, reduceMul → jC, reduceLT → jD, reduceLeDiff → jE, reduceBEq → jF, reduceBNe → jG
open Int renaming reduceLE → jH, reduceLT → jI, reduceToNat → jJ, reduceEq → jK
open Go
-- EXX: cst_nb, cst_nt, cst_fresh, cst_use, cst_free, cst_alive, cst_a, cst_upda, cst_ext, cst_ext2, cst_ea, cst_own, cst_own0, cst_ou, cst_ou0, CP.at, CE.settle_pv, CE.pure_pv, CE.cells_pv, CE.cs
set_option maxRecDepth 20000
-- TNAMES: int; uint8; int32; string; bool; []uint8; *int; []clite.Expr; clite.Expr; []string
set_option linter.defProp false
def tfCeMk2 := And.intro @tfA (And.intro @Ex.settle_pv (And.intro @Ex.pure_pv (And.intro @Ex.cells_pv (And.intro @Ex.cs.eq_1 (And.intro @On.pv.eq_1 (And.intro @Ty.pv.eq_1 (And.intro @Va.settle_pv (And.intro @Va.pure_pv (And.intro @Va.cells_pv (And.intro @Va.cs.eq_1 (And.intro @cst_nb (And.intro @cst_nt (And.intro @cst_fresh (And.intro @cst_use (And.intro @cst_free (And.intro @cst_alive (And.intro @cst_a (And.intro @cst_upda (And.intro @cst_ext (And.intro @cst_ext2 (And.intro @cst_ea (And.intro @cst_own (And.intro @cst_own0 (And.intro @cst_ou (And.intro @cst_ou0 (And.intro @CP.at.eq_1 (And.intro @CE.settle_pv (And.intro @CE.pure_pv (And.intro @CE.cells_pv @CE.cs.eq_1)))))))))))))))))))))))))))))

theorem num_any (n : Int) (m : M) : ACalls Tryd.prog 10 [.v (.int .i32 n)] m (fun v m' => v = CE.pv (.mk 1 0 n ⟨#[]⟩ []) ∧ m' = m) := by
  refine ACalls.enter (mu := [2]) ok_mix Tryd.func10 rfl (by kernel_rfl) (by kernel_rfl) (by simp only [List.length_cons, List.length_nil, Tryd.ntmps10]; omega) ?_
  (repeat (first | refine aSeq fun X hX => ?_ | refine aBlk ?_ | refine aSkip ?_ | (first | refine aExit ?_ | refine aRet ?_); try simp only [slx, ↓reduceIte, Nat.reduceEqDiff, reduceCtorEq] | (first | refine aReg ?_ | refine aDrE ?_ | refine aIf ?_); simp -implicitDefEqProofs only [forall_eq, ↓slp, slb, ↓reduceIte, reduceCtorEq, jA, jB, jC, jD, jE, jF, jG, jH, jI, jJ, jK, tfCeMk2] | refine hX _ _ ?_; clear hX X | clear hX X; refine hX _ _ ?_; clear hX X | clear hX X; clear hX X; refine hX _ _ ?_; clear hX X | intro hlen; unfold maxLen at hlen | apply And.intro; focus (first | omega | assumption | (repeat' apply And.intro) <;> first | omega | assumption)))
  simp only [aPost, Tryd.results10, aRes_n, aRes_t, aRes_c, pack_one, pack_two]
  simp -implicitDefEqProofs only [↓slp, slb, ↓reduceIte, reduceCtorEq, jA, jB, jC, jD, jE, jF, jG, jH, jI, jJ, jK, tfCeMk2]
  exact leave_ext rfl ⟨rfl, rfl⟩
theorem local_any (s : Str) (m : M) : ACalls Tryd.prog 14 [.v (.string s)] m (fun v m' => v = CE.pv (.mk 2 0 0 s []) ∧ m' = m) := by
  refine ACalls.enter (mu := [2]) ok_mix Tryd.func14 rfl (by kernel_rfl) (by kernel_rfl) (by simp only [List.length_cons, List.length_nil, Tryd.ntmps14]; omega) ?_
  (repeat (first | refine aSeq fun X hX => ?_ | refine aBlk ?_ | refine aSkip ?_ | (first | refine aExit ?_ | refine aRet ?_); try simp only [slx, ↓reduceIte, Nat.reduceEqDiff, reduceCtorEq] | (first | refine aReg ?_ | refine aDrE ?_ | refine aIf ?_); simp -implicitDefEqProofs only [forall_eq, ↓slp, slb, ↓reduceIte, reduceCtorEq, jA, jB, jC, jD, jE, jF, jG, jH, jI, jJ, jK, tfCeMk2] | refine hX _ _ ?_; clear hX X | clear hX X; refine hX _ _ ?_; clear hX X | clear hX X; clear hX X; refine hX _ _ ?_; clear hX X | intro hlen; unfold maxLen at hlen | apply And.intro; focus (first | omega | assumption | (repeat' apply And.intro) <;> first | omega | assumption)))
  simp only [aPost, Tryd.results14, aRes_n, aRes_t, aRes_c, pack_one, pack_two]
  simp -implicitDefEqProofs only [↓slp, slb, ↓reduceIte, reduceCtorEq, jA, jB, jC, jD, jE, jF, jG, jH, jI, jJ, jK, tfCeMk2]
  exact leave_ext rfl ⟨rfl, rfl⟩
/-- What expr promises at a depth. -/
def EC (d : Nat) : Prop := ∀ (p : CP) (m : M), p.ok m → ∀ (i : Nat), ACalls Tryd.prog 5 [.sl .no (p.l.map pU), .bp p.a 0, .v (.int .i64 (d : Int))] (cst p m i) (fun v m' => ∃ e i', v = CE.pv e ∧ m' = cst p m i')
theorem tmod_nat {r : Int} (h : 0 ≤ r) (k : Nat) (hk : 0 < k) : ∃ q : Nat, r.tmod (k : Int) = (q : Int) ∧ q < k := by
  refine ⟨(r.tmod k).toNat, ?_, ?_⟩
  · rw [Int.toNat_of_nonneg (Int.tmod_nonneg _ h)]
  · have := Int.tmod_lt_of_pos r (show (0 : Int) < (k : Int) by omega)
    omega
theorem name8 : ∀ t, t < 8 → ∃ nm : Str, [PV.v (.string ⟨#[102, 97]⟩), PV.v (.string ⟨#[102, 98]⟩), PV.v (.string ⟨#[102, 97]⟩), PV.v (.string ⟨#[102, 98]⟩), PV.v (.string ⟨#[102, 97]⟩), PV.v (.string ⟨#[102, 98]⟩), PV.v (.string ⟨#[112]⟩), PV.v (.string ⟨#[110, 111]⟩)].getD t PV.junk = .v (.string nm)
  | 0, _ => ⟨_, rfl⟩
  | 1, _ => ⟨_, rfl⟩
  | 2, _ => ⟨_, rfl⟩
  | 3, _ => ⟨_, rfl⟩
  | 4, _ => ⟨_, rfl⟩
  | 5, _ => ⟨_, rfl⟩
  | 6, _ => ⟨_, rfl⟩
  | 7, _ => ⟨_, rfl⟩
  | n + 8, h => absurd h (by omega)
set_option maxHeartbeats 4000000 in
theorem expr0_any : EC 0 := by
  intro p m hok i
  have hA := hok.a
  have c0 : decide (((0 : Nat) : Int) ≤ 0) = true := rfl
  refine ACalls.enter (mu := [6]) ok_mix Tryd.func5 rfl (by kernel_rfl) (by kernel_rfl) (by simp only [List.length_cons, List.length_nil, Tryd.ntmps5]; omega) ?_
  (repeat (first | refine aSeq fun X hX => ?_ | refine aBlk ?_ | refine aSkip ?_ | (first | refine aExit ?_ | refine aRet ?_); try simp only [slx, ↓reduceIte, Nat.reduceEqDiff, reduceCtorEq] | (first | refine aReg ?_ | refine aDrE ?_ | refine aIf ?_); simp -implicitDefEqProofs only [forall_eq, ↓slp, slb, ↓reduceIte, reduceCtorEq, jA, jB, jC, jD, jE, jF, jG, jH, jI, jJ, jK, tfCeMk2, hA, c0] | refine hX _ _ ?_; clear hX X | clear hX X; refine hX _ _ ?_; clear hX X | clear hX X; clear hX X; refine hX _ _ ?_; clear hX X | intro hlen; unfold maxLen at hlen | apply And.intro; focus (first | omega | assumption | (repeat' apply And.intro) <;> first | omega | assumption)))
  refine callM (nextC_any p _ (hok.ext _) i) ?_
  rintro v m' ⟨r, i', rfl, hr, rfl⟩
  obtain ⟨k, hk, hk10⟩ := tmod_nat hr.1 10 (by omega)
  have hk' : r.tmod 10 = (k : Int) := hk
  obtain ⟨q, hq, hq4⟩ := tmod_nat (r := (k : Int)) (by omega) 4 (by omega)
  have hq' : (k : Int).tmod 4 = (q : Int) := hq
  have h4 : q = 0 ∨ (q = 1 ∨ q = 2) ∨ q = 3 := by omega
  rcases h4 with rfl | h4 | rfl
  · have hq0 : (k : Int).tmod 4 = 0 := hq'
    simp -implicitDefEqProofs only [↓slp, slb, ↓reduceIte, reduceCtorEq, jA, jB, jC, jD, jE, jF, jG, jH, jI, jJ, jK, tfCeMk2, hA, hk', hq0, c0, Int.reduceBEq, decide_true, decide_false]
    (repeat (first | refine aSeq fun X hX => ?_ | refine aBlk ?_ | refine aSkip ?_ | (first | refine aExit ?_ | refine aRet ?_); try simp only [slx, ↓reduceIte, Nat.reduceEqDiff, reduceCtorEq] | (first | refine aReg ?_ | refine aDrE ?_ | refine aIf ?_); simp -implicitDefEqProofs only [forall_eq, ↓slp, slb, ↓reduceIte, reduceCtorEq, jA, jB, jC, jD, jE, jF, jG, jH, jI, jJ, jK, tfCeMk2, hA, hk', hq0, c0, Int.reduceBEq, decide_true, decide_false] | refine hX _ _ ?_; clear hX X | clear hX X; refine hX _ _ ?_; clear hX X | clear hX X; clear hX X; refine hX _ _ ?_; clear hX X | intro hlen; unfold maxLen at hlen | apply And.intro; focus (first | omega | assumption | (repeat' apply And.intro) <;> first | omega | assumption)))
    refine callM (nextC_any p _ (hok.ext _) i') ?_
    rintro v m' ⟨r2, i2, rfl, hr2, rfl⟩
    have w1 : IntKind.i32.wrap r2 = r2 := IntWalk.i32_in _ (by omega)
    have w2 : IntKind.i32.wrap (r2 - 100) = r2 - 100 := IntWalk.i32_in _ (by omega)
    simp -implicitDefEqProofs only [↓slp, slb, ↓reduceIte, reduceCtorEq, jA, jB, jC, jD, jE, jF, jG, jH, jI, jJ, jK, tfCeMk2, hA, w1, w2]
    refine callE (num_any _ _) ?_
    simp -implicitDefEqProofs only [↓slp, slb, ↓reduceIte, reduceCtorEq, jA, jB, jC, jD, jE, jF, jG, jH, jI, jJ, jK, tfCeMk2, hA]
    (repeat (first | refine aSeq fun X hX => ?_ | refine aBlk ?_ | refine aSkip ?_ | (first | refine aExit ?_ | refine aRet ?_); try simp only [slx, ↓reduceIte, Nat.reduceEqDiff, reduceCtorEq] | (first | refine aReg ?_ | refine aDrE ?_ | refine aIf ?_); simp -implicitDefEqProofs only [forall_eq, ↓slp, slb, ↓reduceIte, reduceCtorEq, jA, jB, jC, jD, jE, jF, jG, jH, jI, jJ, jK, tfCeMk2, hA] | refine hX _ _ ?_; clear hX X | clear hX X; refine hX _ _ ?_; clear hX X | clear hX X; clear hX X; refine hX _ _ ?_; clear hX X | intro hlen; unfold maxLen at hlen | apply And.intro; focus (first | omega | assumption | (repeat' apply And.intro) <;> first | omega | assumption)))
    simp only [aPost, Tryd.results5, aRes_n, aRes_t, aRes_c, pack_one, pack_two]
    simp -implicitDefEqProofs only [↓slp, slb, ↓reduceIte, reduceCtorEq, jA, jB, jC, jD, jE, jF, jG, jH, jI, jJ, jK, tfCeMk2, hA]
    exact leave_cst hok (.refl m) rfl ⟨.mk 1 0 (r2 - 100) ⟨#[]⟩ [], i2, rfl, rfl⟩
  · have hq0 : (k : Int).tmod 4 = 1 ∨ (k : Int).tmod 4 = 2 := by rcases h4 with rfl | rfl; exact .inl hq'; exact .inr hq'
    rcases hq0 with hq0 | hq0
    all_goals
      simp -implicitDefEqProofs only [↓slp, slb, ↓reduceIte, reduceCtorEq, jA, jB, jC, jD, jE, jF, jG, jH, jI, jJ, jK, tfCeMk2, hA, hk', hq0, c0, Int.reduceBEq, decide_true, decide_false]
      (repeat (first | refine aSeq fun X hX => ?_ | refine aBlk ?_ | refine aSkip ?_ | (first | refine aExit ?_ | refine aRet ?_); try simp only [slx, ↓reduceIte, Nat.reduceEqDiff, reduceCtorEq] | (first | refine aReg ?_ | refine aDrE ?_ | refine aIf ?_); simp -implicitDefEqProofs only [forall_eq, ↓slp, slb, ↓reduceIte, reduceCtorEq, jA, jB, jC, jD, jE, jF, jG, jH, jI, jJ, jK, tfCeMk2, hA, hk', hq0, c0, Int.reduceBEq, decide_true, decide_false] | refine hX _ _ ?_; clear hX X | clear hX X; refine hX _ _ ?_; clear hX X | clear hX X; clear hX X; refine hX _ _ ?_; clear hX X | intro hlen; unfold maxLen at hlen | apply And.intro; focus (first | omega | assumption | (repeat' apply And.intro) <;> first | omega | assumption)))
      refine callM (nextC_any p _ (hok.ext _) i') ?_
      rintro v m' ⟨r2, i2, rfl, hr2, rfl⟩
      obtain ⟨t, ht, ht4⟩ := tmod_nat hr2.1 4 (by omega)
      have ht' : r2.tmod 4 = (t : Int) := ht
      simp -implicitDefEqProofs only [↓slp, slb, ↓reduceIte, reduceCtorEq, jA, jB, jC, jD, jE, jF, jG, jH, jI, jJ, jK, tfCeMk2, hA, ht']
      refine callE (letterC_any t (by omega) _) ?_
      have hz : (strOf [((97 + t : Nat) : Int)]).size = 1 := rfl
      have hz2 : (⟨#[118]⟩ : ByteArray).size = 1 := rfl
      simp -implicitDefEqProofs only [↓slp, slb, ↓reduceIte, reduceCtorEq, jA, jB, jC, jD, jE, jF, jG, jH, jI, jJ, jK, tfCeMk2, hA]
      refine ⟨by omega, ?_⟩
      refine callE (local_any _ _) ?_
      simp -implicitDefEqProofs only [↓slp, slb, ↓reduceIte, reduceCtorEq, jA, jB, jC, jD, jE, jF, jG, jH, jI, jJ, jK, tfCeMk2, hA]
      (repeat (first | refine aSeq fun X hX => ?_ | refine aBlk ?_ | refine aSkip ?_ | (first | refine aExit ?_ | refine aRet ?_); try simp only [slx, ↓reduceIte, Nat.reduceEqDiff, reduceCtorEq] | (first | refine aReg ?_ | refine aDrE ?_ | refine aIf ?_); simp -implicitDefEqProofs only [forall_eq, ↓slp, slb, ↓reduceIte, reduceCtorEq, jA, jB, jC, jD, jE, jF, jG, jH, jI, jJ, jK, tfCeMk2, hA] | refine hX _ _ ?_; clear hX X | clear hX X; refine hX _ _ ?_; clear hX X | clear hX X; clear hX X; refine hX _ _ ?_; clear hX X | intro hlen; unfold maxLen at hlen | apply And.intro; focus (first | omega | assumption | (repeat' apply And.intro) <;> first | omega | assumption)))
      simp only [aPost, Tryd.results5, aRes_n, aRes_t, aRes_c, pack_one, pack_two]
      simp -implicitDefEqProofs only [↓slp, slb, ↓reduceIte, reduceCtorEq, jA, jB, jC, jD, jE, jF, jG, jH, jI, jJ, jK, tfCeMk2, hA]
      exact leave_cst hok (.refl m) rfl ⟨.mk 2 0 0 (⟨#[118]⟩ ++ strOf [((97 + t : Nat) : Int)]) [], i2, rfl, rfl⟩
  · have hq0 : (k : Int).tmod 4 = 3 := hq'
    simp -implicitDefEqProofs only [↓slp, slb, ↓reduceIte, reduceCtorEq, jA, jB, jC, jD, jE, jF, jG, jH, jI, jJ, jK, tfCeMk2, hA, hk', hq0, c0, Int.reduceBEq, decide_true, decide_false]
    (repeat (first | refine aSeq fun X hX => ?_ | refine aBlk ?_ | refine aSkip ?_ | (first | refine aExit ?_ | refine aRet ?_); try simp only [slx, ↓reduceIte, Nat.reduceEqDiff, reduceCtorEq] | (first | refine aReg ?_ | refine aDrE ?_ | refine aIf ?_); simp -implicitDefEqProofs only [forall_eq, ↓slp, slb, ↓reduceIte, reduceCtorEq, jA, jB, jC, jD, jE, jF, jG, jH, jI, jJ, jK, tfCeMk2, hA, hk', hq0, c0, Int.reduceBEq, decide_true, decide_false] | refine hX _ _ ?_; clear hX X | clear hX X; refine hX _ _ ?_; clear hX X | clear hX X; clear hX X; refine hX _ _ ?_; clear hX X | intro hlen; unfold maxLen at hlen | apply And.intro; focus (first | omega | assumption | (repeat' apply And.intro) <;> first | omega | assumption)))
    refine ⟨rfl, ?_⟩
    (repeat (first | refine aSeq fun X hX => ?_ | refine aBlk ?_ | refine aSkip ?_ | (first | refine aExit ?_ | refine aRet ?_); try simp only [slx, ↓reduceIte, Nat.reduceEqDiff, reduceCtorEq] | (first | refine aReg ?_ | refine aDrE ?_ | refine aIf ?_); simp -implicitDefEqProofs only [forall_eq, ↓slp, slb, ↓reduceIte, reduceCtorEq, jA, jB, jC, jD, jE, jF, jG, jH, jI, jJ, jK, tfCeMk2, hA] | refine hX _ _ ?_; clear hX X | clear hX X; refine hX _ _ ?_; clear hX X | clear hX X; clear hX X; refine hX _ _ ?_; clear hX X | intro hlen; unfold maxLen at hlen | apply And.intro; focus (first | omega | assumption | (repeat' apply And.intro) <;> first | omega | assumption)))
    refine callM (nextC_any p _ (hok.ext _) i') ?_
    rintro v m' ⟨r2, i2, rfl, hr2, rfl⟩
    obtain ⟨t, ht, ht8⟩ := tmod_nat hr2.1 8 (by omega)
    have ht' : r2.tmod 8 = (t : Int) := ht
    obtain ⟨nm, hnm⟩ : ∃ nm : Str, [PV.v (.string ⟨#[102, 97]⟩), PV.v (.string ⟨#[102, 98]⟩), PV.v (.string ⟨#[102, 97]⟩), PV.v (.string ⟨#[102, 98]⟩), PV.v (.string ⟨#[102, 97]⟩), PV.v (.string ⟨#[102, 98]⟩), PV.v (.string ⟨#[112]⟩), PV.v (.string ⟨#[110, 111]⟩)].getD t PV.junk = .v (.string nm) := name8 t ht8
    simp -implicitDefEqProofs only [↓slp, slb, ↓reduceIte, reduceCtorEq, jA, jB, jC, jD, jE, jF, jG, jH, jI, jJ, jK, tfCeMk2, hA, ht', hnm]
    (repeat (first | (intro hlen; unfold maxLen at hlen) | (apply And.intro; (focus (first | omega | assumption | trivial | (repeat' apply And.intro) <;> first | omega | assumption | trivial)))))
    (repeat (first | refine aSeq fun X hX => ?_ | refine aBlk ?_ | refine aSkip ?_ | (first | refine aExit ?_ | refine aRet ?_); try simp only [slx, ↓reduceIte, Nat.reduceEqDiff, reduceCtorEq] | (first | refine aReg ?_ | refine aDrE ?_ | refine aIf ?_); simp -implicitDefEqProofs only [forall_eq, ↓slp, slb, ↓reduceIte, reduceCtorEq, jA, jB, jC, jD, jE, jF, jG, jH, jI, jJ, jK, tfCeMk2, hA] | refine hX _ _ ?_; clear hX X | clear hX X; refine hX _ _ ?_; clear hX X | clear hX X; clear hX X; refine hX _ _ ?_; clear hX X | intro hlen; unfold maxLen at hlen | apply And.intro; focus (first | omega | assumption | (repeat' apply And.intro) <;> first | omega | assumption)))
    simp only [aPost, Tryd.results5, aRes_n, aRes_t, aRes_c, pack_one, pack_two]
    simp -implicitDefEqProofs only [↓slp, slb, ↓reduceIte, reduceCtorEq, jA, jB, jC, jD, jE, jF, jG, jH, jI, jJ, jK, tfCeMk2, hA]
    exact leave_cst hok (.refl m) rfl ⟨.mk 3 0 0 nm [], i2, rfl, rfl⟩
end Go.Proofs.YtepjjgnkhcjpcaaDoor
