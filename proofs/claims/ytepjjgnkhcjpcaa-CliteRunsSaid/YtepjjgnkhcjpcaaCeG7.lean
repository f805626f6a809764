/-
  Texts that belong together: CeMkR, CeBody.
-/
import Derived.Test.YtepjjgnkhcjpcaaCeMk2
import Derived.Test.YtepjjgnkhcjpcaaCeG6
/-
  The maker of clite's expressions, and what they are like.
-/
set_option linter.unusedVariables false
set_option linter.unusedSimpArgs false
namespace Go.Proofs.Ytepjjgnkhcjpcaa
open Nat renaming reduceEqDiff → jA, reduceAdd → jB, reduceMul → jC, reduceLT → jD, reduceLeDiff → jE, reduceBEq → jF, reduceBNe → jG
open Int renaming reduceLE → jH, reduceLT → jI, reduceToNat → jJ, reduceEq → jK
open Go
-- EXX: cst_nb, cst_nt, cst_fresh, cst_use, cst_free, cst_alive, cst_a, cst_upda, cst_ext, cst_ext2, cst_ea, cst_own, cst_own0, cst_ou, cst_ou0, CP.at, CE.settle_pv, CE.pure_pv, CE.cells_pv, CE.cs
set_option maxRecDepth 20000
-- TNAMES: int; uint8; int32; string; bool; []uint8; *int; []clite.Expr; clite.Expr; []string
set_option linter.defProp false
def tfCeMkR := And.intro @tfA (And.intro @Ex.settle_pv (And.intro @Ex.pure_pv (And.intro @Ex.cells_pv (And.intro @Ex.cs.eq_1 (And.intro @On.pv.eq_1 (And.intro @Ty.pv.eq_1 (And.intro @Va.settle_pv (And.intro @Va.pure_pv (And.intro @Va.cells_pv (And.intro @Va.cs.eq_1 (And.intro @cst_nb (And.intro @cst_nt (And.intro @cst_fresh (And.intro @cst_use (And.intro @cst_free (And.intro @cst_alive (And.intro @cst_a (And.intro @cst_upda (And.intro @cst_ext (And.intro @cst_ext2 (And.intro @cst_ea (And.intro @cst_own (And.intro @cst_own0 (And.intro @cst_ou (And.intro @cst_ou0 (And.intro @CP.at.eq_1 (And.intro @CE.settle_pv (And.intro @CE.pure_pv (And.intro @CE.cells_pv @CE.cs.eq_1)))))))))))))))))))))))))))))

/-- What expr promises at a depth. -/
def ECr (d : Nat) : Prop := ∀ (p : CP) (m : M), p.ok m → ∀ (i : Nat), ACalls Try.prog 20 [.sl .no (p.l.map pU), .bp p.a 0, .v (.int .i64 (d : Int))] (cst p m i) (fun v m' => ∃ e i', v = CE.pv e ∧ (e.good ∧ e.locs) ∧ m' = cst p m i')
set_option maxHeartbeats 4000000 in
theorem expr0r_any : ECr 0 := by
  intro p m hok i
  have hA := hok.a
  have c0 : decide (((0 : Nat) : Int) ≤ 0) = true := rfl
  refine ACalls.enter (mu := [6]) ok_mix Try.func20 rfl (by kernel_rfl) (by kernel_rfl) (by simp only [List.length_cons, List.length_nil, Try.ntmps20]; omega) ?_
  (repeat (first | refine aSeq fun X hX => ?_ | refine aBlk ?_ | refine aSkip ?_ | (first | refine aExit ?_ | refine aRet ?_); try simp only [slx, ↓reduceIte, Nat.reduceEqDiff, reduceCtorEq] | (first | refine aReg ?_ | refine aDrE ?_ | refine aIf ?_); simp -implicitDefEqProofs only [forall_eq, ↓slp, slb, ↓reduceIte, reduceCtorEq, jA, jB, jC, jD, jE, jF, jG, jH, jI, jJ, jK, tfCeMkR, hA, c0] | refine hX _ _ ?_; clear hX X | clear hX X; refine hX _ _ ?_; clear hX X | clear hX X; clear hX X; refine hX _ _ ?_; clear hX X | intro hlen; unfold maxLen at hlen | apply And.intro; focus (first | omega | assumption | (repeat' apply And.intro) <;> first | omega | assumption)))
  refine callM (nextC_any p _ (hok.ext _) i) ?_
  rintro v m' ⟨r, i', rfl, hr, rfl⟩
  obtain ⟨k, hk, hk10⟩ := tmod_nat hr.1 10 (by omega)
  have hk' : r.tmod 10 = (k : Int) := hk
  obtain ⟨q, hq, hq4⟩ := tmod_nat (r := (k : Int)) (by omega) 4 (by omega)
  have hq' : (k : Int).tmod 4 = (q : Int) := hq
  have h4 : q = 0 ∨ (q = 1 ∨ q = 2) ∨ q = 3 := by omega
  rcases h4 with rfl | h4 | rfl
  · have hq0 : (k : Int).tmod 4 = 0 := hq'
    simp -implicitDefEqProofs only [↓slp, slb, ↓reduceIte, reduceCtorEq, jA, jB, jC, jD, jE, jF, jG, jH, jI, jJ, jK, tfCeMkR, hA, hk', hq0, c0, Int.reduceBEq, decide_true, decide_false]
    (repeat (first | refine aSeq fun X hX => ?_ | refine aBlk ?_ | refine aSkip ?_ | (first | refine aExit ?_ | refine aRet ?_); try simp only [slx, ↓reduceIte, Nat.reduceEqDiff, reduceCtorEq] | (first | refine aReg ?_ | refine aDrE ?_ | refine aIf ?_); simp -implicitDefEqProofs only [forall_eq, ↓slp, slb, ↓reduceIte, reduceCtorEq, jA, jB, jC, jD, jE, jF, jG, jH, jI, jJ, jK, tfCeMkR, hA, hk', hq0, c0, Int.reduceBEq, decide_true, decide_false] | refine hX _ _ ?_; clear hX X | clear hX X; refine hX _ _ ?_; clear hX X | clear hX X; clear hX X; refine hX _ _ ?_; clear hX X | intro hlen; unfold maxLen at hlen | apply And.intro; focus (first | omega | assumption | (repeat' apply And.intro) <;> first | omega | assumption)))
    refine callM (nextC_any p _ (hok.ext _) i') ?_
    rintro v m' ⟨r2, i2, rfl, hr2, rfl⟩
    have w1 : IntKind.i32.wrap r2 = r2 := IntWalk.i32_in _ (by omega)
    have w2 : IntKind.i32.wrap (r2 - 100) = r2 - 100 := IntWalk.i32_in _ (by omega)
    simp -implicitDefEqProofs only [↓slp, slb, ↓reduceIte, reduceCtorEq, jA, jB, jC, jD, jE, jF, jG, jH, jI, jJ, jK, tfCeMkR, hA, w1, w2]
    refine callE (num_any _ _) ?_
    simp -implicitDefEqProofs only [↓slp, slb, ↓reduceIte, reduceCtorEq, jA, jB, jC, jD, jE, jF, jG, jH, jI, jJ, jK, tfCeMkR, hA]
    (repeat (first | refine aSeq fun X hX => ?_ | refine aBlk ?_ | refine aSkip ?_ | (first | refine aExit ?_ | refine aRet ?_); try simp only [slx, ↓reduceIte, Nat.reduceEqDiff, reduceCtorEq] | (first | refine aReg ?_ | refine aDrE ?_ | refine aIf ?_); simp -implicitDefEqProofs only [forall_eq, ↓slp, slb, ↓reduceIte, reduceCtorEq, jA, jB, jC, jD, jE, jF, jG, jH, jI, jJ, jK, tfCeMkR, hA] | refine hX _ _ ?_; clear hX X | clear hX X; refine hX _ _ ?_; clear hX X | clear hX X; clear hX X; refine hX _ _ ?_; clear hX X | intro hlen; unfold maxLen at hlen | apply And.intro; focus (first | omega | assumption | (repeat' apply And.intro) <;> first | omega | assumption)))
    simp only [aPost, Try.results20, aRes_n, aRes_t, aRes_c, pack_one, pack_two]
    simp -implicitDefEqProofs only [↓slp, slb, ↓reduceIte, reduceCtorEq, jA, jB, jC, jD, jE, jF, jG, jH, jI, jJ, jK, tfCeMkR, hA]
    exact leave_cst hok (.refl m) rfl ⟨.mk 1 0 (r2 - 100) ⟨#[]⟩ [], i2, rfl, ⟨⟨⟨by omega, by omega⟩, ⟨by omega, by omega⟩, trivial⟩, ⟨fun h => absurd h (by decide), trivial⟩⟩, rfl⟩
  · have hq0 : (k : Int).tmod 4 = 1 ∨ (k : Int).tmod 4 = 2 := by rcases h4 with rfl | rfl; exact .inl hq'; exact .inr hq'
    rcases hq0 with hq0 | hq0
    all_goals
      simp -implicitDefEqProofs only [↓slp, slb, ↓reduceIte, reduceCtorEq, jA, jB, jC, jD, jE, jF, jG, jH, jI, jJ, jK, tfCeMkR, hA, hk', hq0, c0, Int.reduceBEq, decide_true, decide_false]
      (repeat (first | refine aSeq fun X hX => ?_ | refine aBlk ?_ | refine aSkip ?_ | (first | refine aExit ?_ | refine aRet ?_); try simp only [slx, ↓reduceIte, Nat.reduceEqDiff, reduceCtorEq] | (first | refine aReg ?_ | refine aDrE ?_ | refine aIf ?_); simp -implicitDefEqProofs only [forall_eq, ↓slp, slb, ↓reduceIte, reduceCtorEq, jA, jB, jC, jD, jE, jF, jG, jH, jI, jJ, jK, tfCeMkR, hA, hk', hq0, c0, Int.reduceBEq, decide_true, decide_false] | refine hX _ _ ?_; clear hX X | clear hX X; refine hX _ _ ?_; clear hX X | clear hX X; clear hX X; refine hX _ _ ?_; clear hX X | intro hlen; unfold maxLen at hlen | apply And.intro; focus (first | omega | assumption | (repeat' apply And.intro) <;> first | omega | assumption)))
      refine callM (nextC_any p _ (hok.ext _) i') ?_
      rintro v m' ⟨r2, i2, rfl, hr2, rfl⟩
      obtain ⟨t, ht, ht4⟩ := tmod_nat hr2.1 4 (by omega)
      have ht' : r2.tmod 4 = (t : Int) := ht
      simp -implicitDefEqProofs only [↓slp, slb, ↓reduceIte, reduceCtorEq, jA, jB, jC, jD, jE, jF, jG, jH, jI, jJ, jK, tfCeMkR, hA, ht']
      refine callE (letterC_any t (by omega) _) ?_
      have hz : (strOf [((97 + t : Nat) : Int)]).size = 1 := rfl
      have hz2 : (⟨#[118]⟩ : ByteArray).size = 1 := rfl
      simp -implicitDefEqProofs only [↓slp, slb, ↓reduceIte, reduceCtorEq, jA, jB, jC, jD, jE, jF, jG, jH, jI, jJ, jK, tfCeMkR, hA]
      refine ⟨by omega, ?_⟩
      refine callE (local_any _ _) ?_
      simp -implicitDefEqProofs only [↓slp, slb, ↓reduceIte, reduceCtorEq, jA, jB, jC, jD, jE, jF, jG, jH, jI, jJ, jK, tfCeMkR, hA]
      (repeat (first | refine aSeq fun X hX => ?_ | refine aBlk ?_ | refine aSkip ?_ | (first | refine aExit ?_ | refine aRet ?_); try simp only [slx, ↓reduceIte, Nat.reduceEqDiff, reduceCtorEq] | (first | refine aReg ?_ | refine aDrE ?_ | refine aIf ?_); simp -implicitDefEqProofs only [forall_eq, ↓slp, slb, ↓reduceIte, reduceCtorEq, jA, jB, jC, jD, jE, jF, jG, jH, jI, jJ, jK, tfCeMkR, hA] | refine hX _ _ ?_; clear hX X | clear hX X; refine hX _ _ ?_; clear hX X | clear hX X; clear hX X; refine hX _ _ ?_; clear hX X | intro hlen; unfold maxLen at hlen | apply And.intro; focus (first | omega | assumption | (repeat' apply And.intro) <;> first | omega | assumption)))
      simp only [aPost, Try.results20, aRes_n, aRes_t, aRes_c, pack_one, pack_two]
      simp -implicitDefEqProofs only [↓slp, slb, ↓reduceIte, reduceCtorEq, jA, jB, jC, jD, jE, jF, jG, jH, jI, jJ, jK, tfCeMkR, hA]
      exact leave_cst hok (.refl m) rfl ⟨.mk 2 0 0 (⟨#[118]⟩ ++ strOf [((97 + t : Nat) : Int)]) [], i2, rfl, ⟨⟨⟨by omega, by omega⟩, ⟨by omega, by omega⟩, trivial⟩, ⟨fun _ _ => ⟨t, by omega, rfl⟩, trivial⟩⟩, rfl⟩
  · have hq0 : (k : Int).tmod 4 = 3 := hq'
    simp -implicitDefEqProofs only [↓slp, slb, ↓reduceIte, reduceCtorEq, jA, jB, jC, jD, jE, jF, jG, jH, jI, jJ, jK, tfCeMkR, hA, hk', hq0, c0, Int.reduceBEq, decide_true, decide_false]
    (repeat (first | refine aSeq fun X hX => ?_ | refine aBlk ?_ | refine aSkip ?_ | (first | refine aExit ?_ | refine aRet ?_); try simp only [slx, ↓reduceIte, Nat.reduceEqDiff, reduceCtorEq] | (first | refine aReg ?_ | refine aDrE ?_ | refine aIf ?_); simp -implicitDefEqProofs only [forall_eq, ↓slp, slb, ↓reduceIte, reduceCtorEq, jA, jB, jC, jD, jE, jF, jG, jH, jI, jJ, jK, tfCeMkR, hA, hk', hq0, c0, Int.reduceBEq, decide_true, decide_false] | refine hX _ _ ?_; clear hX X | clear hX X; refine hX _ _ ?_; clear hX X | clear hX X; clear hX X; refine hX _ _ ?_; clear hX X | intro hlen; unfold maxLen at hlen | apply And.intro; focus (first | omega | assumption | (repeat' apply And.intro) <;> first | omega | assumption)))
    refine ⟨rfl, ?_⟩
    (repeat (first | refine aSeq fun X hX => ?_ | refine aBlk ?_ | refine aSkip ?_ | (first | refine aExit ?_ | refine aRet ?_); try simp only [slx, ↓reduceIte, Nat.reduceEqDiff, reduceCtorEq] | (first | refine aReg ?_ | refine aDrE ?_ | refine aIf ?_); simp -implicitDefEqProofs only [forall_eq, ↓slp, slb, ↓reduceIte, reduceCtorEq, jA, jB, jC, jD, jE, jF, jG, jH, jI, jJ, jK, tfCeMkR, hA] | refine hX _ _ ?_; clear hX X | clear hX X; refine hX _ _ ?_; clear hX X | clear hX X; clear hX X; refine hX _ _ ?_; clear hX X | intro hlen; unfold maxLen at hlen | apply And.intro; focus (first | omega | assumption | (repeat' apply And.intro) <;> first | omega | assumption)))
    refine callM (nextC_any p _ (hok.ext _) i') ?_
    rintro v m' ⟨r2, i2, rfl, hr2, rfl⟩
    obtain ⟨t, ht, ht8⟩ := tmod_nat hr2.1 8 (by omega)
    have ht' : r2.tmod 8 = (t : Int) := ht
    obtain ⟨nm, hnm⟩ : ∃ nm : Str, [PV.v (.string ⟨#[102, 97]⟩), PV.v (.string ⟨#[102, 98]⟩), PV.v (.string ⟨#[102, 97]⟩), PV.v (.string ⟨#[102, 98]⟩), PV.v (.string ⟨#[102, 97]⟩), PV.v (.string ⟨#[102, 98]⟩), PV.v (.string ⟨#[112]⟩), PV.v (.string ⟨#[110, 111]⟩)].getD t PV.junk = .v (.string nm) := name8 t ht8
    simp -implicitDefEqProofs only [↓slp, slb, ↓reduceIte, reduceCtorEq, jA, jB, jC, jD, jE, jF, jG, jH, jI, jJ, jK, tfCeMkR, hA, ht', hnm]
    (repeat (first | (intro hlen; unfold maxLen at hlen) | (apply And.intro; (focus (first | omega | assumption | trivial | (repeat' apply And.intro) <;> first | omega | assumption | trivial)))))
    (repeat (first | refine aSeq fun X hX => ?_ | refine aBlk ?_ | refine aSkip ?_ | (first | refine aExit ?_ | refine aRet ?_); try simp only [slx, ↓reduceIte, Nat.reduceEqDiff, reduceCtorEq] | (first | refine aReg ?_ | refine aDrE ?_ | refine aIf ?_); simp -implicitDefEqProofs only [forall_eq, ↓slp, slb, ↓reduceIte, reduceCtorEq, jA, jB, jC, jD, jE, jF, jG, jH, jI, jJ, jK, tfCeMkR, hA] | refine hX _ _ ?_; clear hX X | clear hX X; refine hX _ _ ?_; clear hX X | clear hX X; clear hX X; refine hX _ _ ?_; clear hX X | intro hlen; unfold maxLen at hlen | apply And.intro; focus (first | omega | assumption | (repeat' apply And.intro) <;> first | omega | assumption)))
    simp only [aPost, Try.results20, aRes_n, aRes_t, aRes_c, pack_one, pack_two]
    simp -implicitDefEqProofs only [↓slp, slb, ↓reduceIte, reduceCtorEq, jA, jB, jC, jD, jE, jF, jG, jH, jI, jJ, jK, tfCeMkR, hA]
    exact leave_cst hok (.refl m) rfl ⟨.mk 3 0 0 nm [], i2, rfl, ⟨⟨⟨by omega, by omega⟩, ⟨by omega, by omega⟩, trivial⟩, ⟨fun h => absurd h (by decide), trivial⟩⟩, rfl⟩
set_option maxHeartbeats 8000000 in
theorem exprSr_any (d : Nat) (hd : d < 1000) (E : ECr d) : ECr (d + 1) := by
  intro p m hok i
  have hA := hok.a
  have hw : IntKind.i64.wrap (((d + 1 : Nat) : Int) - 1) = (d : Int) := by rw [wrap64 (by omega)]; omega
  have c0 : decide (((d + 1 : Nat) : Int) ≤ 0) = false := by simp
  refine ACalls.enter (mu := [6]) ok_mix Try.func20 rfl (by kernel_rfl) (by kernel_rfl) (by simp only [List.length_cons, List.length_nil, Try.ntmps20]; omega) ?_
  (repeat (first | refine aSeq fun X hX => ?_ | refine aBlk ?_ | refine aSkip ?_ | (first | refine aExit ?_ | refine aRet ?_); try simp only [slx, ↓reduceIte, Nat.reduceEqDiff, reduceCtorEq] | (first | refine aReg ?_ | refine aDrE ?_ | refine aIf ?_); simp -implicitDefEqProofs only [forall_eq, ↓slp, slb, ↓reduceIte, reduceCtorEq, jA, jB, jC, jD, jE, jF, jG, jH, jI, jJ, jK, tfCeMkR, hA, c0] | refine hX _ _ ?_; clear hX X | clear hX X; refine hX _ _ ?_; clear hX X | clear hX X; clear hX X; refine hX _ _ ?_; clear hX X | intro hlen; unfold maxLen at hlen | apply And.intro; focus (first | omega | assumption | (repeat' apply And.intro) <;> first | omega | assumption)))
  refine callM (nextC_any p _ (hok.ext _) i) ?_
  rintro v m' ⟨r, i', rfl, hr, rfl⟩
  obtain ⟨k, hk, hk10⟩ := tmod_nat hr.1 10 (by omega)
  have h10 : k = 0 ∨ k = 1 ∨ k = 2 ∨ k = 3 ∨ k = 4 ∨ k = 5 ∨ k = 6 ∨ k = 7 ∨ k = 8 ∨ k = 9 := by omega
  rcases h10 with rfl | rfl | rfl | rfl | rfl | rfl | rfl | rfl | rfl | rfl
  · have hk' : r.tmod 10 = 0 := hk
    simp -implicitDefEqProofs only [↓slp, slb, ↓reduceIte, reduceCtorEq, jA, jB, jC, jD, jE, jF, jG, jH, jI, jJ, jK, tfCeMkR, hk', hA, c0, hw, Int.reduceBEq, decide_true, decide_false]
    (repeat (first | refine aSeq fun X hX => ?_ | refine aBlk ?_ | refine aSkip ?_ | (first | refine aExit ?_ | refine aRet ?_); try simp only [slx, ↓reduceIte, Nat.reduceEqDiff, reduceCtorEq] | (first | refine aReg ?_ | refine aDrE ?_ | refine aIf ?_); simp -implicitDefEqProofs only [forall_eq, ↓slp, slb, ↓reduceIte, reduceCtorEq, jA, jB, jC, jD, jE, jF, jG, jH, jI, jJ, jK, tfCeMkR, hk', hA, c0, hw, Int.reduceBEq, decide_true, decide_false] | refine hX _ _ ?_; clear hX X | clear hX X; refine hX _ _ ?_; clear hX X | clear hX X; clear hX X; refine hX _ _ ?_; clear hX X | intro hlen; unfold maxLen at hlen | apply And.intro; focus (first | omega | assumption | (repeat' apply And.intro) <;> first | omega | assumption)))
    refine callM (nextC_any p _ (hok.ext _) i') ?_
    rintro v m' ⟨r2, i2, rfl, hr2, rfl⟩
    have w1 : IntKind.i32.wrap r2 = r2 := IntWalk.i32_in _ (by omega)
    have w2 : IntKind.i32.wrap (r2 - 100) = r2 - 100 := IntWalk.i32_in _ (by omega)
    simp -implicitDefEqProofs only [↓slp, slb, ↓reduceIte, reduceCtorEq, jA, jB, jC, jD, jE, jF, jG, jH, jI, jJ, jK, tfCeMkR, hA, w1, w2]
    refine callE (num_any _ _) ?_
    simp -implicitDefEqProofs only [↓slp, slb, ↓reduceIte, reduceCtorEq, jA, jB, jC, jD, jE, jF, jG, jH, jI, jJ, jK, tfCeMkR, hA]
    (repeat (first | refine aSeq fun X hX => ?_ | refine aBlk ?_ | refine aSkip ?_ | (first | refine aExit ?_ | refine aRet ?_); try simp only [slx, ↓reduceIte, Nat.reduceEqDiff, reduceCtorEq] | (first | refine aReg ?_ | refine aDrE ?_ | refine aIf ?_); simp -implicitDefEqProofs only [forall_eq, ↓slp, slb, ↓reduceIte, reduceCtorEq, jA, jB, jC, jD, jE, jF, jG, jH, jI, jJ, jK, tfCeMkR, hA] | refine hX _ _ ?_; clear hX X | clear hX X; refine hX _ _ ?_; clear hX X | clear hX X; clear hX X; refine hX _ _ ?_; clear hX X | intro hlen; unfold maxLen at hlen | apply And.intro; focus (first | omega | assumption | (repeat' apply And.intro) <;> first | omega | assumption)))
    simp only [aPost, Try.results20, aRes_n, aRes_t, aRes_c, pack_one, pack_two]
    simp -implicitDefEqProofs only [↓slp, slb, ↓reduceIte, reduceCtorEq, jA, jB, jC, jD, jE, jF, jG, jH, jI, jJ, jK, tfCeMkR, hA]
    exact leave_cst hok (.refl m) rfl ⟨.mk 1 0 (r2 - 100) ⟨#[]⟩ [], i2, rfl, ⟨⟨⟨by omega, by omega⟩, ⟨by omega, by omega⟩, trivial⟩, ⟨fun h => absurd h (by decide), trivial⟩⟩, rfl⟩
  · have hk' : r.tmod 10 = 1 := hk
    simp -implicitDefEqProofs only [↓slp, slb, ↓reduceIte, reduceCtorEq, jA, jB, jC, jD, jE, jF, jG, jH, jI, jJ, jK, tfCeMkR, hk', hA, c0, hw, Int.reduceBEq, decide_true, decide_false]
    (repeat (first | refine aSeq fun X hX => ?_ | refine aBlk ?_ | refine aSkip ?_ | (first | refine aExit ?_ | refine aRet ?_); try simp only [slx, ↓reduceIte, Nat.reduceEqDiff, reduceCtorEq] | (first | refine aReg ?_ | refine aDrE ?_ | refine aIf ?_); simp -implicitDefEqProofs only [forall_eq, ↓slp, slb, ↓reduceIte, reduceCtorEq, jA, jB, jC, jD, jE, jF, jG, jH, jI, jJ, jK, tfCeMkR, hk', hA, c0, hw, Int.reduceBEq, decide_true, decide_false] | refine hX _ _ ?_; clear hX X | clear hX X; refine hX _ _ ?_; clear hX X | clear hX X; clear hX X; refine hX _ _ ?_; clear hX X | intro hlen; unfold maxLen at hlen | apply And.intro; focus (first | omega | assumption | (repeat' apply And.intro) <;> first | omega | assumption)))
    refine callM (nextC_any p _ (hok.ext _) i') ?_
    rintro v m' ⟨r2, i2, rfl, hr2, rfl⟩
    obtain ⟨t, ht, ht4⟩ := tmod_nat hr2.1 4 (by omega)
    have ht' : r2.tmod 4 = (t : Int) := ht
    simp -implicitDefEqProofs only [↓slp, slb, ↓reduceIte, reduceCtorEq, jA, jB, jC, jD, jE, jF, jG, jH, jI, jJ, jK, tfCeMkR, hA, ht']
    refine callE (letterC_any t (by omega) _) ?_
    have hz : (strOf [((97 + t : Nat) : Int)]).size = 1 := rfl
    have hz2 : (⟨#[118]⟩ : ByteArray).size = 1 := rfl
    simp -implicitDefEqProofs only [↓slp, slb, ↓reduceIte, reduceCtorEq, jA, jB, jC, jD, jE, jF, jG, jH, jI, jJ, jK, tfCeMkR, hA]
    refine ⟨by omega, ?_⟩
    refine callE (local_any _ _) ?_
    simp -implicitDefEqProofs only [↓slp, slb, ↓reduceIte, reduceCtorEq, jA, jB, jC, jD, jE, jF, jG, jH, jI, jJ, jK, tfCeMkR, hA]
    (repeat (first | refine aSeq fun X hX => ?_ | refine aBlk ?_ | refine aSkip ?_ | (first | refine aExit ?_ | refine aRet ?_); try simp only [slx, ↓reduceIte, Nat.reduceEqDiff, reduceCtorEq] | (first | refine aReg ?_ | refine aDrE ?_ | refine aIf ?_); simp -implicitDefEqProofs only [forall_eq, ↓slp, slb, ↓reduceIte, reduceCtorEq, jA, jB, jC, jD, jE, jF, jG, jH, jI, jJ, jK, tfCeMkR, hA] | refine hX _ _ ?_; clear hX X | clear hX X; refine hX _ _ ?_; clear hX X | clear hX X; clear hX X; refine hX _ _ ?_; clear hX X | intro hlen; unfold maxLen at hlen | apply And.intro; focus (first | omega | assumption | (repeat' apply And.intro) <;> first | omega | assumption)))
    simp only [aPost, Try.results20, aRes_n, aRes_t, aRes_c, pack_one, pack_two]
    simp -implicitDefEqProofs only [↓slp, slb, ↓reduceIte, reduceCtorEq, jA, jB, jC, jD, jE, jF, jG, jH, jI, jJ, jK, tfCeMkR, hA]
    exact leave_cst hok (.refl m) rfl ⟨.mk 2 0 0 (⟨#[118]⟩ ++ strOf [((97 + t : Nat) : Int)]) [], i2, rfl, ⟨⟨⟨by omega, by omega⟩, ⟨by omega, by omega⟩, trivial⟩, ⟨fun _ _ => ⟨t, by omega, rfl⟩, trivial⟩⟩, rfl⟩
  · have hk' : r.tmod 10 = 2 := hk
    simp -implicitDefEqProofs only [↓slp, slb, ↓reduceIte, reduceCtorEq, jA, jB, jC, jD, jE, jF, jG, jH, jI, jJ, jK, tfCeMkR, hk', hA, c0, hw, Int.reduceBEq, decide_true, decide_false]
    (repeat (first | refine aSeq fun X hX => ?_ | refine aBlk ?_ | refine aSkip ?_ | (first | refine aExit ?_ | refine aRet ?_); try simp only [slx, ↓reduceIte, Nat.reduceEqDiff, reduceCtorEq] | (first | refine aReg ?_ | refine aDrE ?_ | refine aIf ?_); simp -implicitDefEqProofs only [forall_eq, ↓slp, slb, ↓reduceIte, reduceCtorEq, jA, jB, jC, jD, jE, jF, jG, jH, jI, jJ, jK, tfCeMkR, hk', hA, c0, hw, Int.reduceBEq, decide_true, decide_false] | refine hX _ _ ?_; clear hX X | clear hX X; refine hX _ _ ?_; clear hX X | clear hX X; clear hX X; refine hX _ _ ?_; clear hX X | intro hlen; unfold maxLen at hlen | apply And.intro; focus (first | omega | assumption | (repeat' apply And.intro) <;> first | omega | assumption)))
    refine callM (nextC_any p _ (hok.ext _) i') ?_
    rintro v m' ⟨r2, i2, rfl, hr2, rfl⟩
    obtain ⟨t, ht, ht4⟩ := tmod_nat hr2.1 4 (by omega)
    have ht' : r2.tmod 4 = (t : Int) := ht
    simp -implicitDefEqProofs only [↓slp, slb, ↓reduceIte, reduceCtorEq, jA, jB, jC, jD, jE, jF, jG, jH, jI, jJ, jK, tfCeMkR, hA, ht']
    refine callE (letterC_any t (by omega) _) ?_
    have hz : (strOf [((97 + t : Nat) : Int)]).size = 1 := rfl
    have hz2 : (⟨#[118]⟩ : ByteArray).size = 1 := rfl
    simp -implicitDefEqProofs only [↓slp, slb, ↓reduceIte, reduceCtorEq, jA, jB, jC, jD, jE, jF, jG, jH, jI, jJ, jK, tfCeMkR, hA]
    refine ⟨by omega, ?_⟩
    refine callE (local_any _ _) ?_
    simp -implicitDefEqProofs only [↓slp, slb, ↓reduceIte, reduceCtorEq, jA, jB, jC, jD, jE, jF, jG, jH, jI, jJ, jK, tfCeMkR, hA]
    (repeat (first | refine aSeq fun X hX => ?_ | refine aBlk ?_ | refine aSkip ?_ | (first | refine aExit ?_ | refine aRet ?_); try simp only [slx, ↓reduceIte, Nat.reduceEqDiff, reduceCtorEq] | (first | refine aReg ?_ | refine aDrE ?_ | refine aIf ?_); simp -implicitDefEqProofs only [forall_eq, ↓slp, slb, ↓reduceIte, reduceCtorEq, jA, jB, jC, jD, jE, jF, jG, jH, jI, jJ, jK, tfCeMkR, hA] | refine hX _ _ ?_; clear hX X | clear hX X; refine hX _ _ ?_; clear hX X | clear hX X; clear hX X; refine hX _ _ ?_; clear hX X | intro hlen; unfold maxLen at hlen | apply And.intro; focus (first | omega | assumption | (repeat' apply And.intro) <;> first | omega | assumption)))
    simp only [aPost, Try.results20, aRes_n, aRes_t, aRes_c, pack_one, pack_two]
    simp -implicitDefEqProofs only [↓slp, slb, ↓reduceIte, reduceCtorEq, jA, jB, jC, jD, jE, jF, jG, jH, jI, jJ, jK, tfCeMkR, hA]
    exact leave_cst hok (.refl m) rfl ⟨.mk 2 0 0 (⟨#[118]⟩ ++ strOf [((97 + t : Nat) : Int)]) [], i2, rfl, ⟨⟨⟨by omega, by omega⟩, ⟨by omega, by omega⟩, trivial⟩, ⟨fun _ _ => ⟨t, by omega, rfl⟩, trivial⟩⟩, rfl⟩
  · have hk' : r.tmod 10 = 3 := hk
    simp -implicitDefEqProofs only [↓slp, slb, ↓reduceIte, reduceCtorEq, jA, jB, jC, jD, jE, jF, jG, jH, jI, jJ, jK, tfCeMkR, hk', hA, c0, hw, Int.reduceBEq, decide_true, decide_false]
    (repeat (first | refine aSeq fun X hX => ?_ | refine aBlk ?_ | refine aSkip ?_ | (first | refine aExit ?_ | refine aRet ?_); try simp only [slx, ↓reduceIte, Nat.reduceEqDiff, reduceCtorEq] | (first | refine aReg ?_ | refine aDrE ?_ | refine aIf ?_); simp -implicitDefEqProofs only [forall_eq, ↓slp, slb, ↓reduceIte, reduceCtorEq, jA, jB, jC, jD, jE, jF, jG, jH, jI, jJ, jK, tfCeMkR, hk', hA, c0, hw, Int.reduceBEq, decide_true, decide_false] | refine hX _ _ ?_; clear hX X | clear hX X; refine hX _ _ ?_; clear hX X | clear hX X; clear hX X; refine hX _ _ ?_; clear hX X | intro hlen; unfold maxLen at hlen | apply And.intro; focus (first | omega | assumption | (repeat' apply And.intro) <;> first | omega | assumption)))
    refine ⟨rfl, ?_⟩
    (repeat (first | refine aSeq fun X hX => ?_ | refine aBlk ?_ | refine aSkip ?_ | (first | refine aExit ?_ | refine aRet ?_); try simp only [slx, ↓reduceIte, Nat.reduceEqDiff, reduceCtorEq] | (first | refine aReg ?_ | refine aDrE ?_ | refine aIf ?_); simp -implicitDefEqProofs only [forall_eq, ↓slp, slb, ↓reduceIte, reduceCtorEq, jA, jB, jC, jD, jE, jF, jG, jH, jI, jJ, jK, tfCeMkR, hA] | refine hX _ _ ?_; clear hX X | clear hX X; refine hX _ _ ?_; clear hX X | clear hX X; clear hX X; refine hX _ _ ?_; clear hX X | intro hlen; unfold maxLen at hlen | apply And.intro; focus (first | omega | assumption | (repeat' apply And.intro) <;> first | omega | assumption)))
    refine callM (nextC_any p _ (hok.ext _) i') ?_
    rintro v m' ⟨r2, i2, rfl, hr2, rfl⟩
    obtain ⟨t, ht, ht8⟩ := tmod_nat hr2.1 8 (by omega)
    have ht' : r2.tmod 8 = (t : Int) := ht
    obtain ⟨nm, hnm⟩ : ∃ nm : Str, [PV.v (.string ⟨#[102, 97]⟩), PV.v (.string ⟨#[102, 98]⟩), PV.v (.string ⟨#[102, 97]⟩), PV.v (.string ⟨#[102, 98]⟩), PV.v (.string ⟨#[102, 97]⟩), PV.v (.string ⟨#[102, 98]⟩), PV.v (.string ⟨#[112]⟩), PV.v (.string ⟨#[110, 111]⟩)].getD t PV.junk = .v (.string nm) := name8 t ht8
    simp -implicitDefEqProofs only [↓slp, slb, ↓reduceIte, reduceCtorEq, jA, jB, jC, jD, jE, jF, jG, jH, jI, jJ, jK, tfCeMkR, hA, ht', hnm]
    (repeat (first | (intro hlen; unfold maxLen at hlen) | (apply And.intro; (focus (first | omega | assumption | trivial | (repeat' apply And.intro) <;> first | omega | assumption | trivial)))))
    (repeat (first | refine aSeq fun X hX => ?_ | refine aBlk ?_ | refine aSkip ?_ | (first | refine aExit ?_ | refine aRet ?_); try simp only [slx, ↓reduceIte, Nat.reduceEqDiff, reduceCtorEq] | (first | refine aReg ?_ | refine aDrE ?_ | refine aIf ?_); simp -implicitDefEqProofs only [forall_eq, ↓slp, slb, ↓reduceIte, reduceCtorEq, jA, jB, jC, jD, jE, jF, jG, jH, jI, jJ, jK, tfCeMkR, hA] | refine hX _ _ ?_; clear hX X | clear hX X; refine hX _ _ ?_; clear hX X | clear hX X; clear hX X; refine hX _ _ ?_; clear hX X | intro hlen; unfold maxLen at hlen | apply And.intro; focus (first | omega | assumption | (repeat' apply And.intro) <;> first | omega | assumption)))
    simp only [aPost, Try.results20, aRes_n, aRes_t, aRes_c, pack_one, pack_two]
    simp -implicitDefEqProofs only [↓slp, slb, ↓reduceIte, reduceCtorEq, jA, jB, jC, jD, jE, jF, jG, jH, jI, jJ, jK, tfCeMkR, hA]
    exact leave_cst hok (.refl m) rfl ⟨.mk 3 0 0 nm [], i2, rfl, ⟨⟨⟨by omega, by omega⟩, ⟨by omega, by omega⟩, trivial⟩, ⟨fun h => absurd h (by decide), trivial⟩⟩, rfl⟩
  · have hk' : r.tmod 10 = 4 := hk
    simp -implicitDefEqProofs only [↓slp, slb, ↓reduceIte, reduceCtorEq, jA, jB, jC, jD, jE, jF, jG, jH, jI, jJ, jK, tfCeMkR, hk', hA, c0, hw, Int.reduceBEq, decide_true, decide_false]
    (repeat (first | refine aSeq fun X hX => ?_ | refine aBlk ?_ | refine aSkip ?_ | (first | refine aExit ?_ | refine aRet ?_); try simp only [slx, ↓reduceIte, Nat.reduceEqDiff, reduceCtorEq] | (first | refine aReg ?_ | refine aDrE ?_ | refine aIf ?_); simp -implicitDefEqProofs only [forall_eq, ↓slp, slb, ↓reduceIte, reduceCtorEq, jA, jB, jC, jD, jE, jF, jG, jH, jI, jJ, jK, tfCeMkR, hk', hA, c0, hw, Int.reduceBEq, decide_true, decide_false] | refine hX _ _ ?_; clear hX X | clear hX X; refine hX _ _ ?_; clear hX X | clear hX X; clear hX X; refine hX _ _ ?_; clear hX X | intro hlen; unfold maxLen at hlen | apply And.intro; focus (first | omega | assumption | (repeat' apply And.intro) <;> first | omega | assumption)))
    refine callM (nextC_any p _ (hok.ext _) i') ?_
    rintro v m' ⟨r2, i2, rfl, hr2, rfl⟩
    obtain ⟨t, ht, ht2⟩ := tmod_nat hr2.1 2 (by omega)
    have ht' : r2.tmod 2 = (t : Int) := ht
    have w1 : IntKind.u8.wrap (t : Int) = t := IntWalk.u8_in _ (by omega)
    have w2 : IntKind.u8.wrap (1 + (t : Int)) = 1 + t := IntWalk.u8_in _ (by omega)
    simp -implicitDefEqProofs only [↓slp, slb, ↓reduceIte, reduceCtorEq, jA, jB, jC, jD, jE, jF, jG, jH, jI, jJ, jK, tfCeMkR, hA, ht', w1, w2, hw]
    refine callM (E p _ (hok.ext _) i2) ?_
    rintro v m' ⟨e1, i3, rfl, g1, rfl⟩
    simp -implicitDefEqProofs only [↓slp, slb, ↓reduceIte, reduceCtorEq, jA, jB, jC, jD, jE, jF, jG, jH, jI, jJ, jK, tfCeMkR, hA]
    (repeat (first | refine aSeq fun X hX => ?_ | refine aBlk ?_ | refine aSkip ?_ | (first | refine aExit ?_ | refine aRet ?_); try simp only [slx, ↓reduceIte, Nat.reduceEqDiff, reduceCtorEq] | (first | refine aReg ?_ | refine aDrE ?_ | refine aIf ?_); simp -implicitDefEqProofs only [forall_eq, ↓slp, slb, ↓reduceIte, reduceCtorEq, jA, jB, jC, jD, jE, jF, jG, jH, jI, jJ, jK, tfCeMkR, hA] | refine hX _ _ ?_; clear hX X | clear hX X; refine hX _ _ ?_; clear hX X | clear hX X; clear hX X; refine hX _ _ ?_; clear hX X | intro hlen; unfold maxLen at hlen | apply And.intro; focus (first | omega | assumption | (repeat' apply And.intro) <;> first | omega | assumption)))
    simp only [aPost, Try.results20, aRes_n, aRes_t, aRes_c, pack_one, pack_two]
    simp -implicitDefEqProofs only [↓slp, slb, ↓reduceIte, reduceCtorEq, jA, jB, jC, jD, jE, jF, jG, jH, jI, jJ, jK, tfCeMkR, hA]
    exact leave_cst hok (.refl m) (by simp only [CE.foldcs, CE.fold, PV.settle, PV.settles, CE.settle_pv]; rfl) ⟨.mk 4 (1 + t) 0 ⟨#[]⟩ [e1], i3, by simp only [CE.foldcs, CE.fold, PV.settle, PV.settles, CE.settle_pv]; rfl, ⟨⟨⟨by omega, by omega⟩, ⟨by omega, by omega⟩, g1.1, trivial⟩, ⟨fun h => absurd h (by decide), g1.2, trivial⟩⟩, rfl⟩
  · have hk' : r.tmod 10 = 5 := hk
    simp -implicitDefEqProofs only [↓slp, slb, ↓reduceIte, reduceCtorEq, jA, jB, jC, jD, jE, jF, jG, jH, jI, jJ, jK, tfCeMkR, hk', hA, c0, hw, Int.reduceBEq, decide_true, decide_false]
    (repeat (first | refine aSeq fun X hX => ?_ | refine aBlk ?_ | refine aSkip ?_ | (first | refine aExit ?_ | refine aRet ?_); try simp only [slx, ↓reduceIte, Nat.reduceEqDiff, reduceCtorEq] | (first | refine aReg ?_ | refine aDrE ?_ | refine aIf ?_); simp -implicitDefEqProofs only [forall_eq, ↓slp, slb, ↓reduceIte, reduceCtorEq, jA, jB, jC, jD, jE, jF, jG, jH, jI, jJ, jK, tfCeMkR, hk', hA, c0, hw, Int.reduceBEq, decide_true, decide_false] | refine hX _ _ ?_; clear hX X | clear hX X; refine hX _ _ ?_; clear hX X | clear hX X; clear hX X; refine hX _ _ ?_; clear hX X | intro hlen; unfold maxLen at hlen | apply And.intro; focus (first | omega | assumption | (repeat' apply And.intro) <;> first | omega | assumption)))
    refine callM (E p _ (hok.ext _) i') ?_
    rintro v m' ⟨e1, i2, rfl, g1, rfl⟩
    simp -implicitDefEqProofs only [↓slp, slb, ↓reduceIte, reduceCtorEq, jA, jB, jC, jD, jE, jF, jG, jH, jI, jJ, jK, tfCeMkR, hA, hw]
    (repeat (first | refine aSeq fun X hX => ?_ | refine aBlk ?_ | refine aSkip ?_ | (first | refine aExit ?_ | refine aRet ?_); try simp only [slx, ↓reduceIte, Nat.reduceEqDiff, reduceCtorEq] | (first | refine aReg ?_ | refine aDrE ?_ | refine aIf ?_); simp -implicitDefEqProofs only [forall_eq, ↓slp, slb, ↓reduceIte, reduceCtorEq, jA, jB, jC, jD, jE, jF, jG, jH, jI, jJ, jK, tfCeMkR, hA, hw] | refine hX _ _ ?_; clear hX X | clear hX X; refine hX _ _ ?_; clear hX X | clear hX X; clear hX X; refine hX _ _ ?_; clear hX X | intro hlen; unfold maxLen at hlen | apply And.intro; focus (first | omega | assumption | (repeat' apply And.intro) <;> first | omega | assumption)))
    refine callM (E p _ (hok.ext _) i2) ?_
    rintro v m' ⟨e2, i3, rfl, g2, rfl⟩
    simp -implicitDefEqProofs only [↓slp, slb, ↓reduceIte, reduceCtorEq, jA, jB, jC, jD, jE, jF, jG, jH, jI, jJ, jK, tfCeMkR, hA, hw]
    (repeat (first | refine aSeq fun X hX => ?_ | refine aBlk ?_ | refine aSkip ?_ | (first | refine aExit ?_ | refine aRet ?_); try simp only [slx, ↓reduceIte, Nat.reduceEqDiff, reduceCtorEq] | (first | refine aReg ?_ | refine aIf ?_); simp -implicitDefEqProofs only [forall_eq, ↓slp, slb, ↓reduceIte, reduceCtorEq, jA, jB, jC, jD, jE, jF, jG, jH, jI, jJ, jK, tfCeMkR, hA, hw] | refine hX _ _ ?_; clear hX X | clear hX X; refine hX _ _ ?_; clear hX X | clear hX X; clear hX X; refine hX _ _ ?_; clear hX X | intro hlen; unfold maxLen at hlen | apply And.intro; focus (first | omega | assumption | (repeat' apply And.intro) <;> first | omega | assumption)))
    refine aDrw (fun _ => True) (by kernel_rfl) trivial ?_
    simp -implicitDefEqProofs only [↓slp, slb, ↓reduceIte, reduceCtorEq, jA, jB, jC, jD, jE, jF, jG, jH, jI, jJ, jK, tfCeMkR, hA, hw]
    refine callM (E p _ (hok.ext _) i3) ?_
    rintro v m' ⟨e3, i4, rfl, g3, rfl⟩
    refine ⟨trivial, ?_⟩
    simp -implicitDefEqProofs only [↓slp, slb, ↓reduceIte, reduceCtorEq, jA, jB, jC, jD, jE, jF, jG, jH, jI, jJ, jK, tfCeMkR, hA]
    (repeat (first | refine aSeq fun X hX => ?_ | refine aBlk ?_ | refine aSkip ?_ | (first | refine aExit ?_ | refine aRet ?_); try simp only [slx, ↓reduceIte, Nat.reduceEqDiff, reduceCtorEq] | (first | refine aReg ?_ | refine aDrE ?_ | refine aIf ?_); simp -implicitDefEqProofs only [forall_eq, ↓slp, slb, ↓reduceIte, reduceCtorEq, jA, jB, jC, jD, jE, jF, jG, jH, jI, jJ, jK, tfCeMkR, hA] | refine hX _ _ ?_; clear hX X | clear hX X; refine hX _ _ ?_; clear hX X | clear hX X; clear hX X; refine hX _ _ ?_; clear hX X | intro hlen; unfold maxLen at hlen | apply And.intro; focus (first | omega | assumption | (repeat' apply And.intro) <;> first | omega | assumption)))
    simp only [aPost, Try.results20, aRes_n, aRes_t, aRes_c, pack_one, pack_two]
    simp -implicitDefEqProofs only [↓slp, slb, ↓reduceIte, reduceCtorEq, jA, jB, jC, jD, jE, jF, jG, jH, jI, jJ, jK, tfCeMkR, hA]
    exact leave_cst hok (.refl m) (by simp only [CE.foldcs, CE.fold, PV.settle, PV.settles, CE.settle_pv]; rfl) ⟨.mk 6 0 0 ⟨#[]⟩ [e1, e2, e3], i4, by simp only [CE.foldcs, CE.fold, PV.settle, PV.settles, CE.settle_pv]; rfl, ⟨⟨⟨by omega, by omega⟩, ⟨by omega, by omega⟩, g1.1, g2.1, g3.1, trivial⟩, ⟨fun h => absurd h (by decide), g1.2, g2.2, g3.2, trivial⟩⟩, rfl⟩
  · have hk' : r.tmod 10 = 6 := hk
    simp -implicitDefEqProofs only [↓slp, slb, ↓reduceIte, reduceCtorEq, jA, jB, jC, jD, jE, jF, jG, jH, jI, jJ, jK, tfCeMkR, hk', hA, c0, hw, Int.reduceBEq, decide_true, decide_false]
    (repeat (first | refine aSeq fun X hX => ?_ | refine aBlk ?_ | refine aSkip ?_ | (first | refine aExit ?_ | refine aRet ?_); try simp only [slx, ↓reduceIte, Nat.reduceEqDiff, reduceCtorEq] | (first | refine aReg ?_ | refine aDrE ?_ | refine aIf ?_); simp -implicitDefEqProofs only [forall_eq, ↓slp, slb, ↓reduceIte, reduceCtorEq, jA, jB, jC, jD, jE, jF, jG, jH, jI, jJ, jK, tfCeMkR, hk', hA, c0, hw, Int.reduceBEq, decide_true, decide_false] | refine hX _ _ ?_; clear hX X | clear hX X; refine hX _ _ ?_; clear hX X | clear hX X; clear hX X; refine hX _ _ ?_; clear hX X | intro hlen; unfold maxLen at hlen | apply And.intro; focus (first | omega | assumption | (repeat' apply And.intro) <;> first | omega | assumption)))
    refine callM (nextC_any p _ (hok.ext _) i') ?_
    rintro v m' ⟨r2, i2, rfl, hr2, rfl⟩
    cases c6 : (r2.tmod 16 == 0) with
    | true =>
      simp -implicitDefEqProofs only [↓slp, slb, ↓reduceIte, reduceCtorEq, jA, jB, jC, jD, jE, jF, jG, jH, jI, jJ, jK, tfCeMkR, hA, c6, hw]
      (repeat (first | refine aSeq fun X hX => ?_ | refine aBlk ?_ | refine aSkip ?_ | (first | refine aExit ?_ | refine aRet ?_); try simp only [slx, ↓reduceIte, Nat.reduceEqDiff, reduceCtorEq] | (first | refine aReg ?_ | refine aDrE ?_ | refine aIf ?_); simp -implicitDefEqProofs only [forall_eq, ↓slp, slb, ↓reduceIte, reduceCtorEq, jA, jB, jC, jD, jE, jF, jG, jH, jI, jJ, jK, tfCeMkR, hA, c6, hw] | refine hX _ _ ?_; clear hX X | clear hX X; refine hX _ _ ?_; clear hX X | clear hX X; clear hX X; refine hX _ _ ?_; clear hX X | intro hlen; unfold maxLen at hlen | apply And.intro; focus (first | omega | assumption | (repeat' apply And.intro) <;> first | omega | assumption)))
      refine callM (nextC_any p _ (hok.ext _) i2) ?_
      rintro v m' ⟨r3, i3, rfl, hr3, rfl⟩
      obtain ⟨t, ht, ht9⟩ := tmod_nat hr3.1 9 (by omega)
      have ht' : r3.tmod 9 = (t : Int) := ht
      have w1 : IntKind.u8.wrap (t : Int) = t := IntWalk.u8_in _ (by omega)
      simp -implicitDefEqProofs only [↓slp, slb, ↓reduceIte, reduceCtorEq, jA, jB, jC, jD, jE, jF, jG, jH, jI, jJ, jK, tfCeMkR, hA, ht', w1]
      refine callE (num_any _ _) ?_
      simp -implicitDefEqProofs only [↓slp, slb, ↓reduceIte, reduceCtorEq, jA, jB, jC, jD, jE, jF, jG, jH, jI, jJ, jK, tfCeMkR, hA]
      (repeat (first | refine aSeq fun X hX => ?_ | refine aBlk ?_ | refine aSkip ?_ | (first | refine aExit ?_ | refine aRet ?_); try simp only [slx, ↓reduceIte, Nat.reduceEqDiff, reduceCtorEq] | (first | refine aReg ?_ | refine aDrE ?_ | refine aIf ?_); simp -implicitDefEqProofs only [forall_eq, ↓slp, slb, ↓reduceIte, reduceCtorEq, jA, jB, jC, jD, jE, jF, jG, jH, jI, jJ, jK, tfCeMkR, hA] | refine hX _ _ ?_; clear hX X | clear hX X; refine hX _ _ ?_; clear hX X | clear hX X; clear hX X; refine hX _ _ ?_; clear hX X | intro hlen; unfold maxLen at hlen | apply And.intro; focus (first | omega | assumption | (repeat' apply And.intro) <;> first | omega | assumption)))
      simp only [aPost, Try.results20, aRes_n, aRes_t, aRes_c, pack_one, pack_two]
      simp -implicitDefEqProofs only [↓slp, slb, ↓reduceIte, reduceCtorEq, jA, jB, jC, jD, jE, jF, jG, jH, jI, jJ, jK, tfCeMkR, hA]
      exact leave_cst hok (.refl m) (by simp only [CE.foldcs, CE.fold, PV.settle, PV.settles, CE.settle_pv]; rfl) ⟨.mk t 0 0 ⟨#[]⟩ [.mk 1 0 1 ⟨#[]⟩ []], i3, by simp only [CE.foldcs, CE.fold, PV.settle, PV.settles, CE.settle_pv]; rfl, ⟨⟨⟨by omega, by omega⟩, ⟨by omega, by omega⟩, ⟨⟨by omega, by omega⟩, ⟨by omega, by omega⟩, trivial⟩, trivial⟩, ⟨(fun _ h => absurd h (by simp)), ⟨fun h => absurd h (by decide), trivial⟩, trivial⟩⟩, rfl⟩
    | false =>
      simp -implicitDefEqProofs only [↓slp, slb, ↓reduceIte, reduceCtorEq, jA, jB, jC, jD, jE, jF, jG, jH, jI, jJ, jK, tfCeMkR, hA, c6, hw]
      (repeat (first | refine aSeq fun X hX => ?_ | refine aBlk ?_ | refine aSkip ?_ | (first | refine aExit ?_ | refine aRet ?_); try simp only [slx, ↓reduceIte, Nat.reduceEqDiff, reduceCtorEq] | (first | refine aReg ?_ | refine aDrE ?_ | refine aIf ?_); simp -implicitDefEqProofs only [forall_eq, ↓slp, slb, ↓reduceIte, reduceCtorEq, jA, jB, jC, jD, jE, jF, jG, jH, jI, jJ, jK, tfCeMkR, hA, c6, hw] | refine hX _ _ ?_; clear hX X | clear hX X; refine hX _ _ ?_; clear hX X | clear hX X; clear hX X; refine hX _ _ ?_; clear hX X | intro hlen; unfold maxLen at hlen | apply And.intro; focus (first | omega | assumption | (repeat' apply And.intro) <;> first | omega | assumption)))
      refine callM (nextC_any p _ (hok.ext _) i2) ?_
      rintro v m' ⟨s2, j2, rfl, hs2, rfl⟩
      obtain ⟨u, hu, hu14⟩ := tmod_nat hs2.1 14 (by omega)
      have hu' : s2.tmod 14 = (u : Int) := hu
      have w3 : IntKind.u8.wrap (u : Int) = u := IntWalk.u8_in _ (by omega)
      have w4 : IntKind.u8.wrap (3 + (u : Int)) = 3 + u := IntWalk.u8_in _ (by omega)
      simp -implicitDefEqProofs only [↓slp, slb, ↓reduceIte, reduceCtorEq, jA, jB, jC, jD, jE, jF, jG, jH, jI, jJ, jK, tfCeMkR, hA, hu', w3, w4, hw]
      (repeat (first | refine aSeq fun X hX => ?_ | refine aBlk ?_ | refine aSkip ?_ | (first | refine aExit ?_ | refine aRet ?_); try simp only [slx, ↓reduceIte, Nat.reduceEqDiff, reduceCtorEq] | (first | refine aReg ?_ | refine aDrE ?_ | refine aIf ?_); simp -implicitDefEqProofs only [forall_eq, ↓slp, slb, ↓reduceIte, reduceCtorEq, jA, jB, jC, jD, jE, jF, jG, jH, jI, jJ, jK, tfCeMkR, hA, hu', w3, w4, hw] | refine hX _ _ ?_; clear hX X | clear hX X; refine hX _ _ ?_; clear hX X | clear hX X; clear hX X; refine hX _ _ ?_; clear hX X | intro hlen; unfold maxLen at hlen | apply And.intro; focus (first | omega | assumption | (repeat' apply And.intro) <;> first | omega | assumption)))
      refine callM (E p _ (hok.ext _) j2) ?_
      rintro v m' ⟨e1, i2, rfl, g1, rfl⟩
      simp -implicitDefEqProofs only [↓slp, slb, ↓reduceIte, reduceCtorEq, jA, jB, jC, jD, jE, jF, jG, jH, jI, jJ, jK, tfCeMkR, hA, hw]
      (repeat (first | refine aSeq fun X hX => ?_ | refine aBlk ?_ | refine aSkip ?_ | (first | refine aExit ?_ | refine aRet ?_); try simp only [slx, ↓reduceIte, Nat.reduceEqDiff, reduceCtorEq] | (first | refine aReg ?_ | refine aIf ?_); simp -implicitDefEqProofs only [forall_eq, ↓slp, slb, ↓reduceIte, reduceCtorEq, jA, jB, jC, jD, jE, jF, jG, jH, jI, jJ, jK, tfCeMkR, hA, hw] | refine hX _ _ ?_; clear hX X | clear hX X; refine hX _ _ ?_; clear hX X | clear hX X; clear hX X; refine hX _ _ ?_; clear hX X | intro hlen; unfold maxLen at hlen | apply And.intro; focus (first | omega | assumption | (repeat' apply And.intro) <;> first | omega | assumption)))
      refine aDrw (fun _ => True) (by kernel_rfl) trivial ?_
      simp -implicitDefEqProofs only [↓slp, slb, ↓reduceIte, reduceCtorEq, jA, jB, jC, jD, jE, jF, jG, jH, jI, jJ, jK, tfCeMkR, hA, hw]
      refine callM (E p _ (hok.ext _) i2) ?_
      rintro v m' ⟨e2, i3, rfl, g2, rfl⟩
      refine ⟨trivial, ?_⟩
      simp -implicitDefEqProofs only [↓slp, slb, ↓reduceIte, reduceCtorEq, jA, jB, jC, jD, jE, jF, jG, jH, jI, jJ, jK, tfCeMkR, hA]
      (repeat (first | refine aSeq fun X hX => ?_ | refine aBlk ?_ | refine aSkip ?_ | (first | refine aExit ?_ | refine aRet ?_); try simp only [slx, ↓reduceIte, Nat.reduceEqDiff, reduceCtorEq] | (first | refine aReg ?_ | refine aDrE ?_ | refine aIf ?_); simp -implicitDefEqProofs only [forall_eq, ↓slp, slb, ↓reduceIte, reduceCtorEq, jA, jB, jC, jD, jE, jF, jG, jH, jI, jJ, jK, tfCeMkR, hA] | refine hX _ _ ?_; clear hX X | clear hX X; refine hX _ _ ?_; clear hX X | clear hX X; clear hX X; refine hX _ _ ?_; clear hX X | intro hlen; unfold maxLen at hlen | apply And.intro; focus (first | omega | assumption | (repeat' apply And.intro) <;> first | omega | assumption)))
      simp only [aPost, Try.results20, aRes_n, aRes_t, aRes_c, pack_one, pack_two]
      simp -implicitDefEqProofs only [↓slp, slb, ↓reduceIte, reduceCtorEq, jA, jB, jC, jD, jE, jF, jG, jH, jI, jJ, jK, tfCeMkR, hA]
      exact leave_cst hok (.refl m) (by simp only [CE.foldcs, CE.fold, PV.settle, PV.settles, CE.settle_pv]; rfl) ⟨.mk 5 (3 + u) 0 ⟨#[]⟩ [e1, e2], i3, by simp only [CE.foldcs, CE.fold, PV.settle, PV.settles, CE.settle_pv]; rfl, ⟨⟨⟨by omega, by omega⟩, ⟨by omega, by omega⟩, g1.1, g2.1, trivial⟩, ⟨fun h => absurd h (by decide), g1.2, g2.2, trivial⟩⟩, rfl⟩
  · have hk' : r.tmod 10 = 7 := hk
    simp -implicitDefEqProofs only [↓slp, slb, ↓reduceIte, reduceCtorEq, jA, jB, jC, jD, jE, jF, jG, jH, jI, jJ, jK, tfCeMkR, hk', hA, c0, hw, Int.reduceBEq, decide_true, decide_false]
    (repeat (first | refine aSeq fun X hX => ?_ | refine aBlk ?_ | refine aSkip ?_ | (first | refine aExit ?_ | refine aRet ?_); try simp only [slx, ↓reduceIte, Nat.reduceEqDiff, reduceCtorEq] | (first | refine aReg ?_ | refine aDrE ?_ | refine aIf ?_); simp -implicitDefEqProofs only [forall_eq, ↓slp, slb, ↓reduceIte, reduceCtorEq, jA, jB, jC, jD, jE, jF, jG, jH, jI, jJ, jK, tfCeMkR, hk', hA, c0, hw, Int.reduceBEq, decide_true, decide_false] | refine hX _ _ ?_; clear hX X | clear hX X; refine hX _ _ ?_; clear hX X | clear hX X; clear hX X; refine hX _ _ ?_; clear hX X | intro hlen; unfold maxLen at hlen | apply And.intro; focus (first | omega | assumption | (repeat' apply And.intro) <;> first | omega | assumption)))
    refine callM (nextC_any p _ (hok.ext _) i') ?_
    rintro v m' ⟨s2, j2, rfl, hs2, rfl⟩
    obtain ⟨u, hu, hu14⟩ := tmod_nat hs2.1 14 (by omega)
    have hu' : s2.tmod 14 = (u : Int) := hu
    have w3 : IntKind.u8.wrap (u : Int) = u := IntWalk.u8_in _ (by omega)
    have w4 : IntKind.u8.wrap (3 + (u : Int)) = 3 + u := IntWalk.u8_in _ (by omega)
    simp -implicitDefEqProofs only [↓slp, slb, ↓reduceIte, reduceCtorEq, jA, jB, jC, jD, jE, jF, jG, jH, jI, jJ, jK, tfCeMkR, hA, hu', w3, w4, hw]
    (repeat (first | refine aSeq fun X hX => ?_ | refine aBlk ?_ | refine aSkip ?_ | (first | refine aExit ?_ | refine aRet ?_); try simp only [slx, ↓reduceIte, Nat.reduceEqDiff, reduceCtorEq] | (first | refine aReg ?_ | refine aDrE ?_ | refine aIf ?_); simp -implicitDefEqProofs only [forall_eq, ↓slp, slb, ↓reduceIte, reduceCtorEq, jA, jB, jC, jD, jE, jF, jG, jH, jI, jJ, jK, tfCeMkR, hA, hu', w3, w4, hw] | refine hX _ _ ?_; clear hX X | clear hX X; refine hX _ _ ?_; clear hX X | clear hX X; clear hX X; refine hX _ _ ?_; clear hX X | intro hlen; unfold maxLen at hlen | apply And.intro; focus (first | omega | assumption | (repeat' apply And.intro) <;> first | omega | assumption)))
    refine callM (E p _ (hok.ext _) j2) ?_
    rintro v m' ⟨e1, i2, rfl, g1, rfl⟩
    simp -implicitDefEqProofs only [↓slp, slb, ↓reduceIte, reduceCtorEq, jA, jB, jC, jD, jE, jF, jG, jH, jI, jJ, jK, tfCeMkR, hA, hw]
    (repeat (first | refine aSeq fun X hX => ?_ | refine aBlk ?_ | refine aSkip ?_ | (first | refine aExit ?_ | refine aRet ?_); try simp only [slx, ↓reduceIte, Nat.reduceEqDiff, reduceCtorEq] | (first | refine aReg ?_ | refine aIf ?_); simp -implicitDefEqProofs only [forall_eq, ↓slp, slb, ↓reduceIte, reduceCtorEq, jA, jB, jC, jD, jE, jF, jG, jH, jI, jJ, jK, tfCeMkR, hA, hw] | refine hX _ _ ?_; clear hX X | clear hX X; refine hX _ _ ?_; clear hX X | clear hX X; clear hX X; refine hX _ _ ?_; clear hX X | intro hlen; unfold maxLen at hlen | apply And.intro; focus (first | omega | assumption | (repeat' apply And.intro) <;> first | omega | assumption)))
    refine aDrw (fun _ => True) (by kernel_rfl) trivial ?_
    simp -implicitDefEqProofs only [↓slp, slb, ↓reduceIte, reduceCtorEq, jA, jB, jC, jD, jE, jF, jG, jH, jI, jJ, jK, tfCeMkR, hA, hw]
    refine callM (E p _ (hok.ext _) i2) ?_
    rintro v m' ⟨e2, i3, rfl, g2, rfl⟩
    refine ⟨trivial, ?_⟩
    simp -implicitDefEqProofs only [↓slp, slb, ↓reduceIte, reduceCtorEq, jA, jB, jC, jD, jE, jF, jG, jH, jI, jJ, jK, tfCeMkR, hA]
    (repeat (first | refine aSeq fun X hX => ?_ | refine aBlk ?_ | refine aSkip ?_ | (first | refine aExit ?_ | refine aRet ?_); try simp only [slx, ↓reduceIte, Nat.reduceEqDiff, reduceCtorEq] | (first | refine aReg ?_ | refine aDrE ?_ | refine aIf ?_); simp -implicitDefEqProofs only [forall_eq, ↓slp, slb, ↓reduceIte, reduceCtorEq, jA, jB, jC, jD, jE, jF, jG, jH, jI, jJ, jK, tfCeMkR, hA] | refine hX _ _ ?_; clear hX X | clear hX X; refine hX _ _ ?_; clear hX X | clear hX X; clear hX X; refine hX _ _ ?_; clear hX X | intro hlen; unfold maxLen at hlen | apply And.intro; focus (first | omega | assumption | (repeat' apply And.intro) <;> first | omega | assumption)))
    simp only [aPost, Try.results20, aRes_n, aRes_t, aRes_c, pack_one, pack_two]
    simp -implicitDefEqProofs only [↓slp, slb, ↓reduceIte, reduceCtorEq, jA, jB, jC, jD, jE, jF, jG, jH, jI, jJ, jK, tfCeMkR, hA]
    exact leave_cst hok (.refl m) (by simp only [CE.foldcs, CE.fold, PV.settle, PV.settles, CE.settle_pv]; rfl) ⟨.mk 5 (3 + u) 0 ⟨#[]⟩ [e1, e2], i3, by simp only [CE.foldcs, CE.fold, PV.settle, PV.settles, CE.settle_pv]; rfl, ⟨⟨⟨by omega, by omega⟩, ⟨by omega, by omega⟩, g1.1, g2.1, trivial⟩, ⟨fun h => absurd h (by decide), g1.2, g2.2, trivial⟩⟩, rfl⟩
  · have hk' : r.tmod 10 = 8 := hk
    simp -implicitDefEqProofs only [↓slp, slb, ↓reduceIte, reduceCtorEq, jA, jB, jC, jD, jE, jF, jG, jH, jI, jJ, jK, tfCeMkR, hk', hA, c0, hw, Int.reduceBEq, decide_true, decide_false]
    (repeat (first | refine aSeq fun X hX => ?_ | refine aBlk ?_ | refine aSkip ?_ | (first | refine aExit ?_ | refine aRet ?_); try simp only [slx, ↓reduceIte, Nat.reduceEqDiff, reduceCtorEq] | (first | refine aReg ?_ | refine aDrE ?_ | refine aIf ?_); simp -implicitDefEqProofs only [forall_eq, ↓slp, slb, ↓reduceIte, reduceCtorEq, jA, jB, jC, jD, jE, jF, jG, jH, jI, jJ, jK, tfCeMkR, hk', hA, c0, hw, Int.reduceBEq, decide_true, decide_false] | refine hX _ _ ?_; clear hX X | clear hX X; refine hX _ _ ?_; clear hX X | clear hX X; clear hX X; refine hX _ _ ?_; clear hX X | intro hlen; unfold maxLen at hlen | apply And.intro; focus (first | omega | assumption | (repeat' apply And.intro) <;> first | omega | assumption)))
    refine callM (nextC_any p _ (hok.ext _) i') ?_
    rintro v m' ⟨s2, j2, rfl, hs2, rfl⟩
    obtain ⟨u, hu, hu14⟩ := tmod_nat hs2.1 14 (by omega)
    have hu' : s2.tmod 14 = (u : Int) := hu
    have w3 : IntKind.u8.wrap (u : Int) = u := IntWalk.u8_in _ (by omega)
    have w4 : IntKind.u8.wrap (3 + (u : Int)) = 3 + u := IntWalk.u8_in _ (by omega)
    simp -implicitDefEqProofs only [↓slp, slb, ↓reduceIte, reduceCtorEq, jA, jB, jC, jD, jE, jF, jG, jH, jI, jJ, jK, tfCeMkR, hA, hu', w3, w4, hw]
    (repeat (first | refine aSeq fun X hX => ?_ | refine aBlk ?_ | refine aSkip ?_ | (first | refine aExit ?_ | refine aRet ?_); try simp only [slx, ↓reduceIte, Nat.reduceEqDiff, reduceCtorEq] | (first | refine aReg ?_ | refine aDrE ?_ | refine aIf ?_); simp -implicitDefEqProofs only [forall_eq, ↓slp, slb, ↓reduceIte, reduceCtorEq, jA, jB, jC, jD, jE, jF, jG, jH, jI, jJ, jK, tfCeMkR, hA, hu', w3, w4, hw] | refine hX _ _ ?_; clear hX X | clear hX X; refine hX _ _ ?_; clear hX X | clear hX X; clear hX X; refine hX _ _ ?_; clear hX X | intro hlen; unfold maxLen at hlen | apply And.intro; focus (first | omega | assumption | (repeat' apply And.intro) <;> first | omega | assumption)))
    refine callM (E p _ (hok.ext _) j2) ?_
    rintro v m' ⟨e1, i2, rfl, g1, rfl⟩
    simp -implicitDefEqProofs only [↓slp, slb, ↓reduceIte, reduceCtorEq, jA, jB, jC, jD, jE, jF, jG, jH, jI, jJ, jK, tfCeMkR, hA, hw]
    (repeat (first | refine aSeq fun X hX => ?_ | refine aBlk ?_ | refine aSkip ?_ | (first | refine aExit ?_ | refine aRet ?_); try simp only [slx, ↓reduceIte, Nat.reduceEqDiff, reduceCtorEq] | (first | refine aReg ?_ | refine aIf ?_); simp -implicitDefEqProofs only [forall_eq, ↓slp, slb, ↓reduceIte, reduceCtorEq, jA, jB, jC, jD, jE, jF, jG, jH, jI, jJ, jK, tfCeMkR, hA, hw] | refine hX _ _ ?_; clear hX X | clear hX X; refine hX _ _ ?_; clear hX X | clear hX X; clear hX X; refine hX _ _ ?_; clear hX X | intro hlen; unfold maxLen at hlen | apply And.intro; focus (first | omega | assumption | (repeat' apply And.intro) <;> first | omega | assumption)))
    refine aDrw (fun _ => True) (by kernel_rfl) trivial ?_
    simp -implicitDefEqProofs only [↓slp, slb, ↓reduceIte, reduceCtorEq, jA, jB, jC, jD, jE, jF, jG, jH, jI, jJ, jK, tfCeMkR, hA, hw]
    refine callM (E p _ (hok.ext _) i2) ?_
    rintro v m' ⟨e2, i3, rfl, g2, rfl⟩
    refine ⟨trivial, ?_⟩
    simp -implicitDefEqProofs only [↓slp, slb, ↓reduceIte, reduceCtorEq, jA, jB, jC, jD, jE, jF, jG, jH, jI, jJ, jK, tfCeMkR, hA]
    (repeat (first | refine aSeq fun X hX => ?_ | refine aBlk ?_ | refine aSkip ?_ | (first | refine aExit ?_ | refine aRet ?_); try simp only [slx, ↓reduceIte, Nat.reduceEqDiff, reduceCtorEq] | (first | refine aReg ?_ | refine aDrE ?_ | refine aIf ?_); simp -implicitDefEqProofs only [forall_eq, ↓slp, slb, ↓reduceIte, reduceCtorEq, jA, jB, jC, jD, jE, jF, jG, jH, jI, jJ, jK, tfCeMkR, hA] | refine hX _ _ ?_; clear hX X | clear hX X; refine hX _ _ ?_; clear hX X | clear hX X; clear hX X; refine hX _ _ ?_; clear hX X | intro hlen; unfold maxLen at hlen | apply And.intro; focus (first | omega | assumption | (repeat' apply And.intro) <;> first | omega | assumption)))
    simp only [aPost, Try.results20, aRes_n, aRes_t, aRes_c, pack_one, pack_two]
    simp -implicitDefEqProofs only [↓slp, slb, ↓reduceIte, reduceCtorEq, jA, jB, jC, jD, jE, jF, jG, jH, jI, jJ, jK, tfCeMkR, hA]
    exact leave_cst hok (.refl m) (by simp only [CE.foldcs, CE.fold, PV.settle, PV.settles, CE.settle_pv]; rfl) ⟨.mk 5 (3 + u) 0 ⟨#[]⟩ [e1, e2], i3, by simp only [CE.foldcs, CE.fold, PV.settle, PV.settles, CE.settle_pv]; rfl, ⟨⟨⟨by omega, by omega⟩, ⟨by omega, by omega⟩, g1.1, g2.1, trivial⟩, ⟨fun h => absurd h (by decide), g1.2, g2.2, trivial⟩⟩, rfl⟩
  · have hk' : r.tmod 10 = 9 := hk
    simp -implicitDefEqProofs only [↓slp, slb, ↓reduceIte, reduceCtorEq, jA, jB, jC, jD, jE, jF, jG, jH, jI, jJ, jK, tfCeMkR, hk', hA, c0, hw, Int.reduceBEq, decide_true, decide_false]
    (repeat (first | refine aSeq fun X hX => ?_ | refine aBlk ?_ | refine aSkip ?_ | (first | refine aExit ?_ | refine aRet ?_); try simp only [slx, ↓reduceIte, Nat.reduceEqDiff, reduceCtorEq] | (first | refine aReg ?_ | refine aDrE ?_ | refine aIf ?_); simp -implicitDefEqProofs only [forall_eq, ↓slp, slb, ↓reduceIte, reduceCtorEq, jA, jB, jC, jD, jE, jF, jG, jH, jI, jJ, jK, tfCeMkR, hk', hA, c0, hw, Int.reduceBEq, decide_true, decide_false] | refine hX _ _ ?_; clear hX X | clear hX X; refine hX _ _ ?_; clear hX X | clear hX X; clear hX X; refine hX _ _ ?_; clear hX X | intro hlen; unfold maxLen at hlen | apply And.intro; focus (first | omega | assumption | (repeat' apply And.intro) <;> first | omega | assumption)))
    refine callM (nextC_any p _ (hok.ext _) i') ?_
    rintro v m' ⟨s2, j2, rfl, hs2, rfl⟩
    obtain ⟨u, hu, hu14⟩ := tmod_nat hs2.1 14 (by omega)
    have hu' : s2.tmod 14 = (u : Int) := hu
    have w3 : IntKind.u8.wrap (u : Int) = u := IntWalk.u8_in _ (by omega)
    have w4 : IntKind.u8.wrap (3 + (u : Int)) = 3 + u := IntWalk.u8_in _ (by omega)
    simp -implicitDefEqProofs only [↓slp, slb, ↓reduceIte, reduceCtorEq, jA, jB, jC, jD, jE, jF, jG, jH, jI, jJ, jK, tfCeMkR, hA, hu', w3, w4, hw]
    (repeat (first | refine aSeq fun X hX => ?_ | refine aBlk ?_ | refine aSkip ?_ | (first | refine aExit ?_ | refine aRet ?_); try simp only [slx, ↓reduceIte, Nat.reduceEqDiff, reduceCtorEq] | (first | refine aReg ?_ | refine aDrE ?_ | refine aIf ?_); simp -implicitDefEqProofs only [forall_eq, ↓slp, slb, ↓reduceIte, reduceCtorEq, jA, jB, jC, jD, jE, jF, jG, jH, jI, jJ, jK, tfCeMkR, hA, hu', w3, w4, hw] | refine hX _ _ ?_; clear hX X | clear hX X; refine hX _ _ ?_; clear hX X | clear hX X; clear hX X; refine hX _ _ ?_; clear hX X | intro hlen; unfold maxLen at hlen | apply And.intro; focus (first | omega | assumption | (repeat' apply And.intro) <;> first | omega | assumption)))
    refine callM (E p _ (hok.ext _) j2) ?_
    rintro v m' ⟨e1, i2, rfl, g1, rfl⟩
    simp -implicitDefEqProofs only [↓slp, slb, ↓reduceIte, reduceCtorEq, jA, jB, jC, jD, jE, jF, jG, jH, jI, jJ, jK, tfCeMkR, hA, hw]
    (repeat (first | refine aSeq fun X hX => ?_ | refine aBlk ?_ | refine aSkip ?_ | (first | refine aExit ?_ | refine aRet ?_); try simp only [slx, ↓reduceIte, Nat.reduceEqDiff, reduceCtorEq] | (first | refine aReg ?_ | refine aIf ?_); simp -implicitDefEqProofs only [forall_eq, ↓slp, slb, ↓reduceIte, reduceCtorEq, jA, jB, jC, jD, jE, jF, jG, jH, jI, jJ, jK, tfCeMkR, hA, hw] | refine hX _ _ ?_; clear hX X | clear hX X; refine hX _ _ ?_; clear hX X | clear hX X; clear hX X; refine hX _ _ ?_; clear hX X | intro hlen; unfold maxLen at hlen | apply And.intro; focus (first | omega | assumption | (repeat' apply And.intro) <;> first | omega | assumption)))
    refine aDrw (fun _ => True) (by kernel_rfl) trivial ?_
    simp -implicitDefEqProofs only [↓slp, slb, ↓reduceIte, reduceCtorEq, jA, jB, jC, jD, jE, jF, jG, jH, jI, jJ, jK, tfCeMkR, hA, hw]
    refine callM (E p _ (hok.ext _) i2) ?_
    rintro v m' ⟨e2, i3, rfl, g2, rfl⟩
    refine ⟨trivial, ?_⟩
    simp -implicitDefEqProofs only [↓slp, slb, ↓reduceIte, reduceCtorEq, jA, jB, jC, jD, jE, jF, jG, jH, jI, jJ, jK, tfCeMkR, hA]
    (repeat (first | refine aSeq fun X hX => ?_ | refine aBlk ?_ | refine aSkip ?_ | (first | refine aExit ?_ | refine aRet ?_); try simp only [slx, ↓reduceIte, Nat.reduceEqDiff, reduceCtorEq] | (first | refine aReg ?_ | refine aDrE ?_ | refine aIf ?_); simp -implicitDefEqProofs only [forall_eq, ↓slp, slb, ↓reduceIte, reduceCtorEq, jA, jB, jC, jD, jE, jF, jG, jH, jI, jJ, jK, tfCeMkR, hA] | refine hX _ _ ?_; clear hX X | clear hX X; refine hX _ _ ?_; clear hX X | clear hX X; clear hX X; refine hX _ _ ?_; clear hX X | intro hlen; unfold maxLen at hlen | apply And.intro; focus (first | omega | assumption | (repeat' apply And.intro) <;> first | omega | assumption)))
    simp only [aPost, Try.results20, aRes_n, aRes_t, aRes_c, pack_one, pack_two]
    simp -implicitDefEqProofs only [↓slp, slb, ↓reduceIte, reduceCtorEq, jA, jB, jC, jD, jE, jF, jG, jH, jI, jJ, jK, tfCeMkR, hA]
    exact leave_cst hok (.refl m) (by simp only [CE.foldcs, CE.fold, PV.settle, PV.settles, CE.settle_pv]; rfl) ⟨.mk 5 (3 + u) 0 ⟨#[]⟩ [e1, e2], i3, by simp only [CE.foldcs, CE.fold, PV.settle, PV.settles, CE.settle_pv]; rfl, ⟨⟨⟨by omega, by omega⟩, ⟨by omega, by omega⟩, g1.1, g2.1, trivial⟩, ⟨fun h => absurd h (by decide), g1.2, g2.2, trivial⟩⟩, rfl⟩

theorem exprR_any : ∀ d, d ≤ 1000 → ECr d
  | 0, _ => expr0r_any
  | d + 1, h => exprSr_any d (by omega) (exprR_any d (by omega))
end Go.Proofs.Ytepjjgnkhcjpcaa

/-
  The maker of clite's statements.
-/
set_option linter.unusedVariables false
set_option linter.unusedSimpArgs false
namespace Go.Proofs.Ytepjjgnkhcjpcaa
open Nat renaming reduceEqDiff → jA, reduceAdd → jB, reduceMul → jC, reduceLT → jD, reduceLeDiff → jE, reduceBEq → jF, reduceBNe → jG
open Int renaming reduceLE → jH, reduceLT → jI, reduceToNat → jJ, reduceEq → jK
open Go
-- EXX: cst_nb, cst_nt, cst_fresh, cst_use, cst_free, cst_alive, cst_a, cst_upda, cst_ext, cst_ext2, cst_ea, cst_own, cst_own0, cst_ou, cst_ou0, CP.at, CE.settle_pv, CE.pure_pv, CE.cells_pv, CE.cs
set_option maxRecDepth 20000
-- TNAMES: int; uint8; int32; string; bool; []uint8; *int; []clite.Expr; clite.Expr; clite.Stmt; []clite.Stmt; []string
set_option linter.defProp false
def tfCeBody := And.intro @tfA (And.intro @Ex.settle_pv (And.intro @Ex.pure_pv (And.intro @Ex.cells_pv (And.intro @Ex.cs.eq_1 (And.intro @On.pv.eq_1 (And.intro @Ty.pv.eq_1 (And.intro @Va.settle_pv (And.intro @Va.pure_pv (And.intro @Va.cells_pv (And.intro @Va.cs.eq_1 (And.intro @cst_nb (And.intro @cst_nt (And.intro @cst_fresh (And.intro @cst_use (And.intro @cst_free (And.intro @cst_alive (And.intro @cst_a (And.intro @cst_upda (And.intro @cst_ext (And.intro @cst_ext2 (And.intro @cst_ea (And.intro @cst_own (And.intro @cst_own0 (And.intro @cst_ou (And.intro @cst_ou0 (And.intro @CP.at.eq_1 (And.intro @CE.settle_pv (And.intro @CE.pure_pv (And.intro @CE.cells_pv @CE.cs.eq_1)))))))))))))))))))))))))))))

/-- What body promises at a depth. -/
def BCr (d : Nat) : Prop := ∀ (p : CP) (m : M), p.ok m → ∀ (i : Nat), ACalls Try.prog 23 [.sl .no (p.l.map pU), .bp p.a 0, .v (.int .i64 (d : Int))] (cst p m i) (fun v m' => ∃ l i', v = .sl .no (l.map CS.pv) ∧ CS.mades l ∧ m' = cst p m i')
/-- What came in stands. -/
structure BaseR (m mb : M) : Prop where
  nb : m.nb ≤ mb.nb
  nt : m.nt ≤ mb.nt
  boxes : mb.boxes.take m.nb = m.boxes
  toks : mb.toks.take m.nt = m.toks
theorem BaseR.refl (m : M) : BaseR m m := ⟨Nat.le_refl _, Nat.le_refl _, List.take_length, List.take_length⟩
theorem BaseR.ext {m mb : M} (h : BaseR m mb) (bs : List (Option (List PV))) : BaseR m (mb.ext bs) :=
  ⟨by rw [ext_nb]; exact Nat.le_trans h.nb (Nat.le_add_right _ _), h.nt, by show (mb.boxes ++ bs).take m.nb = _; rw [List.take_append_of_le_length (by exact h.nb)]; exact h.boxes, h.toks⟩
theorem BaseR.fresh {m mb : M} {o : Own} {s s' : Nat} (h : BaseR m mb) (g : Mine m mb o s') : BaseR m ((o.use mb).fresh s) := by
  have hl := use_len o mb
  refine ⟨?_, ?_, ?_, ?_⟩
  · show m.nb ≤ (o.use mb).boxes.length
    rw [use_boxes]; exact h.nb
  · show m.nt ≤ ((o.use mb).toks ++ [some s]).length
    have := h.nt
    simp [hl]; omega
  · show (o.use mb).boxes.take m.nb = _
    rw [use_boxes]; exact h.boxes
  · show ((o.use mb).toks ++ [some s]).take m.nt = m.toks
    rw [List.take_append_of_le_length (by rw [hl]; exact h.nt)]
    rcases g with rfl | ⟨t, rfl, ht, _⟩
    · exact h.toks
    · show (mb.toks.set t none).take m.nt = _
      rw [List.take_set_of_le ht, h.toks]
theorem Mine.ext {m mb : M} {o : Own} {s : Nat} (g : Mine m mb o s) (bs : List (Option (List PV))) : Mine m (mb.ext bs) o s := by
  rcases g with rfl | ⟨t, rfl, ht, ha⟩
  · exact .inl rfl
  · exact .inr ⟨t, rfl, ht, ha⟩
theorem Mine.newB {m mb : M} (h : BaseR m mb) (o : Own) (s : Nat) : Mine m ((o.use mb).fresh s) (.tok mb.nt) s := by
  refine .inr ⟨_, rfl, h.nt, ?_⟩
  show ((o.use mb).toks ++ [some s])[mb.nt]? = some (some s)
  rw [← use_len o mb]; simp
theorem CP.ok.base {p : CP} {m mb : M} (h : p.ok m) (hb : BaseR m mb) : p.ok mb := ⟨Nat.lt_of_lt_of_le h.a hb.nb, h.len, h.el⟩
theorem leave_cstB {p : CP} {m mb : M} {i i' : Nat} {v : PV} {R : PV → M → Prop} (hok : p.ok m) (hb : BaseR m mb) (hv : v.settle.pure = true) (hR : R v.settle (cst p m i')) : ∃ v' m', Leave (cst p m i) (cst p mb i') v v' m' ∧ R v' m' := by
  have e : mb = (⟨m.boxes, mb.toks⟩ : M).ext (mb.boxes.drop m.nb) := by
    have : m.boxes ++ mb.boxes.drop m.nb = mb.boxes := by rw [← hb.boxes]; simp
    cases mb
    simp only [M.ext] at this ⊢
    rw [this]
  rw [e]
  exact leave_cst hok ⟨hb.nt, hb.toks, rfl⟩ hv hR
theorem nmF2 : ∀ t, t < 2 → (⟨#[102]⟩ ++ strOf [((97 + t : Nat) : Int)] : ByteArray) = sFa ∨ (⟨#[102]⟩ ++ strOf [((97 + t : Nat) : Int)] : ByteArray) = sFb := by decide +kernel
theorem namesP : ∀ t, t < 8 → ∃ nm : Str, [PV.v (.string ⟨#[112]⟩), PV.v (.string ⟨#[112]⟩), PV.v (.string ⟨#[112]⟩), PV.v (.string ⟨#[112]⟩), PV.v (.string ⟨#[112]⟩), PV.v (.string ⟨#[102, 97]⟩), PV.v (.string ⟨#[110, 111]⟩), PV.v (.string ⟨#[112]⟩)].getD t PV.junk = .v (.string nm)
  | 0, _ => ⟨_, rfl⟩
  | 1, _ => ⟨_, rfl⟩
  | 2, _ => ⟨_, rfl⟩
  | 3, _ => ⟨_, rfl⟩
  | 4, _ => ⟨_, rfl⟩
  | 5, _ => ⟨_, rfl⟩
  | 6, _ => ⟨_, rfl⟩
  | 7, _ => ⟨_, rfl⟩
  | n + 8, h => absurd h (by omega)
theorem namesA : ∀ t, t < 8 → ∃ nm : Str, [PV.v (.string ⟨#[97, 100, 100]⟩), PV.v (.string ⟨#[97, 100, 100]⟩), PV.v (.string ⟨#[97, 100, 100]⟩), PV.v (.string ⟨#[97, 100, 100]⟩), PV.v (.string ⟨#[97, 100, 100]⟩), PV.v (.string ⟨#[97, 100, 100]⟩), PV.v (.string ⟨#[102]⟩), PV.v (.string ⟨#[110, 111]⟩)].getD t PV.junk = .v (.string nm)
  | 0, _ => ⟨_, rfl⟩
  | 1, _ => ⟨_, rfl⟩
  | 2, _ => ⟨_, rfl⟩
  | 3, _ => ⟨_, rfl⟩
  | 4, _ => ⟨_, rfl⟩
  | 5, _ => ⟨_, rfl⟩
  | 6, _ => ⟨_, rfl⟩
  | 7, _ => ⟨_, rfl⟩
  | n + 8, h => absurd h (by omega)
set_option maxHeartbeats 16000000 in
theorem body_run (d : Nat) (hd : d < 1000) (B : ∀ d', d = d' + 1 → BCr d') : BCr d := by
  intro p m hok i
  have hA := hok.a
  refine ACalls.enter (mu := [10]) ok_mix Try.func23 rfl (by kernel_rfl) (by kernel_rfl) (by simp only [List.length_cons, List.length_nil, Try.ntmps23]; omega) ?_
  (repeat (first | refine aSeq fun X hX => ?_ | refine aBlk ?_ | refine aSkip ?_ | (first | refine aExit ?_ | refine aRet ?_); try simp only [slx, ↓reduceIte, Nat.reduceEqDiff, reduceCtorEq] | (first | refine aReg ?_ | refine aDrE ?_ | refine aIf ?_); simp -implicitDefEqProofs only [forall_eq, ↓slp, slb, ↓reduceIte, reduceCtorEq, jA, jB, jC, jD, jE, jF, jG, jH, jI, jJ, jK, tfCeBody, hA] | refine hX _ _ ?_; clear hX X | clear hX X; refine hX _ _ ?_; clear hX X | clear hX X; clear hX X; refine hX _ _ ?_; clear hX X | intro hlen; unfold maxLen at hlen | apply And.intro; focus (first | omega | assumption | (repeat' apply And.intro) <;> first | omega | assumption)))
  refine callM (nextC_any p m hok i) ?_
  rintro v m' ⟨r0, i0, rfl, hr0, rfl⟩
  obtain ⟨n0, hn00, hn3⟩ := tmod_nat hr0.1 3 (by omega)
  have hn0 : r0.tmod 3 = (n0 : Int) := hn00
  have w1 : IntKind.i64.wrap (1 + (n0 : Int)) = ((n0 + 1 : Nat) : Int) := by rw [wrap64 (by omega)]; omega
  simp -implicitDefEqProofs only [↓slp, slb, ↓reduceIte, reduceCtorEq, jA, jB, jC, jD, jE, jF, jG, jH, jI, jJ, jK, tfCeBody, hA, hn0, w1]
  (repeat (first | refine aSeq fun X hX => ?_ | refine aBlk ?_ | refine aSkip ?_ | (first | refine aExit ?_ | refine aRet ?_); try simp only [slx, ↓reduceIte, Nat.reduceEqDiff, reduceCtorEq] | (first | refine aReg ?_ | refine aIf ?_); simp -implicitDefEqProofs only [forall_eq, ↓slp, slb, ↓reduceIte, reduceCtorEq, jA, jB, jC, jD, jE, jF, jG, jH, jI, jJ, jK, tfCeBody, hA, hn0, w1] | refine hX _ _ ?_; clear hX X | clear hX X; refine hX _ _ ?_; clear hX X | clear hX X; clear hX X; refine hX _ _ ?_; clear hX X | intro hlen; unfold maxLen at hlen | apply And.intro; focus (first | omega | assumption | (repeat' apply And.intro) <;> first | omega | assumption)))
  obtain ⟨I, hI⟩ : ∃ I : F → M → Prop, ∀ f m', I f m' = (∃ (q j : Nat) (S : List CS) (o : Own) (mb : M), q ≤ n0 + 1 ∧ S.length = q ∧ CS.mades S ∧ f 0 = .sl .no (p.l.map pU) ∧ f 1 = .bp p.a 0 ∧ f 2 = .v (.int .i64 d) ∧ f 7 = .sl o (S.map CS.pv) ∧ f 8 = .v (.int .i64 ((n0 + 1 : Nat) : Int)) ∧ f 9 = .v (.int .i64 q) ∧ m' = cst p mb j ∧ BaseR m mb ∧ Mine m mb o 12) := ⟨_, fun _ _ => rfl⟩
  refine aLoop I (fun f m => n0 + 1 - numOf (f 9)) ?_ ?_
  · rw [hI]; exact ⟨0, i0, [], .full, m, by omega, rfl, trivial, rfl, rfl, rfl, rfl, rfl, rfl, rfl, .refl m, .full⟩
  intro f m1 hrel
  rw [hI] at hrel
  obtain ⟨q, j, S, o, mb, hq, hSl, hSm, f0, f1, f2, f7, f8, f9, rfl, hB, ho⟩ := hrel
  have hokb := hok.base hB
  have hAb := hokb.a
  cases c1 : decide ((q : Int) < ((n0 + 1 : Nat) : Int)) with
  | false =>
    (repeat (first | refine aSeq fun X hX => ?_ | refine aBlk ?_ | refine aSkip ?_ | (first | refine aExit ?_ | refine aRet ?_); try simp only [slx, ↓reduceIte, Nat.reduceEqDiff, reduceCtorEq] | (first | refine aReg ?_ | refine aDrE ?_ | refine aIf ?_); simp -implicitDefEqProofs only [forall_eq, ↓slp, slb, ↓reduceIte, reduceCtorEq, jA, jB, jC, jD, jE, jF, jG, jH, jI, jJ, jK, tfCeBody, f0, f1, f2, f7, f8, f9, c1] | refine hX _ _ ?_; clear hX X | clear hX X; refine hX _ _ ?_; clear hX X | clear hX X; clear hX X; refine hX _ _ ?_; clear hX X | intro hlen; unfold maxLen at hlen | apply And.intro; focus (first | omega | assumption | (repeat' apply And.intro) <;> first | omega | assumption)))
    simp only [aPost, Try.results23, aRes_n, aRes_t, aRes_c, pack_one, pack_two]
    exact leave_cstB hok hB rfl ⟨S, j, rfl, hSm, rfl⟩
  | true =>
  have hlt : q < n0 + 1 := by simp at c1; omega
  have hqi : IntKind.i64.wrap ((q : Int) + 1) = ((q + 1 : Nat) : Int) := by rw [wrap64 (by omega)]; omega
  have hme : numOf (f 9) = q := by rw [f9]; exact Int.toNat_natCast q
  have hmeas : n0 + 1 - (q + 1) < n0 + 1 - numOf (f 9) := by omega
  have hfree : o.free mb 12 := ho.free
  have fin : ∀ (j2 : Nat) (x : CS) (c : List PV), x.made → ∀ g : F, g 0 = .sl .no (p.l.map pU) → g 1 = .bp p.a 0 → g 2 = .v (.int .i64 d) → g 7 = .sl (.tok mb.nt) (S.map CS.pv ++ [.ag x.cs]) → g 8 = .v (.int .i64 ((n0 + 1 : Nat) : Int)) → g 9 = .v (.int .i64 ((q + 1 : Nat) : Int)) → I g (cst p (((o.use mb).fresh 12).ext [some c]) j2) := by
    intro j2 x c hx g g0 g1 g2 g7 g8 g9
    rw [hI]
    refine ⟨q + 1, j2, S ++ [x], .tok mb.nt, _, hlt, by simp [hSl], ?_, g0, g1, g2, by rw [g7, List.map_append, List.map_cons, List.map_nil, CS.pv_eq], g8, g9, rfl, (hB.fresh ho).ext _, (Mine.newB hB o 12).ext _⟩
    have : ∀ l : List CS, CS.mades l → CS.mades (l ++ [x]) := fun l => by
      induction l with
      | nil => intro _; exact ⟨hx, trivial⟩
      | cons a l ih => intro h; exact ⟨h.1, ih h.2⟩
    exact this S hSm
  (repeat (first | refine aSeq fun X hX => ?_ | refine aBlk ?_ | refine aSkip ?_ | (first | refine aExit ?_ | refine aRet ?_); try simp only [slx, ↓reduceIte, Nat.reduceEqDiff, reduceCtorEq] | (first | refine aReg ?_ | refine aDrE ?_); simp -implicitDefEqProofs only [forall_eq, ↓slp, slb, ↓reduceIte, reduceCtorEq, jA, jB, jC, jD, jE, jF, jG, jH, jI, jJ, jK, tfCeBody, f0, f1, f2, f7, f8, f9, c1, hAb] | refine hX _ _ ?_; clear hX X | clear hX X; refine hX _ _ ?_; clear hX X | clear hX X; clear hX X; refine hX _ _ ?_; clear hX X | intro hlen; unfold maxLen at hlen | apply And.intro; focus (first | omega | assumption | (repeat' apply And.intro) <;> first | omega | assumption)))
  refine aIf ?_; simp -implicitDefEqProofs only [↓slp, slb, ↓reduceIte, reduceCtorEq, jA, jB, jC, jD, jE, jF, jG, jH, jI, jJ, jK]
  (repeat (first | refine aSeq fun X hX => ?_ | refine aBlk ?_ | refine aSkip ?_ | (first | refine aExit ?_ | refine aRet ?_); try simp only [slx, ↓reduceIte, Nat.reduceEqDiff, reduceCtorEq] | (first | refine aReg ?_ | refine aDrE ?_); simp -implicitDefEqProofs only [forall_eq, ↓slp, slb, ↓reduceIte, reduceCtorEq, jA, jB, jC, jD, jE, jF, jG, jH, jI, jJ, jK, tfCeBody, f0, f1, f2, f7, f8, f9, hAb] | refine hX _ _ ?_; clear hX X | clear hX X; refine hX _ _ ?_; clear hX X | clear hX X; clear hX X; refine hX _ _ ?_; clear hX X | intro hlen; unfold maxLen at hlen | apply And.intro; focus (first | omega | assumption | (repeat' apply And.intro) <;> first | omega | assumption)))
  refine callM (exprR_any 2 (by omega) p mb hokb j) ?_
  rintro v m' ⟨e, j1, rfl, ge, rfl⟩
  simp -implicitDefEqProofs only [↓slp, slb, ↓reduceIte, reduceCtorEq, jA, jB, jC, jD, jE, jF, jG, jH, jI, jJ, jK, tfCeBody, f0, f1, f2, f7, f8, f9, hAb]
  (repeat (first | refine aSeq fun X hX => ?_ | refine aBlk ?_ | refine aSkip ?_ | (first | refine aExit ?_ | refine aRet ?_); try simp only [slx, ↓reduceIte, Nat.reduceEqDiff, reduceCtorEq] | (first | refine aReg ?_ | refine aIf ?_); simp -implicitDefEqProofs only [forall_eq, ↓slp, slb, ↓reduceIte, reduceCtorEq, jA, jB, jC, jD, jE, jF, jG, jH, jI, jJ, jK, tfCeBody, f0, f1, f2, f7, f8, f9, hAb] | refine hX _ _ ?_; clear hX X | clear hX X; refine hX _ _ ?_; clear hX X | clear hX X; clear hX X; refine hX _ _ ?_; clear hX X | intro hlen; unfold maxLen at hlen | apply And.intro; focus (first | omega | assumption | (repeat' apply And.intro) <;> first | omega | assumption)))
  refine callM (nextC_any p _ (hokb.ext _) j1) ?_
  rintro v m' ⟨r, j2, rfl, hr, rfl⟩
  obtain ⟨k, hk0, hkl⟩ := tmod_nat hr.1 8 (by omega)
  have hk : r.tmod 8 = (k : Int) := hk0
  simp -implicitDefEqProofs only [↓slp, slb, ↓reduceIte, reduceCtorEq, jA, jB, jC, jD, jE, jF, jG, jH, jI, jJ, jK, tfCeBody, f0, f1, f2, f7, f8, f9, hAb, hk]
  cases c3 : decide ((k : Int) < 3) with
  | true =>
    (repeat (first | refine aSeq fun X hX => ?_ | refine aBlk ?_ | refine aSkip ?_ | (first | refine aExit ?_ | refine aRet ?_); try simp only [slx, ↓reduceIte, Nat.reduceEqDiff, reduceCtorEq] | (first | refine aReg ?_ | refine aDrE ?_ | refine aIf ?_); simp -implicitDefEqProofs only [forall_eq, ↓slp, slb, ↓reduceIte, reduceCtorEq, jA, jB, jC, jD, jE, jF, jG, jH, jI, jJ, jK, tfCeBody, f0, f1, f2, f7, f8, f9, hAb, c3] | refine hX _ _ ?_; clear hX X | clear hX X; refine hX _ _ ?_; clear hX X | clear hX X; clear hX X; refine hX _ _ ?_; clear hX X | intro hlen; unfold maxLen at hlen | apply And.intro; focus (first | omega | assumption | (repeat' apply And.intro) <;> first | omega | assumption)))
    refine callM (nextC_any p _ (hokb.ext _) j2) ?_
    rintro v m' ⟨r2, j3, rfl, hr2, rfl⟩
    obtain ⟨t, ht0, htl⟩ := tmod_nat hr2.1 4 (by omega)
    have ht : r2.tmod 4 = (t : Int) := ht0
    simp -implicitDefEqProofs only [↓slp, slb, ↓reduceIte, reduceCtorEq, jA, jB, jC, jD, jE, jF, jG, jH, jI, jJ, jK, tfCeBody, f0, f1, f2, f7, f8, f9, hAb, ht]
    refine callE (letterC_any t (by omega) _) ?_
    have hz : (strOf [((97 + t : Nat) : Int)]).size = 1 := rfl
    have hz2 : (⟨#[118]⟩ : ByteArray).size = 1 := rfl
    simp -implicitDefEqProofs only [↓slp, slb, ↓reduceIte, reduceCtorEq, jA, jB, jC, jD, jE, jF, jG, jH, jI, jJ, jK, tfCeBody, f0, f1, f2, f7, f8, f9, hAb, pS]
    refine ⟨by omega, ?_⟩
    (repeat (first | refine aSeq fun X hX => ?_ | refine aBlk ?_ | refine aSkip ?_ | (first | refine aExit ?_ | refine aRet ?_); try simp only [slx, ↓reduceIte, Nat.reduceEqDiff, reduceCtorEq] | (first | refine aReg ?_ | refine aDrE ?_ | refine aIf ?_); simp -implicitDefEqProofs only [forall_eq, ↓slp, slb, ↓reduceIte, reduceCtorEq, jA, jB, jC, jD, jE, jF, jG, jH, jI, jJ, jK, tfCeBody, f0, f1, f2, f7, f8, f9, hAb] | refine hX _ _ ?_; clear hX X | clear hX X; refine hX _ _ ?_; clear hX X | clear hX X; clear hX X; refine hX _ _ ?_; clear hX X | intro hlen; unfold maxLen at hlen | apply And.intro; focus (first | omega | assumption | (repeat' apply And.intro) <;> first | omega | assumption)))
    refine ⟨⟨hfree, fun y hy => by obtain ⟨z, _, rfl⟩ := List.mem_map.1 hy; rw [CS.cells_pv]; rfl, by unfold maxLen; omega, by omega⟩, ?_⟩
    (repeat (first | refine aSeq fun X hX => ?_ | refine aBlk ?_ | refine aSkip ?_ | (first | refine aExit ?_ | refine aRet ?_); try simp only [slx, ↓reduceIte, Nat.reduceEqDiff, reduceCtorEq] | (first | refine aReg ?_ | refine aDrE ?_ | refine aIf ?_); simp -implicitDefEqProofs only [forall_eq, ↓slp, slb, ↓reduceIte, reduceCtorEq, jA, jB, jC, jD, jE, jF, jG, jH, jI, jJ, jK, tfCeBody, f9, hqi, hAb] | refine hX _ _ ?_; clear hX X | clear hX X; refine hX _ _ ?_; clear hX X | clear hX X; clear hX X; refine hX _ _ ?_; clear hX X | intro hlen; unfold maxLen at hlen | apply And.intro; focus (first | omega | assumption | (repeat' apply And.intro) <;> first | omega | assumption)))
    exact ⟨fin j3 (.mk 1 (⟨#[118]⟩ ++ strOf [((97 + t : Nat) : Int)]) ⟨#[]⟩ e [] [] [] []) _ (⟨ge, .inl ⟨rfl, t, htl, rfl⟩, ⟨trivial, trivial, by show 0 ≤ 1000000; omega⟩, .inl rfl, trivial, trivial⟩) _ f0 f1 f2 rfl f8 rfl, by first | exact hmeas | omega⟩
  | false =>
  cases c5 : decide ((k : Int) < 5) with
  | true =>
    (repeat (first | refine aSeq fun X hX => ?_ | refine aBlk ?_ | refine aSkip ?_ | (first | refine aExit ?_ | refine aRet ?_); try simp only [slx, ↓reduceIte, Nat.reduceEqDiff, reduceCtorEq] | (first | refine aReg ?_ | refine aDrE ?_ | refine aIf ?_); simp -implicitDefEqProofs only [forall_eq, ↓slp, slb, ↓reduceIte, reduceCtorEq, jA, jB, jC, jD, jE, jF, jG, jH, jI, jJ, jK, tfCeBody, f0, f1, f2, f7, f8, f9, hAb, c3, c5] | refine hX _ _ ?_; clear hX X | clear hX X; refine hX _ _ ?_; clear hX X | clear hX X; clear hX X; refine hX _ _ ?_; clear hX X | intro hlen; unfold maxLen at hlen | apply And.intro; focus (first | omega | assumption | (repeat' apply And.intro) <;> first | omega | assumption)))
    refine callM (nextC_any p _ (hokb.ext _) j2) ?_
    rintro v m' ⟨r2, j3, rfl, hr2, rfl⟩
    obtain ⟨t, ht0, htl⟩ := tmod_nat hr2.1 2 (by omega)
    have ht : r2.tmod 2 = (t : Int) := ht0
    simp -implicitDefEqProofs only [↓slp, slb, ↓reduceIte, reduceCtorEq, jA, jB, jC, jD, jE, jF, jG, jH, jI, jJ, jK, tfCeBody, f0, f1, f2, f7, f8, f9, hAb, ht]
    refine callE (letterC_any t (by omega) _) ?_
    have hz : (strOf [((97 + t : Nat) : Int)]).size = 1 := rfl
    have hz2 : (⟨#[102]⟩ : ByteArray).size = 1 := rfl
    have hname : (⟨#[102]⟩ ++ strOf [((97 + t : Nat) : Int)] : ByteArray) = sFa ∨ (⟨#[102]⟩ ++ strOf [((97 + t : Nat) : Int)] : ByteArray) = sFb := nmF2 t htl
    simp -implicitDefEqProofs only [↓slp, slb, ↓reduceIte, reduceCtorEq, jA, jB, jC, jD, jE, jF, jG, jH, jI, jJ, jK, tfCeBody, f0, f1, f2, f7, f8, f9, hAb, pS]
    refine ⟨by omega, ?_⟩
    (repeat (first | refine aSeq fun X hX => ?_ | refine aBlk ?_ | refine aSkip ?_ | (first | refine aExit ?_ | refine aRet ?_); try simp only [slx, ↓reduceIte, Nat.reduceEqDiff, reduceCtorEq] | (first | refine aReg ?_ | refine aDrE ?_ | refine aIf ?_); simp -implicitDefEqProofs only [forall_eq, ↓slp, slb, ↓reduceIte, reduceCtorEq, jA, jB, jC, jD, jE, jF, jG, jH, jI, jJ, jK, tfCeBody, f0, f1, f2, f7, f8, f9, hAb] | refine hX _ _ ?_; clear hX X | clear hX X; refine hX _ _ ?_; clear hX X | clear hX X; clear hX X; refine hX _ _ ?_; clear hX X | intro hlen; unfold maxLen at hlen | apply And.intro; focus (first | omega | assumption | (repeat' apply And.intro) <;> first | omega | assumption)))
    refine ⟨⟨hfree, fun y hy => by obtain ⟨z, _, rfl⟩ := List.mem_map.1 hy; rw [CS.cells_pv]; rfl, by unfold maxLen; omega, by omega⟩, ?_⟩
    (repeat (first | refine aSeq fun X hX => ?_ | refine aBlk ?_ | refine aSkip ?_ | (first | refine aExit ?_ | refine aRet ?_); try simp only [slx, ↓reduceIte, Nat.reduceEqDiff, reduceCtorEq] | (first | refine aReg ?_ | refine aDrE ?_ | refine aIf ?_); simp -implicitDefEqProofs only [forall_eq, ↓slp, slb, ↓reduceIte, reduceCtorEq, jA, jB, jC, jD, jE, jF, jG, jH, jI, jJ, jK, tfCeBody, f9, hqi, hAb] | refine hX _ _ ?_; clear hX X | clear hX X; refine hX _ _ ?_; clear hX X | clear hX X; clear hX X; refine hX _ _ ?_; clear hX X | intro hlen; unfold maxLen at hlen | apply And.intro; focus (first | omega | assumption | (repeat' apply And.intro) <;> first | omega | assumption)))
    exact ⟨fin j3 (.mk 2 (⟨#[102]⟩ ++ strOf [((97 + t : Nat) : Int)]) ⟨#[]⟩ e [] [] [] []) _ (⟨ge, .inr (.inl ⟨rfl, hname⟩), ⟨trivial, trivial, by show 0 ≤ 1000000; omega⟩, .inl rfl, trivial, trivial⟩) _ f0 f1 f2 rfl f8 rfl, by first | exact hmeas | omega⟩
  | false =>
  cases cd : decide ((d : Int) ≤ 0) with
  | true =>
    (repeat (first | refine aSeq fun X hX => ?_ | refine aBlk ?_ | refine aSkip ?_ | (first | refine aExit ?_ | refine aRet ?_); try simp only [slx, ↓reduceIte, Nat.reduceEqDiff, reduceCtorEq] | (first | refine aReg ?_ | refine aDrE ?_ | refine aIf ?_); simp -implicitDefEqProofs only [forall_eq, ↓slp, slb, ↓reduceIte, reduceCtorEq, jA, jB, jC, jD, jE, jF, jG, jH, jI, jJ, jK, tfCeBody, f0, f1, f2, f7, f8, f9, hAb, c3, c5, cd] | refine hX _ _ ?_; clear hX X | clear hX X; refine hX _ _ ?_; clear hX X | clear hX X; clear hX X; refine hX _ _ ?_; clear hX X | intro hlen; unfold maxLen at hlen | apply And.intro; focus (first | omega | assumption | (repeat' apply And.intro) <;> first | omega | assumption)))
    refine callM (nextC_any p _ (hokb.ext _) j2) ?_
    rintro v m' ⟨r2, j3, rfl, hr2, rfl⟩
    obtain ⟨t, ht0, htl⟩ := tmod_nat hr2.1 2 (by omega)
    have ht : r2.tmod 2 = (t : Int) := ht0
    simp -implicitDefEqProofs only [↓slp, slb, ↓reduceIte, reduceCtorEq, jA, jB, jC, jD, jE, jF, jG, jH, jI, jJ, jK, tfCeBody, f0, f1, f2, f7, f8, f9, hAb, ht]
    refine callE (letterC_any t (by omega) _) ?_
    have hz : (strOf [((97 + t : Nat) : Int)]).size = 1 := rfl
    have hz2 : (⟨#[102]⟩ : ByteArray).size = 1 := rfl
    have hname : (⟨#[102]⟩ ++ strOf [((97 + t : Nat) : Int)] : ByteArray) = sFa ∨ (⟨#[102]⟩ ++ strOf [((97 + t : Nat) : Int)] : ByteArray) = sFb := nmF2 t htl
    simp -implicitDefEqProofs only [↓slp, slb, ↓reduceIte, reduceCtorEq, jA, jB, jC, jD, jE, jF, jG, jH, jI, jJ, jK, tfCeBody, f0, f1, f2, f7, f8, f9, hAb, pS]
    refine ⟨by omega, ?_⟩
    (repeat (first | refine aSeq fun X hX => ?_ | refine aBlk ?_ | refine aSkip ?_ | (first | refine aExit ?_ | refine aRet ?_); try simp only [slx, ↓reduceIte, Nat.reduceEqDiff, reduceCtorEq] | (first | refine aReg ?_ | refine aDrE ?_ | refine aIf ?_); simp -implicitDefEqProofs only [forall_eq, ↓slp, slb, ↓reduceIte, reduceCtorEq, jA, jB, jC, jD, jE, jF, jG, jH, jI, jJ, jK, tfCeBody, f0, f1, f2, f7, f8, f9, hAb] | refine hX _ _ ?_; clear hX X | clear hX X; refine hX _ _ ?_; clear hX X | clear hX X; clear hX X; refine hX _ _ ?_; clear hX X | intro hlen; unfold maxLen at hlen | apply And.intro; focus (first | omega | assumption | (repeat' apply And.intro) <;> first | omega | assumption)))
    refine ⟨⟨hfree, fun y hy => by obtain ⟨z, _, rfl⟩ := List.mem_map.1 hy; rw [CS.cells_pv]; rfl, by unfold maxLen; omega, by omega⟩, ?_⟩
    (repeat (first | refine aSeq fun X hX => ?_ | refine aBlk ?_ | refine aSkip ?_ | (first | refine aExit ?_ | refine aRet ?_); try simp only [slx, ↓reduceIte, Nat.reduceEqDiff, reduceCtorEq] | (first | refine aReg ?_ | refine aDrE ?_ | refine aIf ?_); simp -implicitDefEqProofs only [forall_eq, ↓slp, slb, ↓reduceIte, reduceCtorEq, jA, jB, jC, jD, jE, jF, jG, jH, jI, jJ, jK, tfCeBody, f9, hqi, hAb] | refine hX _ _ ?_; clear hX X | clear hX X; refine hX _ _ ?_; clear hX X | clear hX X; clear hX X; refine hX _ _ ?_; clear hX X | intro hlen; unfold maxLen at hlen | apply And.intro; focus (first | omega | assumption | (repeat' apply And.intro) <;> first | omega | assumption)))
    exact ⟨fin j3 (.mk 2 (⟨#[102]⟩ ++ strOf [((97 + t : Nat) : Int)]) ⟨#[]⟩ e [] [] [] []) _ (⟨ge, .inr (.inl ⟨rfl, hname⟩), ⟨trivial, trivial, by show 0 ≤ 1000000; omega⟩, .inl rfl, trivial, trivial⟩) _ f0 f1 f2 rfl f8 rfl, by first | exact hmeas | omega⟩
  | false =>
  obtain ⟨d', rfl⟩ : ∃ d', d = d' + 1 := ⟨d - 1, by simp at cd; omega⟩
  have B' := B d' rfl
  have hwd : IntKind.i64.wrap (((d' + 1 : Nat) : Int) - 1) = (d' : Int) := by rw [wrap64 (by omega)]; omega
  have hk5 : 5 ≤ k := by simp at c5; omega
  cases c6 : ((k : Int) == 5) with
  | true =>
    (repeat (first | refine aSeq fun X hX => ?_ | refine aBlk ?_ | refine aSkip ?_ | (first | refine aExit ?_ | refine aRet ?_); try simp only [slx, ↓reduceIte, Nat.reduceEqDiff, reduceCtorEq] | (first | refine aReg ?_ | refine aIf ?_); simp -implicitDefEqProofs only [forall_eq, ↓slp, slb, ↓reduceIte, reduceCtorEq, jA, jB, jC, jD, jE, jF, jG, jH, jI, jJ, jK, tfCeBody, f0, f1, f2, f7, f8, f9, hAb, c3, c5, cd, c6] | refine hX _ _ ?_; clear hX X | clear hX X; refine hX _ _ ?_; clear hX X | clear hX X; clear hX X; refine hX _ _ ?_; clear hX X | intro hlen; unfold maxLen at hlen | apply And.intro; focus (first | omega | assumption | (repeat' apply And.intro) <;> first | omega | assumption)))
    refine ⟨rfl, ?_⟩
    (repeat (first | refine aSeq fun X hX => ?_ | refine aBlk ?_ | refine aSkip ?_ | (first | refine aExit ?_ | refine aRet ?_); try simp only [slx, ↓reduceIte, Nat.reduceEqDiff, reduceCtorEq] | (first | refine aReg ?_ | refine aIf ?_); simp -implicitDefEqProofs only [forall_eq, ↓slp, slb, ↓reduceIte, reduceCtorEq, jA, jB, jC, jD, jE, jF, jG, jH, jI, jJ, jK, tfCeBody, f0, f1, f2, f7, f8, f9, hAb] | refine hX _ _ ?_; clear hX X | clear hX X; refine hX _ _ ?_; clear hX X | clear hX X; clear hX X; refine hX _ _ ?_; clear hX X | intro hlen; unfold maxLen at hlen | apply And.intro; focus (first | omega | assumption | (repeat' apply And.intro) <;> first | omega | assumption)))
    refine ⟨rfl, ?_⟩
    (repeat (first | refine aSeq fun X hX => ?_ | refine aBlk ?_ | refine aSkip ?_ | (first | refine aExit ?_ | refine aRet ?_); try simp only [slx, ↓reduceIte, Nat.reduceEqDiff, reduceCtorEq] | (first | refine aReg ?_ | refine aIf ?_); simp -implicitDefEqProofs only [forall_eq, ↓slp, slb, ↓reduceIte, reduceCtorEq, jA, jB, jC, jD, jE, jF, jG, jH, jI, jJ, jK, tfCeBody, f0, f1, f2, f7, f8, f9, hAb] | refine hX _ _ ?_; clear hX X | clear hX X; refine hX _ _ ?_; clear hX X | clear hX X; clear hX X; refine hX _ _ ?_; clear hX X | intro hlen; unfold maxLen at hlen | apply And.intro; focus (first | omega | assumption | (repeat' apply And.intro) <;> first | omega | assumption)))
    refine aDrw (fun _ => True) (by kernel_rfl) trivial ?_
    simp -implicitDefEqProofs only [↓slp, slb, ↓reduceIte, reduceCtorEq, jA, jB, jC, jD, jE, jF, jG, jH, jI, jJ, jK, tfCeBody, f0, f1, f2, f7, f8, f9, hAb]
    refine callM (nextC_any p _ (hokb.ext _) j2) ?_
    rintro v m' ⟨ra, j3, rfl, hra, rfl⟩
    refine ⟨trivial, ?_⟩
    obtain ⟨ka, hka0, hkal⟩ := tmod_nat hra.1 8 (by omega)
    have hka : ra.tmod 8 = (ka : Int) := hka0
    obtain ⟨na, hna⟩ := namesP ka hkal
    simp -implicitDefEqProofs only [↓slp, slb, ↓reduceIte, reduceCtorEq, jA, jB, jC, jD, jE, jF, jG, jH, jI, jJ, jK, tfCeBody, f0, f1, f2, f7, f8, f9, hAb, hka, hna]
    refine ⟨hkal, ?_⟩
    refine callM (nextC_any p _ (hokb.ext _) j3) ?_
    rintro v m' ⟨rb, j4, rfl, hrb, rfl⟩
    refine ⟨trivial, ?_⟩
    obtain ⟨kb, hkb0, hkbl⟩ := tmod_nat hrb.1 8 (by omega)
    have hkb : rb.tmod 8 = (kb : Int) := hkb0
    obtain ⟨nb, hnb2⟩ := namesA kb hkbl
    simp -implicitDefEqProofs only [↓slp, slb, ↓reduceIte, reduceCtorEq, jA, jB, jC, jD, jE, jF, jG, jH, jI, jJ, jK, tfCeBody, f0, f1, f2, f7, f8, f9, hAb, hkb, hnb2]
    refine ⟨hkbl, ?_⟩
    refine callM (nextC_any p _ (hokb.ext _) j4) ?_
    rintro v m' ⟨rc, j5, rfl, hrc, rfl⟩
    refine ⟨trivial, ?_⟩
    obtain ⟨t, ht0, htl⟩ := tmod_nat hrc.1 4 (by omega)
    have ht : rc.tmod 4 = (t : Int) := ht0
    simp -implicitDefEqProofs only [↓slp, slb, ↓reduceIte, reduceCtorEq, jA, jB, jC, jD, jE, jF, jG, jH, jI, jJ, jK, tfCeBody, f0, f1, f2, f7, f8, f9, hAb, ht]
    refine callE (letterC_any t (by omega) _) ?_
    have hz : (strOf [((97 + t : Nat) : Int)]).size = 1 := rfl
    have hz2 : (⟨#[118]⟩ : ByteArray).size = 1 := rfl
    refine ⟨trivial, ?_⟩
    simp -implicitDefEqProofs only [↓slp, slb, ↓reduceIte, reduceCtorEq, jA, jB, jC, jD, jE, jF, jG, jH, jI, jJ, jK, tfCeBody, f0, f1, f2, f7, f8, f9, hAb, pS]
    refine ⟨by omega, ?_⟩
    (repeat (first | refine aSeq fun X hX => ?_ | refine aBlk ?_ | refine aSkip ?_ | (first | refine aExit ?_ | refine aRet ?_); try simp only [slx, ↓reduceIte, Nat.reduceEqDiff, reduceCtorEq] | (first | refine aReg ?_ | refine aDrE ?_ | refine aIf ?_); simp -implicitDefEqProofs only [forall_eq, ↓slp, slb, ↓reduceIte, reduceCtorEq, jA, jB, jC, jD, jE, jF, jG, jH, jI, jJ, jK, tfCeBody, f0, f1, f2, f7, f8, f9, hAb] | refine hX _ _ ?_; clear hX X | clear hX X; refine hX _ _ ?_; clear hX X | clear hX X; clear hX X; refine hX _ _ ?_; clear hX X | intro hlen; unfold maxLen at hlen | apply And.intro; focus (first | omega | assumption | (repeat' apply And.intro) <;> first | omega | assumption)))
    refine callM (exprR_any 1 (by omega) p _ (hokb.ext _) j5) ?_
    rintro v m' ⟨e2, j6, rfl, ge2, rfl⟩
    simp -implicitDefEqProofs only [↓slp, slb, ↓reduceIte, reduceCtorEq, jA, jB, jC, jD, jE, jF, jG, jH, jI, jJ, jK, tfCeBody, f0, f1, f2, f7, f8, f9, hAb]
    (repeat (first | refine aSeq fun X hX => ?_ | refine aBlk ?_ | refine aSkip ?_ | (first | refine aExit ?_ | refine aRet ?_); try simp only [slx, ↓reduceIte, Nat.reduceEqDiff, reduceCtorEq] | (first | refine aReg ?_ | refine aDrE ?_ | refine aIf ?_); simp -implicitDefEqProofs only [forall_eq, ↓slp, slb, ↓reduceIte, reduceCtorEq, jA, jB, jC, jD, jE, jF, jG, jH, jI, jJ, jK, tfCeBody, f0, f1, f2, f7, f8, f9, hAb] | refine hX _ _ ?_; clear hX X | clear hX X; refine hX _ _ ?_; clear hX X | clear hX X; clear hX X; refine hX _ _ ?_; clear hX X | intro hlen; unfold maxLen at hlen | apply And.intro; focus (first | omega | assumption | (repeat' apply And.intro) <;> first | omega | assumption)))
    refine callM (nextC_any p _ (hokb.ext _) j6) ?_
    rintro v m' ⟨rd, j7, rfl, hrd, rfl⟩
    cases cu : (rd.tmod 16 == 0) with
    | true =>
      simp -implicitDefEqProofs only [↓slp, slb, ↓reduceIte, reduceCtorEq, jA, jB, jC, jD, jE, jF, jG, jH, jI, jJ, jK, tfCeBody, f0, f1, f2, f7, f8, f9, hAb, cu]
      (repeat (first | refine aSeq fun X hX => ?_ | refine aBlk ?_ | refine aSkip ?_ | (first | refine aExit ?_ | refine aRet ?_); try simp only [slx, ↓reduceIte, Nat.reduceEqDiff, reduceCtorEq] | (first | refine aReg ?_ | refine aDrE ?_ | refine aIf ?_); simp -implicitDefEqProofs only [forall_eq, ↓slp, slb, ↓reduceIte, reduceCtorEq, jA, jB, jC, jD, jE, jF, jG, jH, jI, jJ, jK, tfCeBody, f0, f1, f2, f7, f8, f9, hAb, cu] | refine hX _ _ ?_; clear hX X | clear hX X; refine hX _ _ ?_; clear hX X | clear hX X; clear hX X; refine hX _ _ ?_; clear hX X | intro hlen; unfold maxLen at hlen | apply And.intro; focus (first | omega | assumption | (repeat' apply And.intro) <;> first | omega | assumption)))
      refine callM (nextC_any p _ (hokb.ext _) j7) ?_
      rintro v m' ⟨re, j8, rfl, hre, rfl⟩
      cases cv : (re.tmod 16 == 0) with
      | true =>
        simp -implicitDefEqProofs only [↓slp, slb, ↓reduceIte, reduceCtorEq, jA, jB, jC, jD, jE, jF, jG, jH, jI, jJ, jK, tfCeBody, f0, f1, f2, f7, f8, f9, hAb, cv]
        (repeat (first | refine aSeq fun X hX => ?_ | refine aBlk ?_ | refine aSkip ?_ | (first | refine aExit ?_ | refine aRet ?_); try simp only [slx, ↓reduceIte, Nat.reduceEqDiff, reduceCtorEq] | (first | refine aReg ?_ | refine aDrE ?_ | refine aIf ?_); simp -implicitDefEqProofs only [forall_eq, ↓slp, slb, ↓reduceIte, reduceCtorEq, jA, jB, jC, jD, jE, jF, jG, jH, jI, jJ, jK, tfCeBody, f0, f1, f2, f7, f8, f9, hAb, cv] | refine hX _ _ ?_; clear hX X | clear hX X; refine hX _ _ ?_; clear hX X | clear hX X; clear hX X; refine hX _ _ ?_; clear hX X | intro hlen; unfold maxLen at hlen | apply And.intro; focus (first | omega | assumption | (repeat' apply And.intro) <;> first | omega | assumption)))
        refine ⟨⟨hfree, fun y hy => by obtain ⟨z, _, rfl⟩ := List.mem_map.1 hy; rw [CS.cells_pv]; rfl, by unfold maxLen; omega, by omega⟩, ?_⟩
        (repeat (first | refine aSeq fun X hX => ?_ | refine aBlk ?_ | refine aSkip ?_ | (first | refine aExit ?_ | refine aRet ?_); try simp only [slx, ↓reduceIte, Nat.reduceEqDiff, reduceCtorEq] | (first | refine aReg ?_ | refine aDrE ?_ | refine aIf ?_); simp -implicitDefEqProofs only [forall_eq, ↓slp, slb, ↓reduceIte, reduceCtorEq, jA, jB, jC, jD, jE, jF, jG, jH, jI, jJ, jK, tfCeBody, f9, hqi, hAb] | refine hX _ _ ?_; clear hX X | clear hX X; refine hX _ _ ?_; clear hX X | clear hX X; clear hX X; refine hX _ _ ?_; clear hX X | intro hlen; unfold maxLen at hlen | apply And.intro; focus (first | omega | assumption | (repeat' apply And.intro) <;> first | omega | assumption)))
        exact ⟨fin j8 (.mk 4 nb na ceZ [] [] [] []) _ (⟨⟨⟨⟨by omega, by omega⟩, ⟨by omega, by omega⟩, trivial⟩, ⟨(fun h => absurd h (by decide)), trivial⟩⟩, .inr (.inr (.inr rfl)), ⟨trivial, trivial, by show 0 ≤ 1000000; omega⟩, .inl rfl, trivial, trivial⟩) _ f0 f1 f2 rfl f8 rfl, by first | exact hmeas | omega⟩
      | false =>
        simp -implicitDefEqProofs only [↓slp, slb, ↓reduceIte, reduceCtorEq, jA, jB, jC, jD, jE, jF, jG, jH, jI, jJ, jK, tfCeBody, f0, f1, f2, f7, f8, f9, hAb, cv]
        (repeat (first | refine aSeq fun X hX => ?_ | refine aBlk ?_ | refine aSkip ?_ | (first | refine aExit ?_ | refine aRet ?_); try simp only [slx, ↓reduceIte, Nat.reduceEqDiff, reduceCtorEq] | (first | refine aReg ?_ | refine aDrE ?_ | refine aIf ?_); simp -implicitDefEqProofs only [forall_eq, ↓slp, slb, ↓reduceIte, reduceCtorEq, jA, jB, jC, jD, jE, jF, jG, jH, jI, jJ, jK, tfCeBody, f0, f1, f2, f7, f8, f9, hAb, cv] | refine hX _ _ ?_; clear hX X | clear hX X; refine hX _ _ ?_; clear hX X | clear hX X; clear hX X; refine hX _ _ ?_; clear hX X | intro hlen; unfold maxLen at hlen | apply And.intro; focus (first | omega | assumption | (repeat' apply And.intro) <;> first | omega | assumption)))
        refine ⟨⟨hfree, fun y hy => by obtain ⟨z, _, rfl⟩ := List.mem_map.1 hy; rw [CS.cells_pv]; rfl, by unfold maxLen; omega, by omega⟩, ?_⟩
        (repeat (first | refine aSeq fun X hX => ?_ | refine aBlk ?_ | refine aSkip ?_ | (first | refine aExit ?_ | refine aRet ?_); try simp only [slx, ↓reduceIte, Nat.reduceEqDiff, reduceCtorEq] | (first | refine aReg ?_ | refine aDrE ?_ | refine aIf ?_); simp -implicitDefEqProofs only [forall_eq, ↓slp, slb, ↓reduceIte, reduceCtorEq, jA, jB, jC, jD, jE, jF, jG, jH, jI, jJ, jK, tfCeBody, f9, hqi, hAb] | refine hX _ _ ?_; clear hX X | clear hX X; refine hX _ _ ?_; clear hX X | clear hX X; clear hX X; refine hX _ _ ?_; clear hX X | intro hlen; unfold maxLen at hlen | apply And.intro; focus (first | omega | assumption | (repeat' apply And.intro) <;> first | omega | assumption)))
        exact ⟨fin j8 (.mk 4 nb na ceZ [] [] [] [⟨#[118]⟩ ++ strOf [((97 + t : Nat) : Int)]]) _ (⟨⟨⟨⟨by omega, by omega⟩, ⟨by omega, by omega⟩, trivial⟩, ⟨(fun h => absurd h (by decide)), trivial⟩⟩, .inr (.inr (.inr rfl)), ⟨trivial, trivial, by show 0 ≤ 1000000; omega⟩, .inr ⟨t, htl, rfl⟩, trivial, trivial⟩) _ f0 f1 f2 rfl f8 rfl, by first | exact hmeas | omega⟩
    | false =>
      simp -implicitDefEqProofs only [↓slp, slb, ↓reduceIte, reduceCtorEq, jA, jB, jC, jD, jE, jF, jG, jH, jI, jJ, jK, tfCeBody, f0, f1, f2, f7, f8, f9, hAb, cu]
      (repeat (first | refine aSeq fun X hX => ?_ | refine aBlk ?_ | refine aSkip ?_ | (first | refine aExit ?_ | refine aRet ?_); try simp only [slx, ↓reduceIte, Nat.reduceEqDiff, reduceCtorEq] | (first | refine aReg ?_ | refine aDrE ?_ | refine aIf ?_); simp -implicitDefEqProofs only [forall_eq, ↓slp, slb, ↓reduceIte, reduceCtorEq, jA, jB, jC, jD, jE, jF, jG, jH, jI, jJ, jK, tfCeBody, f0, f1, f2, f7, f8, f9, hAb, cu] | refine hX _ _ ?_; clear hX X | clear hX X; refine hX _ _ ?_; clear hX X | clear hX X; clear hX X; refine hX _ _ ?_; clear hX X | intro hlen; unfold maxLen at hlen | apply And.intro; focus (first | omega | assumption | (repeat' apply And.intro) <;> first | omega | assumption)))
      refine callM (nextC_any p _ (hokb.ext _) j7) ?_
      rintro v m' ⟨re, j8, rfl, hre, rfl⟩
      cases cv : (re.tmod 16 == 0) with
      | true =>
        simp -implicitDefEqProofs only [↓slp, slb, ↓reduceIte, reduceCtorEq, jA, jB, jC, jD, jE, jF, jG, jH, jI, jJ, jK, tfCeBody, f0, f1, f2, f7, f8, f9, hAb, cv]
        (repeat (first | refine aSeq fun X hX => ?_ | refine aBlk ?_ | refine aSkip ?_ | (first | refine aExit ?_ | refine aRet ?_); try simp only [slx, ↓reduceIte, Nat.reduceEqDiff, reduceCtorEq] | (first | refine aReg ?_ | refine aDrE ?_ | refine aIf ?_); simp -implicitDefEqProofs only [forall_eq, ↓slp, slb, ↓reduceIte, reduceCtorEq, jA, jB, jC, jD, jE, jF, jG, jH, jI, jJ, jK, tfCeBody, f0, f1, f2, f7, f8, f9, hAb, cv] | refine hX _ _ ?_; clear hX X | clear hX X; refine hX _ _ ?_; clear hX X | clear hX X; clear hX X; refine hX _ _ ?_; clear hX X | intro hlen; unfold maxLen at hlen | apply And.intro; focus (first | omega | assumption | (repeat' apply And.intro) <;> first | omega | assumption)))
        refine ⟨⟨hfree, fun y hy => by obtain ⟨z, _, rfl⟩ := List.mem_map.1 hy; rw [CS.cells_pv]; rfl, by unfold maxLen; omega, by omega⟩, ?_⟩
        (repeat (first | refine aSeq fun X hX => ?_ | refine aBlk ?_ | refine aSkip ?_ | (first | refine aExit ?_ | refine aRet ?_); try simp only [slx, ↓reduceIte, Nat.reduceEqDiff, reduceCtorEq] | (first | refine aReg ?_ | refine aDrE ?_ | refine aIf ?_); simp -implicitDefEqProofs only [forall_eq, ↓slp, slb, ↓reduceIte, reduceCtorEq, jA, jB, jC, jD, jE, jF, jG, jH, jI, jJ, jK, tfCeBody, f9, hqi, hAb] | refine hX _ _ ?_; clear hX X | clear hX X; refine hX _ _ ?_; clear hX X | clear hX X; clear hX X; refine hX _ _ ?_; clear hX X | intro hlen; unfold maxLen at hlen | apply And.intro; focus (first | omega | assumption | (repeat' apply And.intro) <;> first | omega | assumption)))
        exact ⟨fin j8 (.mk 4 nb na ceZ [] [] [e2] []) _ (⟨⟨⟨⟨by omega, by omega⟩, ⟨by omega, by omega⟩, trivial⟩, ⟨(fun h => absurd h (by decide)), trivial⟩⟩, .inr (.inr (.inr rfl)), ⟨⟨ge2.1, trivial⟩, ⟨ge2.2, trivial⟩, by show 1 ≤ 1000000; omega⟩, .inl rfl, trivial, trivial⟩) _ f0 f1 f2 rfl f8 rfl, by first | exact hmeas | omega⟩
      | false =>
        simp -implicitDefEqProofs only [↓slp, slb, ↓reduceIte, reduceCtorEq, jA, jB, jC, jD, jE, jF, jG, jH, jI, jJ, jK, tfCeBody, f0, f1, f2, f7, f8, f9, hAb, cv]
        (repeat (first | refine aSeq fun X hX => ?_ | refine aBlk ?_ | refine aSkip ?_ | (first | refine aExit ?_ | refine aRet ?_); try simp only [slx, ↓reduceIte, Nat.reduceEqDiff, reduceCtorEq] | (first | refine aReg ?_ | refine aDrE ?_ | refine aIf ?_); simp -implicitDefEqProofs only [forall_eq, ↓slp, slb, ↓reduceIte, reduceCtorEq, jA, jB, jC, jD, jE, jF, jG, jH, jI, jJ, jK, tfCeBody, f0, f1, f2, f7, f8, f9, hAb, cv] | refine hX _ _ ?_; clear hX X | clear hX X; refine hX _ _ ?_; clear hX X | clear hX X; clear hX X; refine hX _ _ ?_; clear hX X | intro hlen; unfold maxLen at hlen | apply And.intro; focus (first | omega | assumption | (repeat' apply And.intro) <;> first | omega | assumption)))
        refine ⟨⟨hfree, fun y hy => by obtain ⟨z, _, rfl⟩ := List.mem_map.1 hy; rw [CS.cells_pv]; rfl, by unfold maxLen; omega, by omega⟩, ?_⟩
        (repeat (first | refine aSeq fun X hX => ?_ | refine aBlk ?_ | refine aSkip ?_ | (first | refine aExit ?_ | refine aRet ?_); try simp only [slx, ↓reduceIte, Nat.reduceEqDiff, reduceCtorEq] | (first | refine aReg ?_ | refine aDrE ?_ | refine aIf ?_); simp -implicitDefEqProofs only [forall_eq, ↓slp, slb, ↓reduceIte, reduceCtorEq, jA, jB, jC, jD, jE, jF, jG, jH, jI, jJ, jK, tfCeBody, f9, hqi, hAb] | refine hX _ _ ?_; clear hX X | clear hX X; refine hX _ _ ?_; clear hX X | clear hX X; clear hX X; refine hX _ _ ?_; clear hX X | intro hlen; unfold maxLen at hlen | apply And.intro; focus (first | omega | assumption | (repeat' apply And.intro) <;> first | omega | assumption)))
        exact ⟨fin j8 (.mk 4 nb na ceZ [] [] [e2] [⟨#[118]⟩ ++ strOf [((97 + t : Nat) : Int)]]) _ (⟨⟨⟨⟨by omega, by omega⟩, ⟨by omega, by omega⟩, trivial⟩, ⟨(fun h => absurd h (by decide)), trivial⟩⟩, .inr (.inr (.inr rfl)), ⟨⟨ge2.1, trivial⟩, ⟨ge2.2, trivial⟩, by show 1 ≤ 1000000; omega⟩, .inr ⟨t, htl, rfl⟩, trivial, trivial⟩) _ f0 f1 f2 rfl f8 rfl, by first | exact hmeas | omega⟩
  | false =>
    have hk67 : k = 6 ∨ k = 7 := by
      have : k ≠ 5 := by rintro rfl; simp at c6
      omega
    (repeat (first | refine aSeq fun X hX => ?_ | refine aBlk ?_ | refine aSkip ?_ | (first | refine aExit ?_ | refine aRet ?_); try simp only [slx, ↓reduceIte, Nat.reduceEqDiff, reduceCtorEq] | (first | refine aReg ?_ | refine aDrE ?_ | refine aIf ?_); simp -implicitDefEqProofs only [forall_eq, ↓slp, slb, ↓reduceIte, reduceCtorEq, jA, jB, jC, jD, jE, jF, jG, jH, jI, jJ, jK, tfCeBody, f0, f1, f2, f7, f8, f9, hAb, c3, c5, cd, c6, hwd] | refine hX _ _ ?_; clear hX X | clear hX X; refine hX _ _ ?_; clear hX X | clear hX X; clear hX X; refine hX _ _ ?_; clear hX X | intro hlen; unfold maxLen at hlen | apply And.intro; focus (first | omega | assumption | (repeat' apply And.intro) <;> first | omega | assumption)))
    refine callM (B' p _ (hokb.ext _) j2) ?_
    rintro v m' ⟨lt, j3, rfl, hlt1, rfl⟩
    rcases hk67 with rfl | rfl
    · have e6 : ((6 : Nat) : Int) = 6 := rfl
      simp -implicitDefEqProofs only [↓slp, slb, ↓reduceIte, reduceCtorEq, jA, jB, jC, jD, jE, jF, jG, jH, jI, jJ, jK, tfCeBody, f0, f1, f2, f7, f8, f9, hAb]
      (repeat (first | refine aSeq fun X hX => ?_ | refine aBlk ?_ | refine aSkip ?_ | (first | refine aExit ?_ | refine aRet ?_); try simp only [slx, ↓reduceIte, Nat.reduceEqDiff, reduceCtorEq] | (first | refine aReg ?_ | refine aDrE ?_ | refine aIf ?_); simp -implicitDefEqProofs only [forall_eq, ↓slp, slb, ↓reduceIte, reduceCtorEq, jA, jB, jC, jD, jE, jF, jG, jH, jI, jJ, jK, tfCeBody, f0, f1, f2, f7, f8, f9, hAb, e6, Int.reduceBEq] | refine hX _ _ ?_; clear hX X | clear hX X; refine hX _ _ ?_; clear hX X | clear hX X; clear hX X; refine hX _ _ ?_; clear hX X | intro hlen; unfold maxLen at hlen | apply And.intro; focus (first | omega | assumption | (repeat' apply And.intro) <;> first | omega | assumption)))
      refine ⟨⟨hfree, fun y hy => by obtain ⟨z, _, rfl⟩ := List.mem_map.1 hy; rw [CS.cells_pv]; rfl, by unfold maxLen; omega, by omega⟩, ?_⟩
      (repeat (first | refine aSeq fun X hX => ?_ | refine aBlk ?_ | refine aSkip ?_ | (first | refine aExit ?_ | refine aRet ?_); try simp only [slx, ↓reduceIte, Nat.reduceEqDiff, reduceCtorEq] | (first | refine aReg ?_ | refine aDrE ?_ | refine aIf ?_); simp -implicitDefEqProofs only [forall_eq, ↓slp, slb, ↓reduceIte, reduceCtorEq, jA, jB, jC, jD, jE, jF, jG, jH, jI, jJ, jK, tfCeBody, f9, hqi, hAb] | refine hX _ _ ?_; clear hX X | clear hX X; refine hX _ _ ?_; clear hX X | clear hX X; clear hX X; refine hX _ _ ?_; clear hX X | intro hlen; unfold maxLen at hlen | apply And.intro; focus (first | omega | assumption | (repeat' apply And.intro) <;> first | omega | assumption)))
      exact ⟨fin j3 (.mk 3 ⟨#[]⟩ ⟨#[]⟩ e lt [] [] []) _ (⟨ge, .inr (.inr (.inl rfl)), ⟨trivial, trivial, by show 0 ≤ 1000000; omega⟩, .inl rfl, hlt1, trivial⟩) _ f0 f1 f2 rfl f8 rfl, by first | exact hmeas | omega⟩
    · have e7 : ((7 : Nat) : Int) = 7 := rfl
      simp -implicitDefEqProofs only [↓slp, slb, ↓reduceIte, reduceCtorEq, jA, jB, jC, jD, jE, jF, jG, jH, jI, jJ, jK, tfCeBody, f0, f1, f2, f7, f8, f9, hAb]
      (repeat (first | refine aSeq fun X hX => ?_ | refine aBlk ?_ | refine aSkip ?_ | (first | refine aExit ?_ | refine aRet ?_); try simp only [slx, ↓reduceIte, Nat.reduceEqDiff, reduceCtorEq] | (first | refine aReg ?_ | refine aDrE ?_ | refine aIf ?_); simp -implicitDefEqProofs only [forall_eq, ↓slp, slb, ↓reduceIte, reduceCtorEq, jA, jB, jC, jD, jE, jF, jG, jH, jI, jJ, jK, tfCeBody, f0, f1, f2, f7, f8, f9, hAb, e7, hwd, Int.reduceBEq] | refine hX _ _ ?_; clear hX X | clear hX X; refine hX _ _ ?_; clear hX X | clear hX X; clear hX X; refine hX _ _ ?_; clear hX X | intro hlen; unfold maxLen at hlen | apply And.intro; focus (first | omega | assumption | (repeat' apply And.intro) <;> first | omega | assumption)))
      refine callM (B' p _ (hokb.ext _) j3) ?_
      rintro v m' ⟨le, j4, rfl, hle1, rfl⟩
      simp -implicitDefEqProofs only [↓slp, slb, ↓reduceIte, reduceCtorEq, jA, jB, jC, jD, jE, jF, jG, jH, jI, jJ, jK, tfCeBody, f0, f1, f2, f7, f8, f9, hAb]
      (repeat (first | refine aSeq fun X hX => ?_ | refine aBlk ?_ | refine aSkip ?_ | (first | refine aExit ?_ | refine aRet ?_); try simp only [slx, ↓reduceIte, Nat.reduceEqDiff, reduceCtorEq] | (first | refine aReg ?_ | refine aDrE ?_ | refine aIf ?_); simp -implicitDefEqProofs only [forall_eq, ↓slp, slb, ↓reduceIte, reduceCtorEq, jA, jB, jC, jD, jE, jF, jG, jH, jI, jJ, jK, tfCeBody, f0, f1, f2, f7, f8, f9, hAb] | refine hX _ _ ?_; clear hX X | clear hX X; refine hX _ _ ?_; clear hX X | clear hX X; clear hX X; refine hX _ _ ?_; clear hX X | intro hlen; unfold maxLen at hlen | apply And.intro; focus (first | omega | assumption | (repeat' apply And.intro) <;> first | omega | assumption)))
      refine ⟨⟨hfree, fun y hy => by obtain ⟨z, _, rfl⟩ := List.mem_map.1 hy; rw [CS.cells_pv]; rfl, by unfold maxLen; omega, by omega⟩, ?_⟩
      (repeat (first | refine aSeq fun X hX => ?_ | refine aBlk ?_ | refine aSkip ?_ | (first | refine aExit ?_ | refine aRet ?_); try simp only [slx, ↓reduceIte, Nat.reduceEqDiff, reduceCtorEq] | (first | refine aReg ?_ | refine aDrE ?_ | refine aIf ?_); simp -implicitDefEqProofs only [forall_eq, ↓slp, slb, ↓reduceIte, reduceCtorEq, jA, jB, jC, jD, jE, jF, jG, jH, jI, jJ, jK, tfCeBody, f9, hqi, hAb] | refine hX _ _ ?_; clear hX X | clear hX X; refine hX _ _ ?_; clear hX X | clear hX X; clear hX X; refine hX _ _ ?_; clear hX X | intro hlen; unfold maxLen at hlen | apply And.intro; focus (first | omega | assumption | (repeat' apply And.intro) <;> first | omega | assumption)))
      exact ⟨fin j4 (.mk 3 ⟨#[]⟩ ⟨#[]⟩ e lt le [] []) _ (⟨ge, .inr (.inr (.inl rfl)), ⟨trivial, trivial, by show 0 ≤ 1000000; omega⟩, .inl rfl, hlt1, hle1⟩) _ f0 f1 f2 rfl f8 rfl, by first | exact hmeas | omega⟩
theorem body_any : ∀ d, d < 1000 → BCr d
  | 0, h => body_run 0 h (fun d' hd => by omega)
  | d + 1, h => body_run (d + 1) h (fun d' hd => by have : d' = d := by omega
                                                    subst this; exact body_any d' (by omega))
end Go.Proofs.Ytepjjgnkhcjpcaa
