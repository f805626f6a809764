/-
  Texts that belong together: NdB, NdQ.
-/
import Derived.Test.YteiaedmipkcfeaaDoorNdA
import Derived.Test.YteiaedmipkcfeaaDoorNdX
import Derived.Test.YteiaedmipkcfeaaDoorNdK
import Derived.Test.YteiaedmipkcfeaaDoorNmI
/-
  The reference's look at nodes that only call one another.
-/
set_option linter.unusedVariables false
set_option linter.unusedSimpArgs false
namespace Go.Proofs.YteiaedmipkcfeaaDoor
open Nat renaming reduceEqDiff → jA, reduceAdd → jB, reduceMul → jC, reduceLT → jD, reduceLeDiff → jE, reduceBEq → jF, reduceBNe → jG
open Int renaming reduceLE → jH, reduceLT → jI, reduceToNat → jJ, reduceEq → jK
open Go
-- EXX: Qu.settle_pv, Qu.pure_pv, Qu.cells_pv, Qu.cs, No.settle_pv, No.pure_pv, No.cells_pv, No.cs, No.pv.eq_1
set_option maxRecDepth 20000
-- TNAMES: int; uint8; int32; string; bool; []string; []api.Expr; api.Expr; api.Pos; api.Type; api.On; []api.On; api.Var; []api.Var; [][]api.Var; api.Equation; []api.Equation; api.Block; api.Trans; []api.Trans; api.Arm; []api.Arm; api.Node; []api.Node; api.Enum; []api.Enum; api.Program; api.Kind; metronomeref07.look; *metronomeref07.look; [][]string
set_option linter.defProp false
def tfNdB := And.intro @tfA (And.intro @Ex.settle_pv (And.intro @Ex.pure_pv (And.intro @Ex.cells_pv (And.intro @Ex.cs.eq_1 (And.intro @On.pv.eq_1 (And.intro @Ty.pv.eq_1 (And.intro @Va.settle_pv (And.intro @Va.pure_pv (And.intro @Va.cells_pv (And.intro @Va.cs.eq_1 (And.intro @Qu.settle_pv (And.intro @Qu.pure_pv (And.intro @Qu.cells_pv (And.intro @Qu.cs.eq_1 (And.intro @No.settle_pv (And.intro @No.pure_pv (And.intro @No.cells_pv (And.intro @No.cs.eq_1 @No.pv.eq_1))))))))))))))))))

/-- What the look holds as long as nothing is wrong. -/
def lkR (ns : List No) : List PV := [.sl .no [], .sl .no (ns.map No.pv), .v (.int .i64 0), .v (.int .i64 0), .v (.int .i64 0)]
set_option maxHeartbeats 1000000 in
theorem rwaysD_any (a : Nat) (m : M) : ACalls Tryd.prog 86 [.bp a 0, .sl .no [], .sl .no [], .sl .no []] m (unit m) := by
  have z0 : decide (((0 : Nat) : Int) < 0) = false := rfl
  have z1 : decide ((0 : Int) < ((0 : Nat) : Int)) = false := rfl
  have z2 : decide ((0 : Int) < 0) = false := rfl
  refine ACalls.enter (mu := []) ok_mix Tryd.func86 rfl (by kernel_rfl) (by kernel_rfl) (by simp only [List.length_cons, List.length_nil, Tryd.ntmps86]; omega) ?_
  (repeat (first | refine aSeq fun X hX => ?_ | refine aBlk ?_ | refine aSkip ?_ | (first | refine aExit ?_ | refine aRet ?_); try simp only [slx, ↓reduceIte, Nat.reduceEqDiff, reduceCtorEq] | (first | refine aReg ?_ | refine aIf ?_); simp -implicitDefEqProofs only [forall_eq, ↓slp, slb, ↓reduceIte, reduceCtorEq, jA, jB, jC, jD, jE, jF, jG, jH, jI, jJ, jK, tfNdB]; try simp only [Ex.fold, Ex.foldcs, ← Va.pv.eq_1] | refine hX _ _ ?_; clear hX X | clear hX X; refine hX _ _ ?_; clear hX X | clear hX X; clear hX X; refine hX _ _ ?_; clear hX X | intro hlen; unfold maxLen at hlen | apply And.intro; focus (first | omega | assumption | (repeat' apply And.intro) <;> first | omega | assumption)))
  obtain ⟨I1, hI1⟩ : ∃ I1 : F → M → Prop, ∀ f m', I1 f m' = (f 2 = .sl .no [] ∧ f 8 = pI 0 ∧ m = m') := ⟨_, fun _ _ => rfl⟩
  refine aLoop I1 (fun f m => 0) ?_ ?_
  · rw [hI1]; exact ⟨rfl, rfl, rfl⟩
  intro f m' hrel
  rw [hI1] at hrel
  obtain ⟨f2, g1, rfl⟩ := hrel
  (repeat (first | refine aSeq fun X hX => ?_ | refine aBlk ?_ | refine aSkip ?_ | (first | refine aExit ?_ | refine aRet ?_); try simp only [slx, ↓reduceIte, Nat.reduceEqDiff, reduceCtorEq] | (first | refine aReg ?_ | refine aIf ?_); simp -implicitDefEqProofs only [forall_eq, ↓slp, slb, ↓reduceIte, reduceCtorEq, jA, jB, jC, jD, jE, jF, jG, jH, jI, jJ, jK, tfNdB, f2, g1, pI, z0, z1, z2]; try simp only [Ex.fold, Ex.foldcs, ← Va.pv.eq_1] | refine hX _ _ ?_; clear hX X | clear hX X; refine hX _ _ ?_; clear hX X | clear hX X; clear hX X; refine hX _ _ ?_; clear hX X | intro hlen; unfold maxLen at hlen | apply And.intro; focus (first | omega | assumption | (repeat' apply And.intro) <;> first | omega | assumption)))
  simp only [aPost, Tryd.results86, aRes_n, aRes_t, aRes_c, pack_one, pack_two]
  exact leave_same rfl ⟨rfl, rfl⟩
set_option maxHeartbeats 4000000 in
theorem reqD_any (ns : List No) {q : Qu} (hq : FlatQ q) (hk : Known ns q.name) (hns : ns.length ≤ 1000000) (a : Nat) (own : Own) (m : M) (hg : m.get a = some (lkR ns)) :
    ACalls Tryd.prog 85 [.bp a 0, .sl .no [], .sl .no [], q.pv] m (fun v m' => v = .sl .no [] ∧ m' = m) := by
  obtain ⟨j, hj, hji⟩ := hk
  have hfn := fun m => rNode_any [] ns hns q.name m
  rw [hji] at hfn
  have c1 : (q.kind == 1) = false := by simp [hq.kind]
  have c2 : (q.kind == 2) = true := by simp [hq.kind]
  have dz : decide ((j : Int) < 0) = false := by simp
  have z0 : decide (((0 : Nat) : Int) < 0) = false := rfl
  have z1 : decide ((0 : Int) < ((0 : Nat) : Int)) = false := rfl
  have z2 : decide ((0 : Int) < 0) = false := rfl
  have hl := hq.lhs
  have ha := hq.args
  have hh := hq.has
  unfold lkR at hg
  refine ACalls.enter (mu := []) ok_mix Tryd.func85 rfl (by kernel_rfl) (by kernel_rfl) (by simp only [List.length_cons, List.length_nil, Tryd.ntmps85]; omega) ?_
  (repeat (first | refine aSeq fun X hX => ?_ | refine aBlk ?_ | refine aSkip ?_ | (first | refine aExit ?_ | refine aRet ?_); try simp only [slx, ↓reduceIte, Nat.reduceEqDiff, reduceCtorEq] | (first | refine aReg ?_ | refine aIf ?_); simp -implicitDefEqProofs only [forall_eq, ↓slp, slb, ↓reduceIte, reduceCtorEq, jA, jB, jC, jD, jE, jF, jG, jH, jI, jJ, jK, tfNdB, c1, c2, hg]; try simp only [Ex.fold, Ex.foldcs, ← Va.pv.eq_1] | refine hX _ _ ?_; clear hX X | clear hX X; refine hX _ _ ?_; clear hX X | clear hX X; clear hX X; refine hX _ _ ?_; clear hX X | intro hlen; unfold maxLen at hlen | apply And.intro; focus (first | omega | assumption | (repeat' apply And.intro) <;> first | omega | assumption)))
  (repeat (first | refine aSeq fun X hX => ?_ | refine aBlk ?_ | refine aSkip ?_ | (first | refine aExit ?_ | refine aRet ?_); try simp only [slx, ↓reduceIte, Nat.reduceEqDiff, reduceCtorEq] | (first | refine aReg ?_ | refine aDrE ?_ | refine aIf ?_); simp -implicitDefEqProofs only [forall_eq, ↓slp, slb, ↓reduceIte, reduceCtorEq, jA, jB, jC, jD, jE, jF, jG, jH, jI, jJ, jK, tfNdB, c1, c2, hg]; try simp only [Ex.fold, Ex.foldcs, ← Va.pv.eq_1] | refine hX _ _ ?_; clear hX X | clear hX X; refine hX _ _ ?_; clear hX X | clear hX X; clear hX X; refine hX _ _ ?_; clear hX X | intro hlen; unfold maxLen at hlen | apply And.intro; focus (first | omega | assumption | (repeat' apply And.intro) <;> first | omega | assumption)))
  refine callE (hfn _) ?_
  simp -implicitDefEqProofs only [↓slp, slb, ↓reduceIte, reduceCtorEq, jA, jB, jC, jD, jE, jF, jG, jH, jI, jJ, jK, tfNdB, pI, dz]; try simp only [Ex.fold, Ex.foldcs, ← Va.pv.eq_1]
  (repeat (first | refine aSeq fun X hX => ?_ | refine aBlk ?_ | refine aSkip ?_ | (first | refine aExit ?_ | refine aRet ?_); try simp only [slx, ↓reduceIte, Nat.reduceEqDiff, reduceCtorEq] | (first | refine aReg ?_ | refine aIf ?_); simp -implicitDefEqProofs only [forall_eq, ↓slp, slb, ↓reduceIte, reduceCtorEq, jA, jB, jC, jD, jE, jF, jG, jH, jI, jJ, jK, tfNdB, dz, ha, hl, List.map_nil, List.length_nil]; try simp only [Ex.fold, Ex.foldcs, ← Va.pv.eq_1] | refine hX _ _ ?_; clear hX X | clear hX X; refine hX _ _ ?_; clear hX X | clear hX X; clear hX X; refine hX _ _ ?_; clear hX X | intro hlen; unfold maxLen at hlen | apply And.intro; focus (first | omega | assumption | (repeat' apply And.intro) <;> first | omega | assumption)))
  obtain ⟨I1, hI1⟩ : ∃ I1 : F → M → Prop, ∀ f m', I1 f m' = (f 7 = .ep q.cs ∧ f 9 = pI 0 ∧ m = m') := ⟨_, fun _ _ => rfl⟩
  refine aLoop I1 (fun f m => 0) ?_ ?_
  · rw [hI1]; exact ⟨by rw [Qu.cs, hl, ha]; rfl, rfl, rfl⟩
  intro f m' hrel
  rw [hI1] at hrel
  obtain ⟨f7, g1, rfl⟩ := hrel
  (repeat (first | refine aSeq fun X hX => ?_ | refine aBlk ?_ | refine aSkip ?_ | (first | refine aExit ?_ | refine aRet ?_); try simp only [slx, ↓reduceIte, Nat.reduceEqDiff, reduceCtorEq] | (first | refine aReg ?_ | refine aIf ?_); simp -implicitDefEqProofs only [forall_eq, ↓slp, slb, ↓reduceIte, reduceCtorEq, jA, jB, jC, jD, jE, jF, jG, jH, jI, jJ, jK, tfNdB, f7, g1, pI, z0, z1, z2, ha, hl, hh, List.map_nil, List.length_nil]; try simp only [Ex.fold, Ex.foldcs, ← Va.pv.eq_1] | refine hX _ _ ?_; clear hX X | clear hX X; refine hX _ _ ?_; clear hX X | clear hX X; clear hX X; refine hX _ _ ?_; clear hX X | intro hlen; unfold maxLen at hlen | apply And.intro; focus (first | omega | assumption | (repeat' apply And.intro) <;> first | omega | assumption)))
  simp only [aPost, Tryd.results85, aRes_n, aRes_t, aRes_c, pack_one, pack_two]
  simp -implicitDefEqProofs only [↓slp, slb, ↓reduceIte, reduceCtorEq, jA, jB, jC, jD, jE, jF, jG, jH, jI, jJ, jK, tfNdB, hl, List.map_nil]; try simp only [Ex.fold, Ex.foldcs, ← Va.pv.eq_1]
  exact leave_same rfl ⟨rfl, rfl⟩
set_option maxHeartbeats 8000000 in
theorem rblockD_any (ns : List No) (hns : ns.length ≤ 1000000) (Q : List Qu) (hQl : Q.length ≤ 1000000) (hQ : ∀ q ∈ Q, FlatQ q ∧ Known ns q.name) (a : Nat) (m : M) (hg : m.get a = some (lkR ns)) :
    ACalls Tryd.prog 58 [.bp a 0, .sl .no [], .sl .no [], .ag [.sl .no [], .sl .no (Q.map Qu.pv)], .sl .no [], .sl .no []] m (fun v m' => v = .sl .no [] ∧ m' = m) := by
  have hg1 : (m.fresh 1).get a = some (lkR ns) := hg
  have hq := fun (k : Nat) (h : k < Q.length) => reqD_any ns (hQ Q[k] (List.getElem_mem h)).1 (hQ Q[k] (List.getElem_mem h)).2 hns a .no (m.fresh 1) hg1
  have hw := fun m => rwaysD_any a m
  have z0 : decide (((0 : Nat) : Int) < 0) = false := rfl
  have z1 : decide ((0 : Int) < ((0 : Nat) : Int)) = false := rfl
  have z2 : decide ((0 : Int) < 0) = false := rfl
  have k0 : ((0 : Int) == 0) = true := rfl
  have t1 : Toks m (m.fresh 1) := (Toks.refl m).use (o := .full) (s := 1) (s' := 1) .full
  unfold lkR at hg1
  refine ACalls.enter (mu := []) ok_mix Tryd.func58 rfl (by kernel_rfl) (by kernel_rfl) (by simp only [List.length_cons, List.length_nil, Tryd.ntmps58]; omega) ?_
  (repeat (first | refine aSeq fun X hX => ?_ | refine aBlk ?_ | refine aSkip ?_ | (first | refine aExit ?_ | refine aRet ?_); try simp only [slx, ↓reduceIte, Nat.reduceEqDiff, reduceCtorEq] | (first | refine aReg ?_ | refine aIf ?_); simp -implicitDefEqProofs only [forall_eq, ↓slp, slb, ↓reduceIte, reduceCtorEq, jA, jB, jC, jD, jE, jF, jG, jH, jI, jJ, jK, tfNdB]; try simp only [Ex.fold, Ex.foldcs, ← Va.pv.eq_1] | refine hX _ _ ?_; clear hX X | clear hX X; refine hX _ _ ?_; clear hX X | clear hX X; clear hX X; refine hX _ _ ?_; clear hX X | intro hlen; unfold maxLen at hlen | apply And.intro; focus (first | omega | assumption | (repeat' apply And.intro) <;> first | omega | assumption)))
  obtain ⟨I1, hI1⟩ : ∃ I1 : F → M → Prop, ∀ f m', I1 f m' = (f 0 = .bp a 0 ∧ f 1 = .sl .no [] ∧ f 4 = .sl .no [] ∧ f 5 = .sl .no [] ∧ f 9 = .ep [.sl .no [], .sl .no (Q.map Qu.pv)] ∧ f 13 = .sl (.tok m.nt) [] ∧ f 14 = pI 0 ∧ m.fresh 1 = m') := ⟨_, fun _ _ => rfl⟩
  refine aLoop I1 (fun f m => 0) ?_ ?_
  · rw [hI1]; exact ⟨rfl, rfl, rfl, rfl, rfl, rfl, rfl, rfl⟩
  intro f m' hrel
  rw [hI1] at hrel
  obtain ⟨f0, f1, f4, f5, f9, f13, g1, rfl⟩ := hrel
  (repeat (first | refine aSeq fun X hX => ?_ | refine aBlk ?_ | refine aSkip ?_ | (first | refine aExit ?_ | refine aRet ?_); try simp only [slx, ↓reduceIte, Nat.reduceEqDiff, reduceCtorEq] | (first | refine aReg ?_ | refine aIf ?_); simp -implicitDefEqProofs only [forall_eq, ↓slp, slb, ↓reduceIte, reduceCtorEq, jA, jB, jC, jD, jE, jF, jG, jH, jI, jJ, jK, tfNdB, f0, f1, f4, f5, f9, f13, g1, pI, z0, z1, z2]; try simp only [Ex.fold, Ex.foldcs, ← Va.pv.eq_1] | refine hX _ _ ?_; clear hX X | clear hX X; refine hX _ _ ?_; clear hX X | clear hX X; clear hX X; refine hX _ _ ?_; clear hX X | intro hlen; unfold maxLen at hlen | apply And.intro; focus (first | omega | assumption | (repeat' apply And.intro) <;> first | omega | assumption)))
  obtain ⟨I2, hI2⟩ : ∃ I2 : F → M → Prop, ∀ f m', I2 f m' = (f 0 = .bp a 0 ∧ f 1 = .sl .no [] ∧ f 4 = .sl .no [] ∧ f 5 = .sl .no [] ∧ f 9 = .ep [.sl .no [], .sl .no (Q.map Qu.pv)] ∧ f 13 = .sl (.tok m.nt) [] ∧ f 15 = pI 0 ∧ m.fresh 1 = m') := ⟨_, fun _ _ => rfl⟩
  refine aLoop I2 (fun f m => 0) ?_ ?_
  · rw [hI2]; exact ⟨f0, f1, f4, f5, f9, f13, rfl, rfl⟩
  clear f0 f1 f4 f5 f9 f13
  intro f m' hrel
  rw [hI2] at hrel
  obtain ⟨f0, f1, f4, f5, f9, f13, g1, rfl⟩ := hrel
  (repeat (first | refine aSeq fun X hX => ?_ | refine aBlk ?_ | refine aSkip ?_ | (first | refine aExit ?_ | refine aRet ?_); try simp only [slx, ↓reduceIte, Nat.reduceEqDiff, reduceCtorEq] | (first | refine aReg ?_ | refine aIf ?_); simp -implicitDefEqProofs only [forall_eq, ↓slp, slb, ↓reduceIte, reduceCtorEq, jA, jB, jC, jD, jE, jF, jG, jH, jI, jJ, jK, tfNdB, f0, f1, f4, f5, f9, f13, g1, pI, z0, z1, z2]; try simp only [Ex.fold, Ex.foldcs, ← Va.pv.eq_1] | refine hX _ _ ?_; clear hX X | clear hX X; refine hX _ _ ?_; clear hX X | clear hX X; clear hX X; refine hX _ _ ?_; clear hX X | intro hlen; unfold maxLen at hlen | apply And.intro; focus (first | omega | assumption | (repeat' apply And.intro) <;> first | omega | assumption)))
  obtain ⟨K, hK⟩ : ∃ K : F → M → Prop, ∀ f m', K f m' = (∃ k : Nat, k ≤ Q.length ∧ f 0 = .bp a 0 ∧ f 1 = .sl .no [] ∧ f 4 = .sl .no [] ∧ f 5 = .sl .no [] ∧ f 9 = .ep [.sl .no [], .sl .no (Q.map Qu.pv)] ∧ f 13 = .sl (.tok m.nt) [] ∧ f 17 = .sl .full [] ∧ f 18 = pI k ∧ m.fresh 1 = m') := ⟨_, fun _ _ => rfl⟩
  refine aLoop K (fun f m => Q.length - numOf (f 18)) ?_ ?_
  · rw [hK]; exact ⟨0, by omega, f0, f1, f4, f5, f9, f13, rfl, rfl, rfl⟩
  clear f0 f1 f4 f5 f9 f13
  intro f m' hrel
  rw [hK] at hrel
  obtain ⟨k, hk, f0, f1, f4, f5, f9, f13, f17, f18, rfl⟩ := hrel
  cases c1 : decide ((k : Int) < (Q.length : Int)) with
  | true =>
    have hlt : k < Q.length := by simpa using c1
    have g0 := getD_map Qu.pv Q k hlt
    have hi : IntKind.i64.wrap ((k : Int) + 1) = ((k + 1 : Nat) : Int) := by rw [wrap64 (by omega)]; omega
    have hme : numOf (f 18) = k := by rw [f18]; exact Int.toNat_natCast k
    have hqk := hq k hlt
    generalize Q[k] = q at *
    (repeat (first | refine aSeq fun X hX => ?_ | refine aBlk ?_ | refine aSkip ?_ | (first | refine aExit ?_ | refine aRet ?_); try simp only [slx, ↓reduceIte, Nat.reduceEqDiff, reduceCtorEq] | (first | refine aReg ?_ | refine aIf ?_); simp -implicitDefEqProofs only [forall_eq, ↓slp, slb, ↓reduceIte, reduceCtorEq, jA, jB, jC, jD, jE, jF, jG, jH, jI, jJ, jK, tfNdB, f0, f1, f4, f5, f9, f13, f17, f18, pI, c1, g0, hg1, k0]; try simp only [Ex.fold, Ex.foldcs, ← Va.pv.eq_1] | refine hX _ _ ?_; clear hX X | clear hX X; refine hX _ _ ?_; clear hX X | clear hX X; clear hX X; refine hX _ _ ?_; clear hX X | intro hlen; unfold maxLen at hlen | apply And.intro; focus (first | omega | assumption | (repeat' apply And.intro) <;> first | omega | assumption)))
    refine callMS hqk (by simp only [List.map_cons, List.map_nil, PV.settle, PV.settles, Qu.settle_pv]; rw [Qu.pv_eq]; rfl) ?_
    rintro v mv ⟨rfl, hmv⟩
    subst hmv
    simp -implicitDefEqProofs only [↓slp, slb, ↓reduceIte, reduceCtorEq, jA, jB, jC, jD, jE, jF, jG, jH, jI, jJ, jK, tfNdB]; try simp only [Ex.fold, Ex.foldcs, ← Va.pv.eq_1]
    (repeat (first | refine aSeq fun X hX => ?_ | refine aBlk ?_ | refine aSkip ?_ | (first | refine aExit ?_ | refine aRet ?_); try simp only [slx, ↓reduceIte, Nat.reduceEqDiff, reduceCtorEq] | (first | refine aReg ?_ | refine aIf ?_); simp -implicitDefEqProofs only [forall_eq, ↓slp, slb, ↓reduceIte, reduceCtorEq, jA, jB, jC, jD, jE, jF, jG, jH, jI, jJ, jK, tfNdB]; try simp only [Ex.fold, Ex.foldcs, ← Va.pv.eq_1] | refine hX _ _ ?_; clear hX X | clear hX X; refine hX _ _ ?_; clear hX X | clear hX X; clear hX X; refine hX _ _ ?_; clear hX X | intro hlen; unfold maxLen at hlen | apply And.intro; focus (first | omega | assumption | (repeat' apply And.intro) <;> first | omega | assumption)))
    obtain ⟨J, hJ⟩ : ∃ J : F → M → Prop, ∀ f m', J f m' = (f 0 = .bp a 0 ∧ f 1 = .sl .no [] ∧ f 4 = .sl .no [] ∧ f 5 = .sl .no [] ∧ f 9 = .ep [.sl .no [], .sl .no (Q.map Qu.pv)] ∧ f 13 = .sl (.tok m.nt) [] ∧ f 17 = .sl .full [] ∧ f 18 = pI k ∧ f 20 = .sl .no [] ∧ f 21 = pI 0 ∧ m.fresh 1 = m') := ⟨_, fun _ _ => rfl⟩
    refine aLoop J (fun f m => 0) ?_ ?_
    · rw [hJ]; exact ⟨f0, f1, f4, f5, f9, f13, f17, f18, rfl, rfl, rfl⟩
    clear f0 f1 f4 f5 f9 f13 f17 f18
    intro f m' hrel
    rw [hJ] at hrel
    obtain ⟨f0, f1, f4, f5, f9, f13, f17, f18, f20, g1, rfl⟩ := hrel
    (repeat (first | refine aSeq fun X hX => ?_ | refine aBlk ?_ | refine aSkip ?_ | (first | refine aExit ?_ | refine aRet ?_); try simp only [slx, ↓reduceIte, Nat.reduceEqDiff, reduceCtorEq] | (first | refine aReg ?_ | refine aIf ?_); simp -implicitDefEqProofs only [forall_eq, ↓slp, slb, ↓reduceIte, reduceCtorEq, jA, jB, jC, jD, jE, jF, jG, jH, jI, jJ, jK, tfNdB, f0, f18, f20, g1, pI, hi, z0, z1, z2, hg1, k0]; try simp only [Ex.fold, Ex.foldcs, ← Va.pv.eq_1] | refine hX _ _ ?_; clear hX X | clear hX X; refine hX _ _ ?_; clear hX X | clear hX X; clear hX X; refine hX _ _ ?_; clear hX X | intro hlen; unfold maxLen at hlen | apply And.intro; focus (first | omega | assumption | (repeat' apply And.intro) <;> first | omega | assumption)))
    rw [hK]
    exact ⟨⟨k + 1, hlt, f0, f1, f4, f5, f9, f13, f17, rfl, rfl⟩, by omega⟩
  | false =>
  (repeat (first | refine aSeq fun X hX => ?_ | refine aBlk ?_ | refine aSkip ?_ | (first | refine aExit ?_ | refine aRet ?_); try simp only [slx, ↓reduceIte, Nat.reduceEqDiff, reduceCtorEq] | (first | refine aReg ?_ | refine aIf ?_); simp -implicitDefEqProofs only [forall_eq, ↓slp, slb, ↓reduceIte, reduceCtorEq, jA, jB, jC, jD, jE, jF, jG, jH, jI, jJ, jK, tfNdB, f0, f1, f4, f5, f9, f13, f17, f18, pI, c1, hg1, k0]; try simp only [Ex.fold, Ex.foldcs, ← Va.pv.eq_1] | refine hX _ _ ?_; clear hX X | clear hX X; refine hX _ _ ?_; clear hX X | clear hX X; clear hX X; refine hX _ _ ?_; clear hX X | intro hlen; unfold maxLen at hlen | apply And.intro; focus (first | omega | assumption | (repeat' apply And.intro) <;> first | omega | assumption)))
  refine callE (hw _) ?_
  simp -implicitDefEqProofs only [↓slp, slb, ↓reduceIte, reduceCtorEq, jA, jB, jC, jD, jE, jF, jG, jH, jI, jJ, jK, tfNdB]; try simp only [Ex.fold, Ex.foldcs, ← Va.pv.eq_1]
  (repeat (first | refine aSeq fun X hX => ?_ | refine aBlk ?_ | refine aSkip ?_ | (first | refine aExit ?_ | refine aRet ?_); try simp only [slx, ↓reduceIte, Nat.reduceEqDiff, reduceCtorEq] | (first | refine aReg ?_ | refine aIf ?_); simp -implicitDefEqProofs only [forall_eq, ↓slp, slb, ↓reduceIte, reduceCtorEq, jA, jB, jC, jD, jE, jF, jG, jH, jI, jJ, jK, tfNdB, f9, f17]; try simp only [Ex.fold, Ex.foldcs, ← Va.pv.eq_1] | refine hX _ _ ?_; clear hX X | clear hX X; refine hX _ _ ?_; clear hX X | clear hX X; clear hX X; refine hX _ _ ?_; clear hX X | intro hlen; unfold maxLen at hlen | apply And.intro; focus (first | omega | assumption | (repeat' apply And.intro) <;> first | omega | assumption)))
  obtain ⟨I4, hI4⟩ : ∃ I4 : F → M → Prop, ∀ f m', I4 f m' = (f 9 = .ep [.sl .no [], .sl .no (Q.map Qu.pv)] ∧ f 17 = .sl .full [] ∧ f 24 = .sl .full [] ∧ f 25 = pI 0 ∧ m.fresh 1 = m') := ⟨_, fun _ _ => rfl⟩
  refine aLoop I4 (fun f m => 0) ?_ ?_
  · rw [hI4]; exact ⟨f9, f17, rfl, rfl, rfl⟩
  clear f0 f1 f4 f5 f13 f18
  intro f m' hrel
  rw [hI4] at hrel
  obtain ⟨f9, f17, f24, g1, rfl⟩ := hrel
  (repeat (first | refine aSeq fun X hX => ?_ | refine aBlk ?_ | refine aSkip ?_ | (first | refine aExit ?_ | refine aRet ?_); try simp only [slx, ↓reduceIte, Nat.reduceEqDiff, reduceCtorEq] | (first | refine aReg ?_ | refine aIf ?_); simp -implicitDefEqProofs only [forall_eq, ↓slp, slb, ↓reduceIte, reduceCtorEq, jA, jB, jC, jD, jE, jF, jG, jH, jI, jJ, jK, tfNdB, f9, f17, f24, g1, pI, z0, z1, z2]; try simp only [Ex.fold, Ex.foldcs, ← Va.pv.eq_1] | refine hX _ _ ?_; clear hX X | clear hX X; refine hX _ _ ?_; clear hX X | clear hX X; clear hX X; refine hX _ _ ?_; clear hX X | intro hlen; unfold maxLen at hlen | apply And.intro; focus (first | omega | assumption | (repeat' apply And.intro) <;> first | omega | assumption)))
  obtain ⟨I5, hI5⟩ : ∃ I5 : F → M → Prop, ∀ f m', I5 f m' = (f 9 = .ep [.sl .no [], .sl .no (Q.map Qu.pv)] ∧ f 24 = .sl .full [] ∧ f 26 = pI 0 ∧ m.fresh 1 = m') := ⟨_, fun _ _ => rfl⟩
  refine aLoop I5 (fun f m => 0) ?_ ?_
  · rw [hI5]; exact ⟨f9, f24, rfl, rfl⟩
  clear f9 f17 f24
  intro f m' hrel
  rw [hI5] at hrel
  obtain ⟨f9, f24, g1, rfl⟩ := hrel
  (repeat (first | refine aSeq fun X hX => ?_ | refine aBlk ?_ | refine aSkip ?_ | (first | refine aExit ?_ | refine aRet ?_); try simp only [slx, ↓reduceIte, Nat.reduceEqDiff, reduceCtorEq] | (first | refine aReg ?_ | refine aIf ?_); simp -implicitDefEqProofs only [forall_eq, ↓slp, slb, ↓reduceIte, reduceCtorEq, jA, jB, jC, jD, jE, jF, jG, jH, jI, jJ, jK, tfNdB, f9, f24, g1, pI, z0, z1, z2]; try simp only [Ex.fold, Ex.foldcs, ← Va.pv.eq_1] | refine hX _ _ ?_; clear hX X | clear hX X; refine hX _ _ ?_; clear hX X | clear hX X; clear hX X; refine hX _ _ ?_; clear hX X | intro hlen; unfold maxLen at hlen | apply And.intro; focus (first | omega | assumption | (repeat' apply And.intro) <;> first | omega | assumption)))
  simp only [aPost, Tryd.results58, aRes_n, aRes_t, aRes_c, pack_one, pack_two]
  exact leave_toks0 t1 rfl ⟨rfl, rfl⟩
set_option maxHeartbeats 8000000 in
theorem rnodeD_any (ns : List No) (hns : ns.length ≤ 1000000) (n : No) (hQl : n.b.eqs.length ≤ 1000000) (hn : FlatN n) (hK : ∀ q ∈ n.b.eqs, Known ns q.name) (a : Nat) (m : M) (hg : m.get a = some (lkR ns)) :
    ACalls Tryd.prog 34 [.bp a 0, n.pv] m (unit m) := by
  obtain ⟨h1, h2, h3, h4⟩ := hn
  have hb := rblockD_any ns hns n.b.eqs hQl (fun q hq => ⟨h4 q hq, hK q hq⟩) a m hg
  have z0 : decide (((0 : Nat) : Int) < 0) = false := rfl
  have z1 : decide ((0 : Int) < ((0 : Nat) : Int)) = false := rfl
  have z2 : decide ((0 : Int) < 0) = false := rfl
  refine ACalls.enter (mu := []) ok_mix Tryd.func34 rfl (by kernel_rfl) (by kernel_rfl) (by simp only [List.length_cons, List.length_nil, Tryd.ntmps34]; omega) ?_
  (repeat (first | refine aSeq fun X hX => ?_ | refine aBlk ?_ | refine aSkip ?_ | (first | refine aExit ?_ | refine aRet ?_); try simp only [slx, ↓reduceIte, Nat.reduceEqDiff, reduceCtorEq] | (first | refine aReg ?_ | refine aIf ?_); simp -implicitDefEqProofs only [forall_eq, ↓slp, slb, ↓reduceIte, reduceCtorEq, jA, jB, jC, jD, jE, jF, jG, jH, jI, jJ, jK, tfNdB]; try simp only [Ex.fold, Ex.foldcs, ← Va.pv.eq_1] | refine hX _ _ ?_; clear hX X | clear hX X; refine hX _ _ ?_; clear hX X | clear hX X; clear hX X; refine hX _ _ ?_; clear hX X | intro hlen; unfold maxLen at hlen | apply And.intro; focus (first | omega | assumption | (repeat' apply And.intro) <;> first | omega | assumption)))
  obtain ⟨I1, hI1⟩ : ∃ I1 : F → M → Prop, ∀ f m', I1 f m' = (f 0 = .bp a 0 ∧ f 3 = .ep n.cs ∧ f 4 = .sl .full [] ∧ f 5 = pI 0 ∧ m = m') := ⟨_, fun _ _ => rfl⟩
  refine aLoop I1 (fun f m => 0) ?_ ?_
  · rw [hI1]; exact ⟨rfl, rfl, rfl, rfl, rfl⟩
  intro f m' hrel
  rw [hI1] at hrel
  obtain ⟨f0, f3, f4, g1, rfl⟩ := hrel
  (repeat (first | refine aSeq fun X hX => ?_ | refine aBlk ?_ | refine aSkip ?_ | (first | refine aExit ?_ | refine aRet ?_); try simp only [slx, ↓reduceIte, Nat.reduceEqDiff, reduceCtorEq] | (first | refine aReg ?_ | refine aIf ?_); simp -implicitDefEqProofs only [forall_eq, ↓slp, slb, ↓reduceIte, reduceCtorEq, jA, jB, jC, jD, jE, jF, jG, jH, jI, jJ, jK, tfNdB, f0, f3, f4, g1, pI, z0, z1, z2, h1, h2, h3, List.map_nil, List.length_nil]; try simp only [Ex.fold, Ex.foldcs, ← Va.pv.eq_1] | refine hX _ _ ?_; clear hX X | clear hX X; refine hX _ _ ?_; clear hX X | clear hX X; clear hX X; refine hX _ _ ?_; clear hX X | intro hlen; unfold maxLen at hlen | apply And.intro; focus (first | omega | assumption | (repeat' apply And.intro) <;> first | omega | assumption)))
  obtain ⟨I2, hI2⟩ : ∃ I2 : F → M → Prop, ∀ f m', I2 f m' = (f 0 = .bp a 0 ∧ f 3 = .ep n.cs ∧ f 4 = .sl .full [] ∧ f 6 = pI 0 ∧ m = m') := ⟨_, fun _ _ => rfl⟩
  refine aLoop I2 (fun f m => 0) ?_ ?_
  · rw [hI2]; exact ⟨f0, f3, f4, rfl, rfl⟩
  clear f0 f3 f4
  intro f m' hrel
  rw [hI2] at hrel
  obtain ⟨f0, f3, f4, g1, rfl⟩ := hrel
  (repeat (first | refine aSeq fun X hX => ?_ | refine aBlk ?_ | refine aSkip ?_ | (first | refine aExit ?_ | refine aRet ?_); try simp only [slx, ↓reduceIte, Nat.reduceEqDiff, reduceCtorEq] | (first | refine aReg ?_ | refine aIf ?_); simp -implicitDefEqProofs only [forall_eq, ↓slp, slb, ↓reduceIte, reduceCtorEq, jA, jB, jC, jD, jE, jF, jG, jH, jI, jJ, jK, tfNdB, f0, f3, f4, g1, pI, z0, z1, z2, h1, h2, h3, List.map_nil, List.length_nil]; try simp only [Ex.fold, Ex.foldcs, ← Va.pv.eq_1] | refine hX _ _ ?_; clear hX X | clear hX X; refine hX _ _ ?_; clear hX X | clear hX X; clear hX X; refine hX _ _ ?_; clear hX X | intro hlen; unfold maxLen at hlen | apply And.intro; focus (first | omega | assumption | (repeat' apply And.intro) <;> first | omega | assumption)))
  obtain ⟨I3, hI3⟩ : ∃ I3 : F → M → Prop, ∀ f m', I3 f m' = (f 0 = .bp a 0 ∧ f 3 = .ep n.cs ∧ f 4 = .sl .full [] ∧ f 7 = .sl .full [] ∧ f 8 = pI 0 ∧ m = m') := ⟨_, fun _ _ => rfl⟩
  refine aLoop I3 (fun f m => 0) ?_ ?_
  · rw [hI3]; exact ⟨f0, f3, f4, rfl, rfl, rfl⟩
  clear f0 f3 f4
  intro f m' hrel
  rw [hI3] at hrel
  obtain ⟨f0, f3, f4, f7, g1, rfl⟩ := hrel
  (repeat (first | refine aSeq fun X hX => ?_ | refine aBlk ?_ | refine aSkip ?_ | (first | refine aExit ?_ | refine aRet ?_); try simp only [slx, ↓reduceIte, Nat.reduceEqDiff, reduceCtorEq] | (first | refine aReg ?_ | refine aIf ?_); simp -implicitDefEqProofs only [forall_eq, ↓slp, slb, ↓reduceIte, reduceCtorEq, jA, jB, jC, jD, jE, jF, jG, jH, jI, jJ, jK, tfNdB, f0, f3, f4, f7, g1, pI, z0, z1, z2, h1, h2, h3, List.map_nil, List.length_nil]; try simp only [Ex.fold, Ex.foldcs, ← Va.pv.eq_1] | refine hX _ _ ?_; clear hX X | clear hX X; refine hX _ _ ?_; clear hX X | clear hX X; clear hX X; refine hX _ _ ?_; clear hX X | intro hlen; unfold maxLen at hlen | apply And.intro; focus (first | omega | assumption | (repeat' apply And.intro) <;> first | omega | assumption)))
  refine callMS hb (by simp only [List.map_cons, List.map_nil, PV.settle, PV.settles]) ?_
  rintro v mv ⟨rfl, hmv⟩
  have hms := hmv.symm
  subst hms
  simp -implicitDefEqProofs only [↓slp, slb, ↓reduceIte, reduceCtorEq, jA, jB, jC, jD, jE, jF, jG, jH, jI, jJ, jK, tfNdB]; try simp only [Ex.fold, Ex.foldcs, ← Va.pv.eq_1]
  (repeat (first | refine aSeq fun X hX => ?_ | refine aBlk ?_ | refine aSkip ?_ | (first | refine aExit ?_ | refine aRet ?_); try simp only [slx, ↓reduceIte, Nat.reduceEqDiff, reduceCtorEq] | (first | refine aReg ?_ | refine aIf ?_); simp -implicitDefEqProofs only [forall_eq, ↓slp, slb, ↓reduceIte, reduceCtorEq, jA, jB, jC, jD, jE, jF, jG, jH, jI, jJ, jK, tfNdB]; try simp only [Ex.fold, Ex.foldcs, ← Va.pv.eq_1] | refine hX _ _ ?_; clear hX X | clear hX X; refine hX _ _ ?_; clear hX X | clear hX X; clear hX X; refine hX _ _ ?_; clear hX X | intro hlen; unfold maxLen at hlen | apply And.intro; focus (first | omega | assumption | (repeat' apply And.intro) <;> first | omega | assumption)))
  obtain ⟨I4, hI4⟩ : ∃ I4 : F → M → Prop, ∀ f m', I4 f m' = (f 3 = .ep n.cs ∧ f 10 = pI 0 ∧ m = m') := ⟨_, fun _ _ => rfl⟩
  refine aLoop I4 (fun f m => 0) ?_ ?_
  · rw [hI4]; exact ⟨f3, rfl, rfl⟩
  clear f0 f3 f4 f7
  intro f m' hrel
  rw [hI4] at hrel
  obtain ⟨f3, g1, rfl⟩ := hrel
  (repeat (first | refine aSeq fun X hX => ?_ | refine aBlk ?_ | refine aSkip ?_ | (first | refine aExit ?_ | refine aRet ?_); try simp only [slx, ↓reduceIte, Nat.reduceEqDiff, reduceCtorEq] | (first | refine aReg ?_ | refine aIf ?_); simp -implicitDefEqProofs only [forall_eq, ↓slp, slb, ↓reduceIte, reduceCtorEq, jA, jB, jC, jD, jE, jF, jG, jH, jI, jJ, jK, tfNdB, f3, g1, pI, z0, z1, z2, h1, h2, h3, List.map_nil, List.length_nil]; try simp only [Ex.fold, Ex.foldcs, ← Va.pv.eq_1] | refine hX _ _ ?_; clear hX X | clear hX X; refine hX _ _ ?_; clear hX X | clear hX X; clear hX X; refine hX _ _ ?_; clear hX X | intro hlen; unfold maxLen at hlen | apply And.intro; focus (first | omega | assumption | (repeat' apply And.intro) <;> first | omega | assumption)))
  simp only [aPost, Tryd.results34, aRes_n, aRes_t, aRes_c, pack_one, pack_two]
  exact leave_same rfl ⟨rfl, rfl⟩
end Go.Proofs.YteiaedmipkcfeaaDoor

/-
  The reference's Check of nodes that only call one another.
-/
set_option linter.unusedVariables false
set_option linter.unusedSimpArgs false
namespace Go.Proofs.YteiaedmipkcfeaaDoor
open Nat renaming reduceEqDiff → jA, reduceAdd → jB, reduceMul → jC, reduceLT → jD, reduceLeDiff → jE, reduceBEq → jF, reduceBNe → jG
open Int renaming reduceLE → jH, reduceLT → jI, reduceToNat → jJ, reduceEq → jK
open Go
-- EXX: Qu.settle_pv, Qu.pure_pv, Qu.cells_pv, Qu.cs, No.settle_pv, No.pure_pv, No.cells_pv, No.cs, No.pv.eq_1
set_option maxRecDepth 20000
-- TNAMES: int; uint8; int32; string; bool; []string; []api.Expr; api.Expr; api.Pos; api.Type; api.On; []api.On; api.Var; []api.Var; api.Equation; []api.Equation; api.Block; api.Trans; []api.Trans; api.Arm; []api.Arm; api.Node; []api.Node; api.Enum; []api.Enum; api.Program; api.Kind; metronomeref07.look; *metronomeref07.look
set_option linter.defProp false
def tfNdQ := And.intro @tfA (And.intro @Ex.settle_pv (And.intro @Ex.pure_pv (And.intro @Ex.cells_pv (And.intro @Ex.cs.eq_1 (And.intro @On.pv.eq_1 (And.intro @Ty.pv.eq_1 (And.intro @Va.settle_pv (And.intro @Va.pure_pv (And.intro @Va.cells_pv (And.intro @Va.cs.eq_1 (And.intro @Qu.settle_pv (And.intro @Qu.pure_pv (And.intro @Qu.cells_pv (And.intro @Qu.cs.eq_1 (And.intro @No.settle_pv (And.intro @No.pure_pv (And.intro @No.cells_pv (And.intro @No.cs.eq_1 @No.pv.eq_1))))))))))))))))))

theorem get_updS {m : M} {id : Nat} {c : List PV} (h : id < m.nb) : (m.upd id c).get id = some c := by rw [M.get_upd, if_pos ⟨rfl, h⟩]
theorem upd_updS (m : M) (id : Nat) (c c' : List PV) : (m.upd id c).upd id c' = m.upd id c' := by
  unfold M.upd; simp only [List.set_set]
theorem leave_upd {m : M} {id : Nat} {c c' : List PV} {v : PV} {R : PV → M → Prop} (hc : PV.pures c' = true) (hv : v.settle.pure = true) (hR : R v.settle (m.upd id c')) : ∃ v' m', Leave (m.upd id c) (m.upd id c') v v' m' ∧ R v' m' := by
  refine ⟨_, _, .upd v (m.upd id c') (by simp [M.upd, M.nb]) (by simp only [M.upd, M.nb, List.set_set, List.length_set]; rw [List.take_of_length_le (by simp)]) (by simp [M.upd, M.nt]) (by simp [M.upd, M.nt]) (fun k d hk => ?_) hv, hR⟩
  rw [M.get_upd] at hk
  split at hk
  · exact .inr (by cases hk; exact hc)
  · rename_i h
    exact .inl (by rw [M.get_upd, if_neg h]; exact hk)
/-- What the look holds: nodes, and the first fault. -/
def lkQ (ns : List No) : Option (Int × Int) → List PV
  | none => lkR ns
  | some (l, c) => [.sl .no [], .sl .no (ns.map No.pv), .v (.int .i64 6), .v (.int .i64 l), .v (.int .i64 c)]
set_option maxHeartbeats 1000000 in
theorem rfailQ_any (ns : List No) (l c : Int) (m : M) (a : Nat) (ha : a < m.nb) : ACalls Tryd.prog 32 [.bp a 0, pI 6, pP l c] (m.upd a (lkQ ns none)) (fun v m' => v = .tp [] ∧ m' = m.upd a (lkQ ns (some (l, c)))) := by
  have hp : ∀ k l c, PV.pures [.sl .no [], .sl .no (ns.map No.pv), .v (.int .i64 k), .v (.int .i64 l), .v (.int .i64 c)] = true := fun k l c => rfl
  have z0 : ((0 : Int) == 0) = true := rfl
  refine ACalls.enter (mu := []) ok_mix Tryd.func32 rfl (by kernel_rfl) (by kernel_rfl) (by simp only [List.length_cons, List.length_nil, Tryd.ntmps32]; omega) ?_
  (repeat (first | refine aSeq fun X hX => ?_ | refine aBlk ?_ | refine aSkip ?_ | (first | refine aExit ?_ | refine aRet ?_); try simp only [slx, ↓reduceIte, Nat.reduceEqDiff, reduceCtorEq] | (first | refine aReg ?_ | refine aIf ?_); simp -implicitDefEqProofs only [forall_eq, ↓slp, slb, ↓reduceIte, reduceCtorEq, jA, jB, jC, jD, jE, jF, jG, jH, jI, jJ, jK, tfNdQ, lkQ, lkR, get_updS, upd_updS, ha, z0, pI]; try simp only [Ex.fold, Ex.foldcs, ← Va.pv.eq_1] | refine hX _ _ ?_; clear hX X | clear hX X; refine hX _ _ ?_; clear hX X | clear hX X; clear hX X; refine hX _ _ ?_; clear hX X | intro hlen; unfold maxLen at hlen | apply And.intro; focus (first | omega | assumption | (repeat' apply And.intro) <;> first | omega | assumption)))
  (repeat (first | refine aSeq fun X hX => ?_ | refine aBlk ?_ | refine aSkip ?_ | (first | refine aExit ?_ | refine aRet ?_); try simp only [slx, ↓reduceIte, Nat.reduceEqDiff, reduceCtorEq] | (first | refine aReg ?_ | refine aDrE ?_ | refine aIf ?_); simp -implicitDefEqProofs only [forall_eq, ↓slp, slb, ↓reduceIte, reduceCtorEq, jA, jB, jC, jD, jE, jF, jG, jH, jI, jJ, jK, tfNdQ, lkQ, lkR, get_updS, upd_updS, ha, z0, pI]; try simp only [Ex.fold, Ex.foldcs, ← Va.pv.eq_1] | refine hX _ _ ?_; clear hX X | clear hX X; refine hX _ _ ?_; clear hX X | clear hX X; clear hX X; refine hX _ _ ?_; clear hX X | intro hlen; unfold maxLen at hlen | apply And.intro; focus (first | omega | assumption | (repeat' apply And.intro) <;> first | omega | assumption)))
  simp only [aPost, Tryd.results32, aRes_n, aRes_t, aRes_c, pack_one, pack_two]
  exact leave_upd (hp _ _ _) rfl ⟨rfl, rfl⟩
theorem rfailQ_in (ns : List No) (l c : Int) (mm : M) (a : Nat) (b0 : Option (List PV)) (ha : mm.nb + 1 = a) : ACalls Tryd.prog 32 [.bp a 0, pI 6, pP l c] (mm.ext [b0, some (lkQ ns none)]) (fun v m' => v = .tp [] ∧ m' = mm.ext [b0, some (lkQ ns (some (l, c)))]) := by
  have e : ∀ X, (mm.ext [b0, some (lkQ ns none)]).upd a X = mm.ext [b0, some X] := fun X => by subst ha; rw [ext_upd (i := 1) rfl]; rfl
  have h := rfailQ_any ns l c (mm.ext [b0, some (lkQ ns none)]) a (by rw [ext_nb]; simp; omega)
  rw [e, e] at h
  exact h
def kL : Option (Int × Int) → Int
  | none => 0
  | some _ => 6
def wL : Option (Int × Int) → PV
  | none => pP 0 0
  | some (l, c) => pP l c
set_option maxHeartbeats 16000000 in
theorem rcheckD_any {S : List Str} {ns : List No} (hD : DOk S ns) (m : M) :
    ACalls Tryd.prog 11 [.ag [.sl .no [], .sl .no (ns.map No.pv)]] m (fun v m' => v = .tp [pI (kL (loopF S ns ns)), wL (loopF S ns ns)] ∧ m' = m) := by
  have hln := hD.len
  have hrh := fun (o : Own) (l : List Str) (s : Str) (m : M) => rHas_any o l s m
  have hrf := fun (l c : Int) => rfailQ_in ns l c m (m.nb + 1) (some [.v (.int .i64 0), .v (.int .i64 0)]) rfl
  have hfn := fun (k : Nat) (hk : k < ns.length) m => (show ACalls Tryd.prog 33 [.ag [.sl .no [], .sl .no (ns.map No.pv)], pS ns[k].name] m (fun v m' => v = pI k ∧ m' = m) by
    have := rNode_any [] ns (by have := hD.len; omega) ns[k].name m
    rwa [hD.names k hk] at this)
  have hg0 : (m.ext [some [.v (.int .i64 0), .v (.int .i64 0)], some (lkQ ns none)]).get (m.nb + 1) = some (lkR ns) := ext_get (i := 1) rfl
  have hnd := fun (k : Nat) (h : k < ns.length) => rnodeD_any ns (by have := hD.len; omega) ns[k] (hD.eqs _ (List.getElem_mem h)) (hD.flat _ (List.getElem_mem h)) (hD.known _ (List.getElem_mem h)) (m.nb + 1) _ hg0
  have hne := fun (s : Str) m => rNeeds_any hD.lenS [] ns (by have := hD.len; omega) (fun n hn => ⟨hD.eqs n hn, hD.inS n hn⟩) s m
  obtain ⟨FE, hFE⟩ : ∃ FE, loopF S ns ns = FE := ⟨_, rfl⟩
  rw [hFE]
  have z0 : decide (((0 : Nat) : Int) < 0) = false := rfl
  have z1 : decide ((0 : Int) < ((0 : Nat) : Int)) = false := rfl
  have z2 : decide ((0 : Int) < 0) = false := rfl
  have k0 : ((0 : Int) == 0) = true := rfl
  have k6 : ((6 : Int) == 0) = false := rfl
  obtain ⟨ms, hms⟩ : ∃ ms, m.ext [some [.v (.int .i64 0), .v (.int .i64 0)], some (lkQ ns none)] = ms := ⟨_, rfl⟩
  rw [hms] at hg0 hnd
  refine ACalls.enter (mu := [3, 14]) ok_mix Tryd.func11 rfl (by kernel_rfl) (by kernel_rfl) (by simp only [List.length_cons, List.length_nil, Tryd.ntmps11]; omega) ?_
  (repeat (first | refine aSeq fun X hX => ?_ | refine aBlk ?_ | refine aSkip ?_ | (first | refine aExit ?_ | refine aRet ?_); try simp only [slx, ↓reduceIte, Nat.reduceEqDiff, reduceCtorEq] | (first | refine aReg ?_ | refine aIf ?_); simp -implicitDefEqProofs only [forall_eq, ↓slp, slb, ↓reduceIte, reduceCtorEq, jA, jB, jC, jD, jE, jF, jG, jH, jI, jJ, jK, tfNdQ]; try simp only [Ex.fold, Ex.foldcs, ← Va.pv.eq_1] | refine hX _ _ ?_; clear hX X | clear hX X; refine hX _ _ ?_; clear hX X | clear hX X; clear hX X; refine hX _ _ ?_; clear hX X | intro hlen; unfold maxLen at hlen | apply And.intro; focus (first | omega | assumption | (repeat' apply And.intro) <;> first | omega | assumption)))
  rw [show (m.ext [some [PV.v (Value.int IntKind.i64 0), PV.v (Value.int IntKind.i64 0)], some [PV.sl Own.no [], PV.sl Own.no (ns.map No.pv), PV.v (Value.int IntKind.i64 0), PV.v (Value.int IntKind.i64 0), PV.v (Value.int IntKind.i64 0)]]) = ms from hms]
  obtain ⟨I1, hI1⟩ : ∃ I : F → M → Prop, ∀ f m', I f m' = (f 1 = .ep [.sl .no [], .sl .no (ns.map No.pv)] ∧ f 3 = .bp m.nb 0 ∧ f 4 = .bp (m.nb + 1) 0 ∧ f 6 = pI 0 ∧ ms = m') := ⟨_, fun _ _ => rfl⟩
  refine aLoop I1 (fun f m => 0) ?_ ?_
  · rw [hI1]; exact ⟨rfl, rfl, rfl, rfl, rfl⟩
  intro f m' hrel
  rw [hI1] at hrel
  obtain ⟨f1, f3, f4, g1, rfl⟩ := hrel
  (repeat (first | refine aSeq fun X hX => ?_ | refine aBlk ?_ | refine aSkip ?_ | (first | refine aExit ?_ | refine aRet ?_); try simp only [slx, ↓reduceIte, Nat.reduceEqDiff, reduceCtorEq] | (first | refine aReg ?_ | refine aIf ?_); simp -implicitDefEqProofs only [forall_eq, ↓slp, slb, ↓reduceIte, reduceCtorEq, jA, jB, jC, jD, jE, jF, jG, jH, jI, jJ, jK, tfNdQ, f1, f3, f4, g1, pI, z0, z1, z2]; try simp only [Ex.fold, Ex.foldcs, ← Va.pv.eq_1] | refine hX _ _ ?_; clear hX X | clear hX X; refine hX _ _ ?_; clear hX X | clear hX X; clear hX X; refine hX _ _ ?_; clear hX X | intro hlen; unfold maxLen at hlen | apply And.intro; focus (first | omega | assumption | (repeat' apply And.intro) <;> first | omega | assumption)))
  obtain ⟨I2, hI2⟩ : ∃ I : F → M → Prop, ∀ f m', I f m' = (∃ k : Nat, k ≤ ns.length ∧ f 1 = .ep [.sl .no [], .sl .no (ns.map No.pv)] ∧ f 3 = .bp m.nb 0 ∧ f 4 = .bp (m.nb + 1) 0 ∧ f 9 = pI k ∧ ms = m') := ⟨_, fun _ _ => rfl⟩
  refine aLoop I2 (fun f m => ns.length - numOf (f 9)) ?_ ?_
  · rw [hI2]; exact ⟨0, by omega, f1, f3, f4, rfl, rfl⟩
  clear f1 f3 f4 g1
  intro f m' hrel
  rw [hI2] at hrel
  obtain ⟨k, hk, f1, f3, f4, f9, rfl⟩ := hrel
  cases c1 : decide ((k : Int) < (ns.length : Int)) with
  | true =>
    have hlt : k < ns.length := by simpa using c1
    have g0 := getD_map No.pv ns k hlt
    have hi : IntKind.i64.wrap ((k : Int) + 1) = ((k + 1 : Nat) : Int) := by rw [wrap64 (by omega)]; omega
    have hme : numOf (f 9) = k := by rw [f9]; exact Int.toNat_natCast k
    have hf := hfn k hlt
    have dk : decide ((k : Int) < (k : Int)) = false := by simp
    generalize ns[k] = n at *
    (repeat (first | refine aSeq fun X hX => ?_ | refine aBlk ?_ | refine aSkip ?_ | (first | refine aExit ?_ | refine aRet ?_); try simp only [slx, ↓reduceIte, Nat.reduceEqDiff, reduceCtorEq] | (first | refine aReg ?_ | refine aIf ?_); simp -implicitDefEqProofs only [forall_eq, ↓slp, slb, ↓reduceIte, reduceCtorEq, jA, jB, jC, jD, jE, jF, jG, jH, jI, jJ, jK, tfNdQ, f1, f3, f4, f9, pI, c1, g0]; try simp only [Ex.fold, Ex.foldcs, ← Va.pv.eq_1] | refine hX _ _ ?_; clear hX X | clear hX X; refine hX _ _ ?_; clear hX X | clear hX X; clear hX X; refine hX _ _ ?_; clear hX X | intro hlen; unfold maxLen at hlen | apply And.intro; focus (first | omega | assumption | (repeat' apply And.intro) <;> first | omega | assumption)))
    (repeat (first | refine aSeq fun X hX => ?_ | refine aBlk ?_ | refine aSkip ?_ | (first | refine aExit ?_ | refine aRet ?_); try simp only [slx, ↓reduceIte, Nat.reduceEqDiff, reduceCtorEq] | (first | refine aReg ?_ | refine aDrE ?_ | refine aIf ?_); simp -implicitDefEqProofs only [forall_eq, ↓slp, slb, ↓reduceIte, reduceCtorEq, jA, jB, jC, jD, jE, jF, jG, jH, jI, jJ, jK, tfNdQ, f1, f3, f4, f9, pI, c1, g0]; try simp only [Ex.fold, Ex.foldcs, ← Va.pv.eq_1] | refine hX _ _ ?_; clear hX X | clear hX X; refine hX _ _ ?_; clear hX X | clear hX X; clear hX X; refine hX _ _ ?_; clear hX X | intro hlen; unfold maxLen at hlen | apply And.intro; focus (first | omega | assumption | (repeat' apply And.intro) <;> first | omega | assumption)))
    refine callE (hf _) ?_
    simp -implicitDefEqProofs only [↓slp, slb, ↓reduceIte, reduceCtorEq, jA, jB, jC, jD, jE, jF, jG, jH, jI, jJ, jK, tfNdQ, pI, dk, f9]; try simp only [Ex.fold, Ex.foldcs, ← Va.pv.eq_1]
    (repeat (first | refine aSeq fun X hX => ?_ | refine aBlk ?_ | refine aSkip ?_ | (first | refine aExit ?_ | refine aRet ?_); try simp only [slx, ↓reduceIte, Nat.reduceEqDiff, reduceCtorEq] | (first | refine aReg ?_ | refine aIf ?_); simp -implicitDefEqProofs only [forall_eq, ↓slp, slb, ↓reduceIte, reduceCtorEq, jA, jB, jC, jD, jE, jF, jG, jH, jI, jJ, jK, tfNdQ, f9, pI, hi, dk]; try simp only [Ex.fold, Ex.foldcs, ← Va.pv.eq_1] | refine hX _ _ ?_; clear hX X | clear hX X; refine hX _ _ ?_; clear hX X | clear hX X; clear hX X; refine hX _ _ ?_; clear hX X | intro hlen; unfold maxLen at hlen | apply And.intro; focus (first | omega | assumption | (repeat' apply And.intro) <;> first | omega | assumption)))
    rw [hI2]
    exact ⟨⟨k + 1, hlt, f1, f3, f4, rfl, rfl⟩, by omega⟩
  | false =>
  (repeat (first | refine aSeq fun X hX => ?_ | refine aBlk ?_ | refine aSkip ?_ | (first | refine aExit ?_ | refine aRet ?_); try simp only [slx, ↓reduceIte, Nat.reduceEqDiff, reduceCtorEq] | (first | refine aReg ?_ | refine aIf ?_); simp -implicitDefEqProofs only [forall_eq, ↓slp, slb, ↓reduceIte, reduceCtorEq, jA, jB, jC, jD, jE, jF, jG, jH, jI, jJ, jK, tfNdQ, f1, f3, f4, f9, pI, c1]; try simp only [Ex.fold, Ex.foldcs, ← Va.pv.eq_1] | refine hX _ _ ?_; clear hX X | clear hX X; refine hX _ _ ?_; clear hX X | clear hX X; clear hX X; refine hX _ _ ?_; clear hX X | intro hlen; unfold maxLen at hlen | apply And.intro; focus (first | omega | assumption | (repeat' apply And.intro) <;> first | omega | assumption)))
  obtain ⟨I3, hI3⟩ : ∃ I : F → M → Prop, ∀ f m', I f m' = (∃ k : Nat, k ≤ ns.length ∧ f 1 = .ep [.sl .no [], .sl .no (ns.map No.pv)] ∧ f 3 = .bp m.nb 0 ∧ f 4 = .bp (m.nb + 1) 0 ∧ f 10 = pI k ∧ ms = m') := ⟨_, fun _ _ => rfl⟩
  refine aLoop I3 (fun f m => ns.length - numOf (f 10)) ?_ ?_
  · rw [hI3]; exact ⟨0, by omega, f1, f3, f4, rfl, rfl⟩
  clear f1 f3 f4 f9 hk c1 k
  intro f m' hrel
  rw [hI3] at hrel
  obtain ⟨k, hk, f1, f3, f4, f10, rfl⟩ := hrel
  unfold lkR at hg0
  cases c1 : decide ((k : Int) < (ns.length : Int)) with
  | true =>
    have hlt : k < ns.length := by simpa using c1
    have g0 := getD_map No.pv ns k hlt
    have hi : IntKind.i64.wrap ((k : Int) + 1) = ((k + 1 : Nat) : Int) := by rw [wrap64 (by omega)]; omega
    have hme : numOf (f 10) = k := by rw [f10]; exact Int.toNat_natCast k
    have hd := hnd k hlt
    generalize ns[k] = n at *
    (repeat (first | refine aSeq fun X hX => ?_ | refine aBlk ?_ | refine aSkip ?_ | (first | refine aExit ?_ | refine aRet ?_); try simp only [slx, ↓reduceIte, Nat.reduceEqDiff, reduceCtorEq] | (first | refine aReg ?_ | refine aIf ?_); simp -implicitDefEqProofs only [forall_eq, ↓slp, slb, ↓reduceIte, reduceCtorEq, jA, jB, jC, jD, jE, jF, jG, jH, jI, jJ, jK, tfNdQ, f1, f3, f4, f10, pI, c1, g0, hg0, k0]; try simp only [Ex.fold, Ex.foldcs, ← Va.pv.eq_1] | refine hX _ _ ?_; clear hX X | clear hX X; refine hX _ _ ?_; clear hX X | clear hX X; clear hX X; refine hX _ _ ?_; clear hX X | intro hlen; unfold maxLen at hlen | apply And.intro; focus (first | omega | assumption | (repeat' apply And.intro) <;> first | omega | assumption)))
    refine callE hd ?_
    simp -implicitDefEqProofs only [↓slp, slb, ↓reduceIte, reduceCtorEq, jA, jB, jC, jD, jE, jF, jG, jH, jI, jJ, jK, tfNdQ]; try simp only [Ex.fold, Ex.foldcs, ← Va.pv.eq_1]
    (repeat (first | refine aSeq fun X hX => ?_ | refine aBlk ?_ | refine aSkip ?_ | (first | refine aExit ?_ | refine aRet ?_); try simp only [slx, ↓reduceIte, Nat.reduceEqDiff, reduceCtorEq] | (first | refine aReg ?_ | refine aIf ?_); simp -implicitDefEqProofs only [forall_eq, ↓slp, slb, ↓reduceIte, reduceCtorEq, jA, jB, jC, jD, jE, jF, jG, jH, jI, jJ, jK, tfNdQ, f10, pI, hi]; try simp only [Ex.fold, Ex.foldcs, ← Va.pv.eq_1] | refine hX _ _ ?_; clear hX X | clear hX X; refine hX _ _ ?_; clear hX X | clear hX X; clear hX X; refine hX _ _ ?_; clear hX X | intro hlen; unfold maxLen at hlen | apply And.intro; focus (first | omega | assumption | (repeat' apply And.intro) <;> first | omega | assumption)))
    rw [hI3]
    exact ⟨⟨k + 1, hlt, f1, f3, f4, rfl, rfl⟩, by omega⟩
  | false =>
  (repeat (first | refine aSeq fun X hX => ?_ | refine aBlk ?_ | refine aSkip ?_ | (first | refine aExit ?_ | refine aRet ?_); try simp only [slx, ↓reduceIte, Nat.reduceEqDiff, reduceCtorEq] | (first | refine aReg ?_ | refine aIf ?_); simp -implicitDefEqProofs only [forall_eq, ↓slp, slb, ↓reduceIte, reduceCtorEq, jA, jB, jC, jD, jE, jF, jG, jH, jI, jJ, jK, tfNdQ, f1, f3, f4, f10, pI, c1]; try simp only [Ex.fold, Ex.foldcs, ← Va.pv.eq_1] | refine hX _ _ ?_; clear hX X | clear hX X; refine hX _ _ ?_; clear hX X | clear hX X; clear hX X; refine hX _ _ ?_; clear hX X | intro hlen; unfold maxLen at hlen | apply And.intro; focus (first | omega | assumption | (repeat' apply And.intro) <;> first | omega | assumption)))
  obtain ⟨I4, hI4⟩ : ∃ I : F → M → Prop, ∀ f m', I f m' = (∃ (k : Nat) (Ft : Option (Int × Int)), k ≤ ns.length ∧ ((Ft = none ∧ loopF S ns (ns.drop k) = FE) ∨ (∃ p, Ft = some p ∧ FE = some p)) ∧ f 1 = .ep [.sl .no [], .sl .no (ns.map No.pv)] ∧ f 3 = .bp m.nb 0 ∧ f 4 = .bp (m.nb + 1) 0 ∧ f 11 = pI k ∧ m.ext [some [.v (.int .i64 0), .v (.int .i64 0)], some (lkQ ns Ft)] = m') := ⟨_, fun _ _ => rfl⟩
  refine aLoop I4 (fun f m => ns.length - numOf (f 11)) ?_ ?_
  · rw [hI4]; exact ⟨0, none, by omega, .inl ⟨rfl, hFE⟩, f1, f3, f4, rfl, hms⟩
  clear f1 f3 f4 f10 hk c1 k hg0 hnd hms
  intro f m' hrel
  rw [hI4] at hrel
  obtain ⟨k, Ft, hk, hF, f1, f3, f4, f11, rfl⟩ := hrel
  have hend : ∀ (f : F), f 1 = .ep [.sl .no [], .sl .no (ns.map No.pv)] → f 3 = .bp m.nb 0 → f 4 = .bp (m.nb + 1) 0 → Ft = FE → X f (m.ext [some [.v (.int .i64 0), .v (.int .i64 0)], some (lkQ ns Ft)]) := by
      clear f1 f3 f4 f11
      intro f f1 f3 f4 hFF
      subst hFF
      refine hX _ _ ?_
      clear hX X hF
      cases Ft with
      | none =>
        have hg : (m.ext [some [.v (.int .i64 0), .v (.int .i64 0)], some (lkQ ns none)]).get (m.nb + 1) = some (lkQ ns none) := ext_get (i := 1) rfl
        try simp only [lkQ, lkR] at hg
        try simp only [lkQ, lkR]
        (repeat (first | refine aSeq fun X hX => ?_ | refine aBlk ?_ | refine aSkip ?_ | (first | refine aExit ?_ | refine aRet ?_); try simp only [slx, ↓reduceIte, Nat.reduceEqDiff, reduceCtorEq] | (first | refine aReg ?_ | refine aDrE ?_ | refine aIf ?_); simp -implicitDefEqProofs only [forall_eq, ↓slp, slb, ↓reduceIte, reduceCtorEq, jA, jB, jC, jD, jE, jF, jG, jH, jI, jJ, jK, tfNdQ, f1, f3, f4, hg, pI, List.set_cons_succ, List.set_cons_zero, List.getElem?_cons_succ, List.getElem?_cons_zero]; try simp only [Ex.fold, Ex.foldcs, ← Va.pv.eq_1] | refine hX _ _ ?_; clear hX X | clear hX X; refine hX _ _ ?_; clear hX X | clear hX X; clear hX X; refine hX _ _ ?_; clear hX X | intro hlen; unfold maxLen at hlen | apply And.intro; focus (first | omega | assumption | (repeat' apply And.intro) <;> first | omega | assumption)))
        simp only [aPost, Tryd.results11, aRes_n, aRes_t, aRes_c, pack_one, pack_two]
        simp -implicitDefEqProofs only [↓slp, slb, ↓reduceIte, reduceCtorEq, jA, jB, jC, jD, jE, jF, jG, jH, jI, jJ, jK, tfNdQ, f3, List.set_cons_succ, List.set_cons_zero, List.getElem?_cons_succ, List.getElem?_cons_zero]; try simp only [Ex.fold, Ex.foldcs, ← Va.pv.eq_1]
        exact leave_ext rfl ⟨rfl, rfl⟩
      | some q =>
        obtain ⟨l0, c0⟩ := q
        simp only [lkQ]
        have hA : ∀ ts, (⟨m.boxes, ts⟩ : M).nb = m.nb := fun ts => rfl
        (repeat (first | refine aSeq fun X hX => ?_ | refine aBlk ?_ | refine aSkip ?_ | (first | refine aExit ?_ | refine aRet ?_); try simp only [slx, ↓reduceIte, Nat.reduceEqDiff, reduceCtorEq] | (refine hX _ _ ?_; clear hX X) | (clear hX X; refine hX _ _ ?_; clear hX X)))
        refine aDrwE (isB m [some [.v (.int .i64 0), .v (.int .i64 0)], some [.sl .no [], .sl .no (ns.map No.pv), .v (.int .i64 6), .v (.int .i64 l0), .v (.int .i64 c0)]]) (hne := List.cons_ne_nil _ _) rfl (by kernel_rfl) (by kernel_rfl) ⟨m.toks, rfl⟩ ?_
        simp -implicitDefEqProofs only [↓slp, slb, ↓reduceIte, reduceCtorEq, jA, jB, jC, jD, jE, jF, jG, jH, jI, jJ, jK, tfNdQ, f1, f3, f4, pI, hA, isB_all, forall_const, List.dropLast_cons_cons, List.dropLast_singleton, List.getLast_cons_cons, List.getLast_singleton, List.set_cons_succ, List.set_cons_zero, List.getElem?_cons_succ, List.getElem?_cons_zero]; try simp only [Ex.fold, Ex.foldcs, ← Va.pv.eq_1]
        (repeat (first | refine aSeq fun X hX => ?_ | refine aBlk ?_ | refine aSkip ?_ | (first | refine aExit ?_ | refine aRet ?_); try simp only [slx, ↓reduceIte, Nat.reduceEqDiff, reduceCtorEq] | (first | refine aReg ?_ | refine aIf ?_); simp -implicitDefEqProofs only [forall_eq, ↓slp, slb, ↓reduceIte, reduceCtorEq, jA, jB, jC, jD, jE, jF, jG, jH, jI, jJ, jK, tfNdQ, List.set_cons_succ, List.set_cons_zero]; try simp only [Ex.fold, Ex.foldcs, ← Va.pv.eq_1] | refine hX _ _ ?_; clear hX X | clear hX X; refine hX _ _ ?_; clear hX X | clear hX X; clear hX X; refine hX _ _ ?_; clear hX X | intro hlen; unfold maxLen at hlen | apply And.intro; focus (first | omega | assumption | (repeat' apply And.intro) <;> first | omega | assumption)))
        simp only [aPost, Tryd.results11, aRes_n, aRes_t, aRes_c, pack_one, pack_two]
        simp -implicitDefEqProofs only [↓slp, slb, ↓reduceIte, reduceCtorEq, jA, jB, jC, jD, jE, jF, jG, jH, jI, jJ, jK, tfNdQ, f3, List.set_cons_succ, List.set_cons_zero, List.getElem?_cons_succ, List.getElem?_cons_zero]; try simp only [Ex.fold, Ex.foldcs, ← Va.pv.eq_1]
        exact leave_ext rfl ⟨rfl, rfl⟩
  cases c1 : decide ((k : Int) < (ns.length : Int)) with
  | false =>
    have hkk : k = ns.length := by simp at c1; omega
    subst hkk
    rw [List.drop_length] at hF
    have hFF : Ft = FE := by
      rcases hF with ⟨h1, h2⟩ | ⟨p, h1, h2⟩
      · rw [h1, ← h2]; rfl
      · rw [h1, h2]
    (repeat (first | refine aSeq fun X hX => ?_ | refine aBlk ?_ | refine aSkip ?_ | (first | refine aExit ?_ | refine aRet ?_); try simp only [slx, ↓reduceIte, Nat.reduceEqDiff, reduceCtorEq] | (first | refine aReg ?_ | refine aIf ?_); simp -implicitDefEqProofs only [forall_eq, ↓slp, slb, ↓reduceIte, reduceCtorEq, jA, jB, jC, jD, jE, jF, jG, jH, jI, jJ, jK, tfNdQ, f1, f3, f4, f11, pI, c1]; try simp only [Ex.fold, Ex.foldcs, ← Va.pv.eq_1] | refine hX _ _ ?_; clear hX X | clear hX X; refine hX _ _ ?_; clear hX X | clear hX X; clear hX X; refine hX _ _ ?_; clear hX X | intro hlen; unfold maxLen at hlen | apply And.intro; focus (first | omega | assumption | (repeat' apply And.intro) <;> first | omega | assumption)))
    exact hend _ f1 f3 f4 hFF
  | true =>
  have hlt : k < ns.length := by simpa using c1
  have g0 := getD_map No.pv ns k hlt
  have hi : IntKind.i64.wrap ((k : Int) + 1) = ((k + 1 : Nat) : Int) := by rw [wrap64 (by omega)]; omega
  have hme : numOf (f 11) = k := by rw [f11]; exact Int.toNat_natCast k
  cases Ft with
  | some q =>
    obtain ⟨l0, c0⟩ := q
    have hg : (m.ext [some [.v (.int .i64 0), .v (.int .i64 0)], some (lkQ ns (some (l0, c0)))]).get (m.nb + 1) = some (lkQ ns (some (l0, c0))) := ext_get (i := 1) rfl
    simp only [lkQ] at hg
    have hFF : some (l0, c0) = FE := by
      rcases hF with ⟨h1, _⟩ | ⟨p, h1, h2⟩
      · cases h1
      · rw [h1, h2]
    (repeat (first | refine aSeq fun X hX => ?_ | refine aBlk ?_ | refine aSkip ?_ | (first | refine aExit ?_ | refine aRet ?_); try simp only [slx, ↓reduceIte, Nat.reduceEqDiff, reduceCtorEq] | (first | refine aReg ?_ | refine aIf ?_); simp -implicitDefEqProofs only [forall_eq, ↓slp, slb, ↓reduceIte, reduceCtorEq, jA, jB, jC, jD, jE, jF, jG, jH, jI, jJ, jK, tfNdQ, f1, f3, f4, f11, pI, c1, hg, k6, lkQ]; try simp only [Ex.fold, Ex.foldcs, ← Va.pv.eq_1] | refine hX _ _ ?_; clear hX X | clear hX X; refine hX _ _ ?_; clear hX X | clear hX X; clear hX X; refine hX _ _ ?_; clear hX X | intro hlen; unfold maxLen at hlen | apply And.intro; focus (first | omega | assumption | (repeat' apply And.intro) <;> first | omega | assumption)))
    exact hend _ f1 f3 f4 hFF
  | none =>
    have hg : (m.ext [some [.v (.int .i64 0), .v (.int .i64 0)], some (lkQ ns none)]).get (m.nb + 1) = some (lkQ ns none) := ext_get (i := 1) rfl
    simp only [lkQ, lkR] at hg
    have hlf : loopF S ns (ns.drop k) = FE := by
      rcases hF with ⟨_, h⟩ | ⟨p, h1, _⟩
      · exact h
      · cases h1
    rw [List.drop_eq_getElem_cons hlt] at hlf
    have hlf2 : (if hasS (needsD S ns ns[k].name) ns[k].name then some (ns[k].line, ns[k].col) else loopF S ns (ns.drop (k + 1))) = FE := hlf
    unfold needsD at hlf2
    have hnx := hne ns[k].name
    obtain ⟨n, hn⟩ : ∃ n, ns[k] = n := ⟨_, rfl⟩
    rw [hn] at hnx hlf2 g0
    generalize needsN (cfN 0 ns) (2 * S.length + 1) [] [n.name] = R at *
    have hcc := hrh .no R n.name
    (repeat (first | refine aSeq fun X hX => ?_ | refine aBlk ?_ | refine aSkip ?_ | (first | refine aExit ?_ | refine aRet ?_); try simp only [slx, ↓reduceIte, Nat.reduceEqDiff, reduceCtorEq] | (first | refine aReg ?_ | refine aIf ?_); simp -implicitDefEqProofs only [forall_eq, ↓slp, slb, ↓reduceIte, reduceCtorEq, jA, jB, jC, jD, jE, jF, jG, jH, jI, jJ, jK, tfNdQ, f1, f3, f4, f11, pI, c1, hg, k0, lkQ, lkR]; try simp only [Ex.fold, Ex.foldcs, ← Va.pv.eq_1] | refine hX _ _ ?_; clear hX X | clear hX X; refine hX _ _ ?_; clear hX X | clear hX X; clear hX X; refine hX _ _ ?_; clear hX X | intro hlen; unfold maxLen at hlen | apply And.intro; focus (first | omega | assumption | (repeat' apply And.intro) <;> first | omega | assumption)))
    (repeat (first | refine aSeq fun X hX => ?_ | refine aBlk ?_ | refine aSkip ?_ | (first | refine aExit ?_ | refine aRet ?_); try simp only [slx, ↓reduceIte, Nat.reduceEqDiff, reduceCtorEq] | (first | refine aReg ?_ | refine aDrE ?_ | refine aIf ?_); simp -implicitDefEqProofs only [forall_eq, ↓slp, slb, ↓reduceIte, reduceCtorEq, jA, jB, jC, jD, jE, jF, jG, jH, jI, jJ, jK, tfNdQ, f1, f3, f4, f11, pI, g0]; try simp only [Ex.fold, Ex.foldcs, ← Va.pv.eq_1] | refine hX _ _ ?_; clear hX X | clear hX X; refine hX _ _ ?_; clear hX X | clear hX X; clear hX X; refine hX _ _ ?_; clear hX X | intro hlen; unfold maxLen at hlen | apply And.intro; focus (first | omega | assumption | (repeat' apply And.intro) <;> first | omega | assumption)))
    refine callE (hnx _) ?_
    simp -implicitDefEqProofs only [↓slp, slb, ↓reduceIte, reduceCtorEq, jA, jB, jC, jD, jE, jF, jG, jH, jI, jJ, jK, tfNdQ, f1, f11, pI, g0]; try simp only [Ex.fold, Ex.foldcs, ← Va.pv.eq_1]
    first | refine callE (hcc _) ?_ | refine ⟨hlt, callE (hcc _) ?_⟩
    cases hh : hasS R n.name with
    | true =>
      rw [hh, if_pos rfl] at hlf2
      simp -implicitDefEqProofs only [↓slp, slb, ↓reduceIte, reduceCtorEq, jA, jB, jC, jD, jE, jF, jG, jH, jI, jJ, jK, tfNdQ, pB, hh]; try simp only [Ex.fold, Ex.foldcs, ← Va.pv.eq_1]
      (repeat (first | refine aSeq fun X hX => ?_ | refine aBlk ?_ | refine aSkip ?_ | (first | refine aExit ?_ | refine aRet ?_); try simp only [slx, ↓reduceIte, Nat.reduceEqDiff, reduceCtorEq] | (first | refine aReg ?_ | refine aIf ?_); simp -implicitDefEqProofs only [forall_eq, ↓slp, slb, ↓reduceIte, reduceCtorEq, jA, jB, jC, jD, jE, jF, jG, jH, jI, jJ, jK, tfNdQ, hh, f1, f4, f11, pI, g0]; try simp only [Ex.fold, Ex.foldcs, ← Va.pv.eq_1] | refine hX _ _ ?_; clear hX X | clear hX X; refine hX _ _ ?_; clear hX X | clear hX X; clear hX X; refine hX _ _ ?_; clear hX X | intro hlen; unfold maxLen at hlen | apply And.intro; focus (first | omega | assumption | (repeat' apply And.intro) <;> first | omega | assumption)))
      refine callE (hrf _ _) ?_
      simp -implicitDefEqProofs only [↓slp, slb, ↓reduceIte, reduceCtorEq, jA, jB, jC, jD, jE, jF, jG, jH, jI, jJ, jK, tfNdQ]; try simp only [Ex.fold, Ex.foldcs, ← Va.pv.eq_1]
      (repeat (first | refine aSeq fun X hX => ?_ | refine aBlk ?_ | refine aSkip ?_ | (first | refine aExit ?_ | refine aRet ?_); try simp only [slx, ↓reduceIte, Nat.reduceEqDiff, reduceCtorEq] | (first | refine aReg ?_ | refine aIf ?_); simp -implicitDefEqProofs only [forall_eq, ↓slp, slb, ↓reduceIte, reduceCtorEq, jA, jB, jC, jD, jE, jF, jG, jH, jI, jJ, jK, tfNdQ, f11, pI, hi]; try simp only [Ex.fold, Ex.foldcs, ← Va.pv.eq_1] | refine hX _ _ ?_; clear hX X | clear hX X; refine hX _ _ ?_; clear hX X | clear hX X; clear hX X; refine hX _ _ ?_; clear hX X | intro hlen; unfold maxLen at hlen | apply And.intro; focus (first | omega | assumption | (repeat' apply And.intro) <;> first | omega | assumption)))
      rw [hI4]
      exact ⟨⟨k + 1, some (n.line, n.col), hlt, .inr ⟨_, rfl, hlf2.symm⟩, f1, f3, f4, rfl, rfl⟩, by omega⟩
    | false =>
      rw [hh, if_neg (by simp)] at hlf2
      simp -implicitDefEqProofs only [↓slp, slb, ↓reduceIte, reduceCtorEq, jA, jB, jC, jD, jE, jF, jG, jH, jI, jJ, jK, tfNdQ, pB, hh]; try simp only [Ex.fold, Ex.foldcs, ← Va.pv.eq_1]
      (repeat (first | refine aSeq fun X hX => ?_ | refine aBlk ?_ | refine aSkip ?_ | (first | refine aExit ?_ | refine aRet ?_); try simp only [slx, ↓reduceIte, Nat.reduceEqDiff, reduceCtorEq] | (first | refine aReg ?_ | refine aIf ?_); simp -implicitDefEqProofs only [forall_eq, ↓slp, slb, ↓reduceIte, reduceCtorEq, jA, jB, jC, jD, jE, jF, jG, jH, jI, jJ, jK, tfNdQ, hh, f11, pI, hi]; try simp only [Ex.fold, Ex.foldcs, ← Va.pv.eq_1] | refine hX _ _ ?_; clear hX X | clear hX X; refine hX _ _ ?_; clear hX X | clear hX X; clear hX X; refine hX _ _ ?_; clear hX X | intro hlen; unfold maxLen at hlen | apply And.intro; focus (first | omega | assumption | (repeat' apply And.intro) <;> first | omega | assumption)))
      rw [hI4]
      exact ⟨⟨k + 1, none, hlt, .inl ⟨rfl, hlf2⟩, f1, f3, f4, rfl, rfl⟩, by omega⟩
end Go.Proofs.YteiaedmipkcfeaaDoor
