/-
  names: nodes that only call one another.
-/
import Derived.Test.YteiaedmipkcfeaaDoorNmT
import Derived.Test.YteiaedmipkcfeaaDoorCvP
import Derived.Test.YteiaedmipkcfeaaDoorAbMk8c
set_option linter.unusedVariables false
set_option linter.unusedSimpArgs false
namespace Go.Proofs.YteiaedmipkcfeaaDoor
open Nat renaming reduceEqDiff → jA, reduceAdd → jB, reduceMul → jC, reduceLT → jD, reduceLeDiff → jE, reduceBEq → jF, reduceBNe → jG
open Int renaming reduceLE → jH, reduceLT → jI, reduceToNat → jJ, reduceEq → jK
open Go
-- EXX: Qu.settle_pv, Qu.pure_pv, Qu.cells_pv, Qu.cs, No.settle_pv, No.pure_pv, No.cells_pv, No.cs, No.pv.eq_1
set_option maxRecDepth 20000
-- TNAMES: int; uint8; int32; string; bool; []string; []api.Expr; api.Expr; api.Pos; api.Type; api.On; []api.On; api.Var; []api.Var; [][]api.Var; api.Equation; []api.Equation; api.Block; api.Trans; []api.Trans; api.Arm; []api.Arm; api.Node; []api.Node; api.Enum; []api.Enum; api.Program; names.looker; names.scope; *names.looker; func(names.scope); [][]string; interface {}; error
set_option linter.defProp false
def tfNdA := And.intro @tfA (And.intro @Ex.settle_pv (And.intro @Ex.pure_pv (And.intro @Ex.cells_pv (And.intro @Ex.cs.eq_1 (And.intro @On.pv.eq_1 (And.intro @Ty.pv.eq_1 (And.intro @Va.settle_pv (And.intro @Va.pure_pv (And.intro @Va.cells_pv (And.intro @Va.cs.eq_1 (And.intro @Qu.settle_pv (And.intro @Qu.pure_pv (And.intro @Qu.cells_pv (And.intro @Qu.cs.eq_1 (And.intro @No.settle_pv (And.intro @No.pure_pv (And.intro @No.cells_pv (And.intro @No.cs.eq_1 @No.pv.eq_1))))))))))))))))))

abbrev unit (m : M) : PV → M → Prop := fun v m' => v = .tp [] ∧ m' = m
/-- An equation that calls a node, and defines nothing. -/
structure FlatQ (q : Qu) : Prop where
  kind : q.kind = 2
  lhs : q.lhs = []
  args : q.args = []
  has : q.has = false
  arms : q.arms = []
/-- A node of such equations. -/
def FlatN (n : No) : Prop := n.ins = [] ∧ n.outs = [] ∧ n.b.vars = [] ∧ ∀ q ∈ n.b.eqs, FlatQ q
/-- All that is called is there. -/
def Known (ns : List No) (s : Str) : Prop := ∃ j, j < ns.length ∧ idxF (fun n : No => eqS n.name s) ns 0 = (j : Int)
def lkD (ns : List No) : PV := .ep [.sl .no [], .sl .no (ns.map No.pv)]
def scD : PV := .ag [.sl .no [], .sl .no []]
set_option maxHeartbeats 4000000 in
theorem eqD_any (ns : List No) {q : Qu} (hq : FlatQ q) (hk : Known ns q.name) (m : M) :
    ACalls Tryd.prog 76 [lkD ns, scD, q.pv] m (fun v m' => v = .sl .no [] ∧ m' = m) := by
  obtain ⟨j, hj, hji⟩ := hk
  have hfn := fun m => findNode_any .no [] ns q.name m
  rw [hji] at hfn
  have c1 : (q.kind == 1) = false := by simp [hq.kind]
  have c2 : (q.kind == 2) = true := by simp [hq.kind]
  have dz : decide ((j : Int) < 0) = false := by simp
  have z0 : decide (((0 : Nat) : Int) < 0) = false := rfl
  have z1 : decide ((0 : Int) < ((0 : Nat) : Int)) = false := rfl
  have z2 : decide ((0 : Int) < 0) = false := rfl
  have hl := hq.lhs
  have ha := hq.args
  have hh := hq.has
  unfold lkD scD at *
  refine ACalls.enter (mu := []) ok_mix Tryd.func76 rfl (by kernel_rfl) (by kernel_rfl) (by simp only [List.length_cons, List.length_nil, Tryd.ntmps76]; omega) ?_
  (repeat (first | refine aSeq fun X hX => ?_ | refine aBlk ?_ | refine aSkip ?_ | (first | refine aExit ?_ | refine aRet ?_); try simp only [slx, ↓reduceIte, Nat.reduceEqDiff, reduceCtorEq] | (first | refine aReg ?_ | refine aIf ?_); simp -implicitDefEqProofs only [forall_eq, ↓slp, slb, ↓reduceIte, reduceCtorEq, jA, jB, jC, jD, jE, jF, jG, jH, jI, jJ, jK, tfNdA, c1, c2]; try simp only [Ex.fold, Ex.foldcs, ← Va.pv.eq_1] | refine hX _ _ ?_; clear hX X | clear hX X; refine hX _ _ ?_; clear hX X | clear hX X; clear hX X; refine hX _ _ ?_; clear hX X | intro hlen; unfold maxLen at hlen | apply And.intro; focus (first | omega | assumption | (repeat' apply And.intro) <;> first | omega | assumption)))
  (repeat (first | refine aSeq fun X hX => ?_ | refine aBlk ?_ | refine aSkip ?_ | (first | refine aExit ?_ | refine aRet ?_); try simp only [slx, ↓reduceIte, Nat.reduceEqDiff, reduceCtorEq] | (first | refine aReg ?_ | refine aDrE ?_ | refine aIf ?_); simp -implicitDefEqProofs only [forall_eq, ↓slp, slb, ↓reduceIte, reduceCtorEq, jA, jB, jC, jD, jE, jF, jG, jH, jI, jJ, jK, tfNdA]; try simp only [Ex.fold, Ex.foldcs, ← Va.pv.eq_1] | refine hX _ _ ?_; clear hX X | clear hX X; refine hX _ _ ?_; clear hX X | clear hX X; clear hX X; refine hX _ _ ?_; clear hX X | intro hlen; unfold maxLen at hlen | apply And.intro; focus (first | omega | assumption | (repeat' apply And.intro) <;> first | omega | assumption)))
  refine callE (hfn _) ?_
  simp -implicitDefEqProofs only [↓slp, slb, ↓reduceIte, reduceCtorEq, jA, jB, jC, jD, jE, jF, jG, jH, jI, jJ, jK, tfNdA, pI, dz]; try simp only [Ex.fold, Ex.foldcs, ← Va.pv.eq_1]
  (repeat (first | refine aSeq fun X hX => ?_ | refine aBlk ?_ | refine aSkip ?_ | (first | refine aExit ?_ | refine aRet ?_); try simp only [slx, ↓reduceIte, Nat.reduceEqDiff, reduceCtorEq] | (first | refine aReg ?_ | refine aIf ?_); simp -implicitDefEqProofs only [forall_eq, ↓slp, slb, ↓reduceIte, reduceCtorEq, jA, jB, jC, jD, jE, jF, jG, jH, jI, jJ, jK, tfNdA, dz, ha, hl, List.map_nil, List.length_nil]; try simp only [Ex.fold, Ex.foldcs, ← Va.pv.eq_1] | refine hX _ _ ?_; clear hX X | clear hX X; refine hX _ _ ?_; clear hX X | clear hX X; clear hX X; refine hX _ _ ?_; clear hX X | intro hlen; unfold maxLen at hlen | apply And.intro; focus (first | omega | assumption | (repeat' apply And.intro) <;> first | omega | assumption)))
  obtain ⟨I, hI⟩ : ∃ I : F → M → Prop, ∀ f m', I f m' = (f 5 = .ep q.cs ∧ f 36 = pI 0 ∧ f 37 = pI 0 ∧ m = m') := ⟨_, fun _ _ => rfl⟩
  refine aLoop I (fun f m => 0) ?_ ?_
  · rw [hI]; exact ⟨by rw [Qu.cs, hl, ha]; rfl, rfl, rfl, rfl⟩
  intro f m' hrel
  rw [hI] at hrel
  obtain ⟨f5, f36, f37, rfl⟩ := hrel
  (repeat (first | refine aSeq fun X hX => ?_ | refine aBlk ?_ | refine aSkip ?_ | (first | refine aExit ?_ | refine aRet ?_); try simp only [slx, ↓reduceIte, Nat.reduceEqDiff, reduceCtorEq] | (first | refine aReg ?_ | refine aIf ?_); simp -implicitDefEqProofs only [forall_eq, ↓slp, slb, ↓reduceIte, reduceCtorEq, jA, jB, jC, jD, jE, jF, jG, jH, jI, jJ, jK, tfNdA, f5, f36, f37, pI, z0, z1, z2, hh, hl]; try simp only [Ex.fold, Ex.foldcs, ← Va.pv.eq_1] | refine hX _ _ ?_; clear hX X | clear hX X; refine hX _ _ ?_; clear hX X | clear hX X; clear hX X; refine hX _ _ ?_; clear hX X | intro hlen; unfold maxLen at hlen | apply And.intro; focus (first | omega | assumption | (repeat' apply And.intro) <;> first | omega | assumption)))
  simp only [aPost, Tryd.results76, aRes_n, aRes_t, aRes_c, pack_one, pack_two]
  simp -implicitDefEqProofs only [↓slp, slb, ↓reduceIte, reduceCtorEq, jA, jB, jC, jD, jE, jF, jG, jH, jI, jJ, jK, tfNdA, hl, List.map_nil]; try simp only [Ex.fold, Ex.foldcs, ← Va.pv.eq_1]
  exact leave_same rfl ⟨rfl, rfl⟩
set_option maxHeartbeats 8000000 in
theorem blockD_any (ns : List No) (Q : List Qu) (hQ : ∀ q ∈ Q, FlatQ q ∧ Known ns q.name) (m : M) :
    ACalls Tryd.prog 47 [lkD ns, scD, .ag [.sl .no [], .sl .no (Q.map Qu.pv)], .v .nilFunc] m (fun v m' => v = .sl .no [] ∧ m' = m) := by
  have hq := fun (k : Nat) (h : k < Q.length) m => eqD_any ns (hQ Q[k] (List.getElem_mem h)).1 (hQ Q[k] (List.getElem_mem h)).2 m
  have z0 : decide (((0 : Nat) : Int) < 0) = false := rfl
  have z1 : decide ((0 : Int) < ((0 : Nat) : Int)) = false := rfl
  have z2 : decide ((0 : Int) < 0) = false := rfl
  have hnf : ofV Value.nilFunc = .v .nilFunc := rfl
  unfold lkD scD at *
  refine ACalls.enter (mu := []) ok_mix Tryd.func47 rfl (by kernel_rfl) (by kernel_rfl) (by simp only [List.length_cons, List.length_nil, Tryd.ntmps47]; omega) ?_
  (repeat (first | refine aSeq fun X hX => ?_ | refine aBlk ?_ | refine aSkip ?_ | (first | refine aExit ?_ | refine aRet ?_); try simp only [slx, ↓reduceIte, Nat.reduceEqDiff, reduceCtorEq] | (first | refine aReg ?_ | refine aIf ?_); simp -implicitDefEqProofs only [forall_eq, ↓slp, slb, ↓reduceIte, reduceCtorEq, jA, jB, jC, jD, jE, jF, jG, jH, jI, jJ, jK, tfNdA]; try simp only [Ex.fold, Ex.foldcs, ← Va.pv.eq_1] | refine hX _ _ ?_; clear hX X | clear hX X; refine hX _ _ ?_; clear hX X | clear hX X; clear hX X; refine hX _ _ ?_; clear hX X | intro hlen; unfold maxLen at hlen | apply And.intro; focus (first | omega | assumption | (repeat' apply And.intro) <;> first | omega | assumption)))
  obtain ⟨I1, hI1⟩ : ∃ I1 : F → M → Prop, ∀ f m', I1 f m' = (f 0 = .ep [.sl .no [], .sl .no (ns.map No.pv)] ∧ f 3 = .v .nilFunc ∧ f 5 = .ep [.sl .no [], .sl .no []] ∧ f 6 = .ep [.sl .no [], .sl .no (Q.map Qu.pv)] ∧ f 27 = pI 0 ∧ f 28 = pI 0 ∧ m = m') := ⟨_, fun _ _ => rfl⟩
  refine aLoop I1 (fun f m => 0) ?_ ?_
  · rw [hI1]; exact ⟨rfl, rfl, rfl, rfl, rfl, rfl, rfl⟩
  intro f m' hrel
  rw [hI1] at hrel
  obtain ⟨f0, f3, f5, f6, g1, g2, rfl⟩ := hrel
  (repeat (first | refine aSeq fun X hX => ?_ | refine aBlk ?_ | refine aSkip ?_ | (first | refine aExit ?_ | refine aRet ?_); try simp only [slx, ↓reduceIte, Nat.reduceEqDiff, reduceCtorEq] | (first | refine aReg ?_ | refine aIf ?_); simp -implicitDefEqProofs only [forall_eq, ↓slp, slb, ↓reduceIte, reduceCtorEq, jA, jB, jC, jD, jE, jF, jG, jH, jI, jJ, jK, tfNdA, f0, f3, f5, f6, g1, g2, pI, z0, z1, z2, hnf]; try simp only [Ex.fold, Ex.foldcs, ← Va.pv.eq_1] | refine hX _ _ ?_; clear hX X | clear hX X; refine hX _ _ ?_; clear hX X | clear hX X; clear hX X; refine hX _ _ ?_; clear hX X | intro hlen; unfold maxLen at hlen | apply And.intro; focus (first | omega | assumption | (repeat' apply And.intro) <;> first | omega | assumption)))
  obtain ⟨I2, hI2⟩ : ∃ I2 : F → M → Prop, ∀ f m', I2 f m' = (f 0 = .ep [.sl .no [], .sl .no (ns.map No.pv)] ∧ f 3 = .v .nilFunc ∧ f 5 = .ep [.sl .no [], .sl .no []] ∧ f 6 = .ep [.sl .no [], .sl .no (Q.map Qu.pv)] ∧ f 47 = pI 0 ∧ f 48 = pI 0 ∧ m = m') := ⟨_, fun _ _ => rfl⟩
  refine aLoop I2 (fun f m => 0) ?_ ?_
  · rw [hI2]; exact ⟨f0, f3, f5, f6, rfl, rfl, rfl⟩
  clear f0 f3 f5 f6
  intro f m' hrel
  rw [hI2] at hrel
  obtain ⟨f0, f3, f5, f6, g1, g2, rfl⟩ := hrel
  (repeat (first | refine aSeq fun X hX => ?_ | refine aBlk ?_ | refine aSkip ?_ | (first | refine aExit ?_ | refine aRet ?_); try simp only [slx, ↓reduceIte, Nat.reduceEqDiff, reduceCtorEq] | (first | refine aReg ?_ | refine aIf ?_); simp -implicitDefEqProofs only [forall_eq, ↓slp, slb, ↓reduceIte, reduceCtorEq, jA, jB, jC, jD, jE, jF, jG, jH, jI, jJ, jK, tfNdA, f0, f3, f5, f6, g1, g2, pI, z0, z1, z2, hnf]; try simp only [Ex.fold, Ex.foldcs, ← Va.pv.eq_1] | refine hX _ _ ?_; clear hX X | clear hX X; refine hX _ _ ?_; clear hX X | clear hX X; clear hX X; refine hX _ _ ?_; clear hX X | intro hlen; unfold maxLen at hlen | apply And.intro; focus (first | omega | assumption | (repeat' apply And.intro) <;> first | omega | assumption)))
  obtain ⟨K, hK⟩ : ∃ K : F → M → Prop, ∀ f m', K f m' = (∃ k : Nat, k ≤ Q.length ∧ f 0 = .ep [.sl .no [], .sl .no (ns.map No.pv)] ∧ f 3 = .v .nilFunc ∧ f 5 = .ep [.sl .no [], .sl .no []] ∧ f 6 = .ep [.sl .no [], .sl .no (Q.map Qu.pv)] ∧ f 15 = .sl .full [] ∧ f 78 = .sl .no (Q.map Qu.pv) ∧ f 79 = pI Q.length ∧ f 80 = pI k ∧ m = m') := ⟨_, fun _ _ => rfl⟩
  refine aLoop K (fun f m => Q.length - numOf (f 80)) ?_ ?_
  · rw [hK]; exact ⟨0, by omega, f0, f3, f5, f6, rfl, rfl, rfl, rfl, rfl⟩
  clear f0 f3 f5 f6
  intro f m' hrel
  rw [hK] at hrel
  obtain ⟨k, hk, f0, f3, f5, f6, f15, f78, f79, f80, rfl⟩ := hrel
  cases c1 : decide ((k : Int) < (Q.length : Int)) with
  | true =>
    have hlt : k < Q.length := by simpa using c1
    have g0 := getD_map Qu.pv Q k hlt
    have hi : IntKind.i64.wrap ((k : Int) + 1) = ((k + 1 : Nat) : Int) := by rw [wrap64 (by omega)]; omega
    have hme : numOf (f 80) = k := by rw [f80]; exact Int.toNat_natCast k
    have hqk := hq k hlt
    generalize Q[k] = q at *
    rw [Qu.pv_eq] at hqk
    (repeat (first | refine aSeq fun X hX => ?_ | refine aBlk ?_ | refine aSkip ?_ | (first | refine aExit ?_ | refine aRet ?_); try simp only [slx, ↓reduceIte, Nat.reduceEqDiff, reduceCtorEq] | (first | refine aReg ?_ | refine aIf ?_); simp -implicitDefEqProofs only [forall_eq, ↓slp, slb, ↓reduceIte, reduceCtorEq, jA, jB, jC, jD, jE, jF, jG, jH, jI, jJ, jK, tfNdA, f0, f3, f5, f6, f15, f78, f79, f80, pI, c1, g0]; try simp only [Ex.fold, Ex.foldcs, ← Va.pv.eq_1] | refine hX _ _ ?_; clear hX X | clear hX X; refine hX _ _ ?_; clear hX X | clear hX X; clear hX X; refine hX _ _ ?_; clear hX X | intro hlen; unfold maxLen at hlen | apply And.intro; focus (first | omega | assumption | (repeat' apply And.intro) <;> first | omega | assumption)))
    refine callE (hqk _) ?_
    simp -implicitDefEqProofs only [↓slp, slb, ↓reduceIte, reduceCtorEq, jA, jB, jC, jD, jE, jF, jG, jH, jI, jJ, jK, tfNdA]; try simp only [Ex.fold, Ex.foldcs, ← Va.pv.eq_1]
    (repeat (first | refine aSeq fun X hX => ?_ | refine aBlk ?_ | refine aSkip ?_ | (first | refine aExit ?_ | refine aRet ?_); try simp only [slx, ↓reduceIte, Nat.reduceEqDiff, reduceCtorEq] | (first | refine aReg ?_ | refine aIf ?_); simp -implicitDefEqProofs only [forall_eq, ↓slp, slb, ↓reduceIte, reduceCtorEq, jA, jB, jC, jD, jE, jF, jG, jH, jI, jJ, jK, tfNdA]; try simp only [Ex.fold, Ex.foldcs, ← Va.pv.eq_1] | refine hX _ _ ?_; clear hX X | clear hX X; refine hX _ _ ?_; clear hX X | clear hX X; clear hX X; refine hX _ _ ?_; clear hX X | intro hlen; unfold maxLen at hlen | apply And.intro; focus (first | omega | assumption | (repeat' apply And.intro) <;> first | omega | assumption)))
    obtain ⟨J, hJ⟩ : ∃ J : F → M → Prop, ∀ f m', J f m' = (f 0 = .ep [.sl .no [], .sl .no (ns.map No.pv)] ∧ f 3 = .v .nilFunc ∧ f 5 = .ep [.sl .no [], .sl .no []] ∧ f 6 = .ep [.sl .no [], .sl .no (Q.map Qu.pv)] ∧ f 15 = .sl .full [] ∧ f 78 = .sl .no (Q.map Qu.pv) ∧ f 79 = pI Q.length ∧ f 80 = pI k ∧ f 88 = pI 0 ∧ f 89 = pI 0 ∧ m = m') := ⟨_, fun _ _ => rfl⟩
    refine aLoop J (fun f m => 0) ?_ ?_
    · rw [hJ]; exact ⟨f0, f3, f5, f6, f15, f78, f79, f80, rfl, rfl, rfl⟩
    clear f0 f3 f5 f6 f15 f78 f79 f80
    intro f m' hrel
    rw [hJ] at hrel
    obtain ⟨f0, f3, f5, f6, f15, f78, f79, f80, g1, g2, rfl⟩ := hrel
    (repeat (first | refine aSeq fun X hX => ?_ | refine aBlk ?_ | refine aSkip ?_ | (first | refine aExit ?_ | refine aRet ?_); try simp only [slx, ↓reduceIte, Nat.reduceEqDiff, reduceCtorEq] | (first | refine aReg ?_ | refine aIf ?_); simp -implicitDefEqProofs only [forall_eq, ↓slp, slb, ↓reduceIte, reduceCtorEq, jA, jB, jC, jD, jE, jF, jG, jH, jI, jJ, jK, tfNdA, f80, g1, g2, pI, hi, z0, z1, z2]; try simp only [Ex.fold, Ex.foldcs, ← Va.pv.eq_1] | refine hX _ _ ?_; clear hX X | clear hX X; refine hX _ _ ?_; clear hX X | clear hX X; clear hX X; refine hX _ _ ?_; clear hX X | intro hlen; unfold maxLen at hlen | apply And.intro; focus (first | omega | assumption | (repeat' apply And.intro) <;> first | omega | assumption)))
    rw [hK]
    exact ⟨⟨k + 1, hlt, f0, f3, f5, f6, f15, f78, f79, rfl, rfl⟩, by omega⟩
  | false =>
  (repeat (first | refine aSeq fun X hX => ?_ | refine aBlk ?_ | refine aSkip ?_ | (first | refine aExit ?_ | refine aRet ?_); try simp only [slx, ↓reduceIte, Nat.reduceEqDiff, reduceCtorEq] | (first | refine aReg ?_ | refine aIf ?_); simp -implicitDefEqProofs only [forall_eq, ↓slp, slb, ↓reduceIte, reduceCtorEq, jA, jB, jC, jD, jE, jF, jG, jH, jI, jJ, jK, tfNdA, f0, f3, f5, f6, f15, f78, f79, f80, pI, c1, hnf]; try simp only [Ex.fold, Ex.foldcs, ← Va.pv.eq_1] | refine hX _ _ ?_; clear hX X | clear hX X; refine hX _ _ ?_; clear hX X | clear hX X; clear hX X; refine hX _ _ ?_; clear hX X | intro hlen; unfold maxLen at hlen | apply And.intro; focus (first | omega | assumption | (repeat' apply And.intro) <;> first | omega | assumption)))
  obtain ⟨I4, hI4⟩ : ∃ I4 : F → M → Prop, ∀ f m', I4 f m' = (f 6 = .ep [.sl .no [], .sl .no (Q.map Qu.pv)] ∧ f 15 = .sl .full [] ∧ f 20 = .sl .full [] ∧ f 132 = pI 0 ∧ f 133 = pI 0 ∧ m = m') := ⟨_, fun _ _ => rfl⟩
  refine aLoop I4 (fun f m => 0) ?_ ?_
  · rw [hI4]; exact ⟨f6, f15, rfl, rfl, rfl, rfl⟩
  clear f0 f3 f5 f78 f79 f80
  intro f m' hrel
  rw [hI4] at hrel
  obtain ⟨f6, f15, f20, g1, g2, rfl⟩ := hrel
  (repeat (first | refine aSeq fun X hX => ?_ | refine aBlk ?_ | refine aSkip ?_ | (first | refine aExit ?_ | refine aRet ?_); try simp only [slx, ↓reduceIte, Nat.reduceEqDiff, reduceCtorEq] | (first | refine aReg ?_ | refine aIf ?_); simp -implicitDefEqProofs only [forall_eq, ↓slp, slb, ↓reduceIte, reduceCtorEq, jA, jB, jC, jD, jE, jF, jG, jH, jI, jJ, jK, tfNdA, f6, f15, f20, g1, g2, pI, z0, z1, z2, hnf]; try simp only [Ex.fold, Ex.foldcs, ← Va.pv.eq_1] | refine hX _ _ ?_; clear hX X | clear hX X; refine hX _ _ ?_; clear hX X | clear hX X; clear hX X; refine hX _ _ ?_; clear hX X | intro hlen; unfold maxLen at hlen | apply And.intro; focus (first | omega | assumption | (repeat' apply And.intro) <;> first | omega | assumption)))
  obtain ⟨I5, hI5⟩ : ∃ I5 : F → M → Prop, ∀ f m', I5 f m' = (f 6 = .ep [.sl .no [], .sl .no (Q.map Qu.pv)] ∧ f 20 = .sl .full [] ∧ f 149 = pI 0 ∧ f 150 = pI 0 ∧ m = m') := ⟨_, fun _ _ => rfl⟩
  refine aLoop I5 (fun f m => 0) ?_ ?_
  · rw [hI5]; exact ⟨f6, f20, rfl, rfl, rfl⟩
  clear f6 f15 f20
  intro f m' hrel
  rw [hI5] at hrel
  obtain ⟨f6, f20, g1, g2, rfl⟩ := hrel
  (repeat (first | refine aSeq fun X hX => ?_ | refine aBlk ?_ | refine aSkip ?_ | (first | refine aExit ?_ | refine aRet ?_); try simp only [slx, ↓reduceIte, Nat.reduceEqDiff, reduceCtorEq] | (first | refine aReg ?_ | refine aIf ?_); simp -implicitDefEqProofs only [forall_eq, ↓slp, slb, ↓reduceIte, reduceCtorEq, jA, jB, jC, jD, jE, jF, jG, jH, jI, jJ, jK, tfNdA, f6, f20, g1, g2, pI, z0, z1, z2, hnf]; try simp only [Ex.fold, Ex.foldcs, ← Va.pv.eq_1] | refine hX _ _ ?_; clear hX X | clear hX X; refine hX _ _ ?_; clear hX X | clear hX X; clear hX X; refine hX _ _ ?_; clear hX X | intro hlen; unfold maxLen at hlen | apply And.intro; focus (first | omega | assumption | (repeat' apply And.intro) <;> first | omega | assumption)))
  simp only [aPost, Tryd.results47, aRes_n, aRes_t, aRes_c, pack_one, pack_two]
  exact leave_same rfl ⟨rfl, rfl⟩
set_option maxHeartbeats 8000000 in
theorem nodeD_any (ns : List No) (n : No) (hn : FlatN n) (hK : ∀ q ∈ n.b.eqs, Known ns q.name) (m : M) : ACalls Tryd.prog 25 [lkD ns, n.pv] m (unit m) := by
  obtain ⟨h1, h2, h3, h4⟩ := hn
  have hb := fun m => blockD_any ns n.b.eqs (fun q hq => ⟨h4 q hq, hK q hq⟩) m
  have hcc := fun o m1 => concatV_any o [[], []] m1 (by simp)
  have hLf : [([] : List Va), []].flatten = [] := rfl
  rw [hLf] at hcc
  simp only [pLV, List.map_cons, List.map_nil] at hcc
  have z0 : decide (((0 : Nat) : Int) < 0) = false := rfl
  have z1 : decide ((0 : Int) < ((0 : Nat) : Int)) = false := rfl
  have z2 : decide ((0 : Int) < 0) = false := rfl
  have hnf : ofV Value.nilFunc = .v .nilFunc := rfl
  unfold lkD scD at *
  refine ACalls.enter (mu := []) ok_mix Tryd.func25 rfl (by kernel_rfl) (by kernel_rfl) (by simp only [List.length_cons, List.length_nil, Tryd.ntmps25]; omega) ?_
  (repeat (first | refine aSeq fun X hX => ?_ | refine aBlk ?_ | refine aSkip ?_ | (first | refine aExit ?_ | refine aRet ?_); try simp only [slx, ↓reduceIte, Nat.reduceEqDiff, reduceCtorEq] | (first | refine aReg ?_ | refine aIf ?_); simp -implicitDefEqProofs only [forall_eq, ↓slp, slb, ↓reduceIte, reduceCtorEq, jA, jB, jC, jD, jE, jF, jG, jH, jI, jJ, jK, tfNdA, h1, h2, h3, List.map_nil]; try simp only [Ex.fold, Ex.foldcs, ← Va.pv.eq_1] | refine hX _ _ ?_; clear hX X | clear hX X; refine hX _ _ ?_; clear hX X | clear hX X; clear hX X; refine hX _ _ ?_; clear hX X | intro hlen; unfold maxLen at hlen | apply And.intro; focus (first | omega | assumption | (repeat' apply And.intro) <;> first | omega | assumption)))
  refine callE (hcc _ _) ?_
  simp -implicitDefEqProofs only [↓slp, slb, ↓reduceIte, reduceCtorEq, jA, jB, jC, jD, jE, jF, jG, jH, jI, jJ, jK, tfNdA]; try simp only [Ex.fold, Ex.foldcs, ← Va.pv.eq_1]
  (repeat (first | refine aSeq fun X hX => ?_ | refine aBlk ?_ | refine aSkip ?_ | (first | refine aExit ?_ | refine aRet ?_); try simp only [slx, ↓reduceIte, Nat.reduceEqDiff, reduceCtorEq] | (first | refine aReg ?_ | refine aIf ?_); simp -implicitDefEqProofs only [forall_eq, ↓slp, slb, ↓reduceIte, reduceCtorEq, jA, jB, jC, jD, jE, jF, jG, jH, jI, jJ, jK, tfNdA]; try simp only [Ex.fold, Ex.foldcs, ← Va.pv.eq_1] | refine hX _ _ ?_; clear hX X | clear hX X; refine hX _ _ ?_; clear hX X | clear hX X; clear hX X; refine hX _ _ ?_; clear hX X | intro hlen; unfold maxLen at hlen | apply And.intro; focus (first | omega | assumption | (repeat' apply And.intro) <;> first | omega | assumption)))
  obtain ⟨I1, hI1⟩ : ∃ I1 : F → M → Prop, ∀ f m', I1 f m' = (f 0 = .ep [.sl .no [], .sl .no (ns.map No.pv)] ∧ f 3 = .ep n.cs ∧ f 4 = .ep [.sl .no [], .sl .no []] ∧ f 19 = pI 0 ∧ f 20 = pI 0 ∧ m = m') := ⟨_, fun _ _ => rfl⟩
  refine aLoop I1 (fun f m => 0) ?_ ?_
  · rw [hI1]; exact ⟨rfl, by rw [No.cs, h1, h2, h3]; rfl, rfl, rfl, rfl, rfl⟩
  intro f m' hrel
  rw [hI1] at hrel
  obtain ⟨f0, f3, f4, g1, g2, rfl⟩ := hrel
  (repeat (first | refine aSeq fun X hX => ?_ | refine aBlk ?_ | refine aSkip ?_ | (first | refine aExit ?_ | refine aRet ?_); try simp only [slx, ↓reduceIte, Nat.reduceEqDiff, reduceCtorEq] | (first | refine aReg ?_ | refine aIf ?_); simp -implicitDefEqProofs only [forall_eq, ↓slp, slb, ↓reduceIte, reduceCtorEq, jA, jB, jC, jD, jE, jF, jG, jH, jI, jJ, jK, tfNdA, f0, f3, f4, g1, g2, pI, z0, z1, z2, hnf, h1, h2, h3, List.map_nil, List.length_nil]; try simp only [Ex.fold, Ex.foldcs, ← Va.pv.eq_1] | refine hX _ _ ?_; clear hX X | clear hX X; refine hX _ _ ?_; clear hX X | clear hX X; clear hX X; refine hX _ _ ?_; clear hX X | intro hlen; unfold maxLen at hlen | apply And.intro; focus (first | omega | assumption | (repeat' apply And.intro) <;> first | omega | assumption)))
  obtain ⟨I2, hI2⟩ : ∃ I2 : F → M → Prop, ∀ f m', I2 f m' = (f 0 = .ep [.sl .no [], .sl .no (ns.map No.pv)] ∧ f 3 = .ep n.cs ∧ f 4 = .ep [.sl .no [], .sl .no []] ∧ f 31 = pI 0 ∧ f 32 = pI 0 ∧ m = m') := ⟨_, fun _ _ => rfl⟩
  refine aLoop I2 (fun f m => 0) ?_ ?_
  · rw [hI2]; exact ⟨f0, by rw [No.cs, h1, h2, h3] at f3 ⊢; exact f3, f4, rfl, rfl, rfl⟩
  clear f0 f4
  intro f m' hrel
  rw [hI2] at hrel
  obtain ⟨f0, f3, f4, g1, g2, rfl⟩ := hrel
  (repeat (first | refine aSeq fun X hX => ?_ | refine aBlk ?_ | refine aSkip ?_ | (first | refine aExit ?_ | refine aRet ?_); try simp only [slx, ↓reduceIte, Nat.reduceEqDiff, reduceCtorEq] | (first | refine aReg ?_ | refine aIf ?_); simp -implicitDefEqProofs only [forall_eq, ↓slp, slb, ↓reduceIte, reduceCtorEq, jA, jB, jC, jD, jE, jF, jG, jH, jI, jJ, jK, tfNdA, f0, f3, f4, g1, g2, pI, z0, z1, z2, hnf, h1, h2, h3, List.map_nil, List.length_nil]; try simp only [Ex.fold, Ex.foldcs, ← Va.pv.eq_1] | refine hX _ _ ?_; clear hX X | clear hX X; refine hX _ _ ?_; clear hX X | clear hX X; clear hX X; refine hX _ _ ?_; clear hX X | intro hlen; unfold maxLen at hlen | apply And.intro; focus (first | omega | assumption | (repeat' apply And.intro) <;> first | omega | assumption)))
  refine callMS (hb _) (by simp only [List.map_cons, List.map_nil, PV.settle, PV.settles, hnf]) ?_
  rintro v mv ⟨rfl, hmv⟩
  have hms := hmv.symm
  subst hms
  simp -implicitDefEqProofs only [↓slp, slb, ↓reduceIte, reduceCtorEq, jA, jB, jC, jD, jE, jF, jG, jH, jI, jJ, jK, tfNdA]; try simp only [Ex.fold, Ex.foldcs, ← Va.pv.eq_1]
  (repeat (first | refine aSeq fun X hX => ?_ | refine aBlk ?_ | refine aSkip ?_ | (first | refine aExit ?_ | refine aRet ?_); try simp only [slx, ↓reduceIte, Nat.reduceEqDiff, reduceCtorEq] | (first | refine aReg ?_ | refine aIf ?_); simp -implicitDefEqProofs only [forall_eq, ↓slp, slb, ↓reduceIte, reduceCtorEq, jA, jB, jC, jD, jE, jF, jG, jH, jI, jJ, jK, tfNdA, f3, h1, h2, h3, List.map_nil, List.length_nil]; try simp only [Ex.fold, Ex.foldcs, ← Va.pv.eq_1] | refine hX _ _ ?_; clear hX X | clear hX X; refine hX _ _ ?_; clear hX X | clear hX X; clear hX X; refine hX _ _ ?_; clear hX X | intro hlen; unfold maxLen at hlen | apply And.intro; focus (first | omega | assumption | (repeat' apply And.intro) <;> first | omega | assumption)))
  obtain ⟨I3, hI3⟩ : ∃ I3 : F → M → Prop, ∀ f m', I3 f m' = (f 3 = .ep n.cs ∧ f 51 = pI 0 ∧ f 52 = pI 0 ∧ m = m') := ⟨_, fun _ _ => rfl⟩
  refine aLoop I3 (fun f m => 0) ?_ ?_
  · rw [hI3]; exact ⟨f3, rfl, rfl, rfl⟩
  clear f0 f4
  intro f m' hrel
  rw [hI3] at hrel
  obtain ⟨f3, g1, g2, rfl⟩ := hrel
  (repeat (first | refine aSeq fun X hX => ?_ | refine aBlk ?_ | refine aSkip ?_ | (first | refine aExit ?_ | refine aRet ?_); try simp only [slx, ↓reduceIte, Nat.reduceEqDiff, reduceCtorEq] | (first | refine aReg ?_ | refine aIf ?_); simp -implicitDefEqProofs only [forall_eq, ↓slp, slb, ↓reduceIte, reduceCtorEq, jA, jB, jC, jD, jE, jF, jG, jH, jI, jJ, jK, tfNdA, f3, g1, g2, pI, z0, z1, z2, hnf, h1, h2, h3, List.map_nil, List.length_nil]; try simp only [Ex.fold, Ex.foldcs, ← Va.pv.eq_1] | refine hX _ _ ?_; clear hX X | clear hX X; refine hX _ _ ?_; clear hX X | clear hX X; clear hX X; refine hX _ _ ?_; clear hX X | intro hlen; unfold maxLen at hlen | apply And.intro; focus (first | omega | assumption | (repeat' apply And.intro) <;> first | omega | assumption)))
  simp only [aPost, Tryd.results25, aRes_n, aRes_t, aRes_c, pack_one, pack_two]
  exact leave_same rfl ⟨rfl, rfl⟩
end Go.Proofs.YteiaedmipkcfeaaDoor
