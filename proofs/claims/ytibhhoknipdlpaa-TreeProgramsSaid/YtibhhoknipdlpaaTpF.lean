/-
 How great a block is, and how deep: the reference's Kids and Measure.
-/
-- halved
import Derived.Test.YtibhhoknipdlpaaCE
set_option linter.unusedVariables false
set_option linter.unusedSimpArgs false
namespace Go.Proofs.Ytibhhoknipdlpaa
open Nat renaming reduceEqDiff → jA, reduceAdd → jB, reduceMul → jC, reduceLT → jD, reduceLeDiff → jE, reduceBEq → jF, reduceBNe → jG
open Int renaming reduceLE → jH, reduceLT → jI, reduceToNat → jJ, reduceEq → jK
open Go
-- EXX: Qu.settle_pv, Qu.pure_pv, Qu.cells_pv, Qu.cs, Am.settle_pv, Am.pure_pv, Am.cells_pv, Am.cs, Tr.settle_pv, Tr.pure_pv, Tr.cells_pv, Tr.cs
set_option maxRecDepth 20000
-- TNAMES: int; uint8; int32; string; bool; []string; []api.Expr; api.Expr; api.Pos; api.Type; api.On; []api.On; api.Var; []api.Var; api.Equation; []api.Equation; api.Block; api.Trans; []api.Trans; api.Arm; []api.Arm
set_option linter.defProp false
def Yk := And.intro @slb (And.intro @tfA (And.intro @Ex.settle_pv (And.intro @Ex.pure_pv (And.intro @Ex.cells_pv (And.intro @Ex.cs.eq_1 (And.intro @On.pv.eq_1 (And.intro @Ty.pv.eq_1 (And.intro @Va.settle_pv (And.intro @Va.pure_pv (And.intro @Va.cells_pv (And.intro @Va.cs.eq_1 (And.intro @Qu.settle_pv (And.intro @Qu.pure_pv (And.intro @Qu.cells_pv (And.intro @Qu.cs.eq_1 (And.intro @Am.settle_pv (And.intro @Am.pure_pv (And.intro @Am.cells_pv (And.intro @Am.cs.eq_1 (And.intro @Tr.settle_pv (And.intro @Tr.pure_pv (And.intro @Tr.cells_pv @Tr.cs.eq_1))))))))))))))))))))))

def kidsL (q : Qu) : List Ex := if exHas q then q.args ++ [q.e] else q.args
theorem kidsL_fold (st : Int → Ex → Int) (q : Qu) (n : Int) : (kidsL q).foldl st n = eachF st q n := by
 unfold kidsL eachF
 cases exHas q
 ·rw [if_neg Bool.false_ne_true, if_neg Bool.false_ne_true]
 ·rw [if_pos rfl, if_pos rfl, List.foldl_append]; rfl
theorem exs_len (l : List Ex) : ∀ x ∈ l.map Ex.pv, x.cells.length = 8 := fun x hx => by
 obtain ⟨a, _, rfl⟩ := List.mem_map.1 hx
 rw [Ex.cells_pv]; rfl
set_option maxHeartbeats 2000000 in
theorem rKids_any (q : Qu) (hl : q.args.length < 2 ^ 30) (m : M) : ACalls Try.prog 55 [q.pv] m (fun v m' => v = .sl .no ((kidsL q).map Ex.pv) ∧ m' = m) := by
 have e1 := exs_len q.args
 have q1 : q.args.length + 1 ≤ maxLen := by unfold maxLen; omega
 have q2 : q.args.length ≤ maxLen := by unfold maxLen; omega
 have hal : (m.fresh 8).alive m.nt 8 := (Mine.new (o := .full) (Toks.refl m) 8).free
 have t1 := (Toks.refl m).use (o := .full) (s := 8) (s' := 8) Mine.full
 have t2 := t1.use (s := 8) (Mine.new (o := .full) (Toks.refl m) 8)
 refine ACalls.enter (mu := []) ok_mix Try.func55 rfl (by kernel_rfl) (by kernel_rfl) (by simp only [List.length_cons, List.length_nil, Try.ntmps55]; omega) ?_
 cases c0 : exHas q with
 | true =>
  have hk : kidsL q = q.args ++ [q.e] := by unfold kidsL; rw [if_pos c0]
  have c1 := c0
  unfold exHas at c1
  cases c2 : (q.kind == 2) <;> cases c3 : (q.kind == 4) <;> cases c4 : q.has <;> simp only [bne, Bool.not_true, Bool.not_false, c2, c3, c4, Bool.and_true, Bool.and_false, Bool.true_and, Bool.false_and, Bool.or_true, Bool.or_false, reduceCtorEq] at c1
  all_goals
   (repeat (first | refine aSeq fun X hX => ?_ | refine aReg ?_; simp -implicitDefEqProofs only [forall_eq, ↓slp, ↓reduceIte, reduceCtorEq, jA, jB, jC, jE, Yk, c2, c3, c4] | apply hX; clear hX X | apply And.intro; focus ((repeat' apply And.intro) <;> first | omega | assumption)))
   try (refine aIf ?_; simp -implicitDefEqProofs only [↓slp, slb, ↓reduceIte, reduceCtorEq, jA, jB, jE])
   (repeat (first | refine aSeq fun X hX => ?_ | refine aRet ?_ | refine aReg ?_; simp -implicitDefEqProofs only [forall_eq, ↓slp, ↓reduceIte, reduceCtorEq, jA, jB, jC, jE, Yk, c4]; try simp only [fo] | apply hX; clear hX X | apply And.intro; focus ((repeat' apply And.intro) <;> first | omega | assumption)))
   simp only [aPost, Try.results55, aRes_n, aRes_t, aRes_c, pack_one, pack_two]
   exact leave_toks0 t2 rfl ⟨by rw [hk, List.map_append]; rfl, rfl⟩
 | false =>
  have hk : kidsL q = q.args := by unfold kidsL; rw [if_neg (by rw [c0]; exact Bool.false_ne_true)]
  have c1 := c0
  unfold exHas at c1
  cases c2 : (q.kind == 2) <;> cases c3 : (q.kind == 4) <;> cases c4 : q.has <;> simp only [bne, Bool.not_true, Bool.not_false, c2, c3, c4, Bool.and_true, Bool.and_false, Bool.true_and, Bool.false_and, Bool.or_true, Bool.or_false, reduceCtorEq] at c1
  all_goals
   (repeat (first | refine aSeq fun X hX => ?_ | refine aReg ?_; simp -implicitDefEqProofs only [↓slp, ↓reduceIte, reduceCtorEq, jA, jB, jE, Yk, c2, c3, c4] | apply hX; clear hX X | apply And.intro; focus ((repeat' apply And.intro) <;> first | omega | assumption)))
   try (refine aIf ?_; simp -implicitDefEqProofs only [↓slp, slb, ↓reduceIte, reduceCtorEq, jA, jB, jE])
   (repeat (first | refine aSeq fun X hX => ?_ | refine aSkip ?_ | refine aRet ?_ | refine aReg ?_; simp -implicitDefEqProofs only [↓slp, ↓reduceIte, reduceCtorEq, jA, jB, jE, Yk, c2] | apply hX; clear hX X))
   simp only [aPost, Try.results55, aRes_n, aRes_t, aRes_c, pack_one, pack_two]
   exact leave_toks0 t1 rfl ⟨by rw [hk]; rfl, rfl⟩

set_option maxHeartbeats 4000000 in
theorem rMeasure_step {ss sd : MbT} (V : List Va) (Q : List Qu) (hA : ∀ q ∈ Q, q.args.length < 2 ^ 30 ∧ ∀ a ∈ q.arms, ∀ m : M, ACalls Try.prog 38 [bkP2 a.vars a.eqs] m (fun v m' => v = .tp [pI (ss a.vars a.eqs), pI (sd a.vars a.eqs)] ∧ m' = m)) (m : M) : ACalls Try.prog 38 [bkP2 V Q] m (fun v m' => v = .tp [pI (szB ss V Q), pI (dpBl sd V Q)] ∧ m' = m) := by
 refine ACalls.enter (mu := []) ok_mix Try.func38 rfl (by kernel_rfl) (by kernel_rfl) (by simp only [List.length_cons, List.length_nil, Try.ntmps38]; omega) ?_
 (repeat (first | refine aSeq fun X hX => ?_ | refine aBlk ?_ | refine aReg ?_; simp -implicitDefEqProofs only [↓slp, ↓reduceIte, reduceCtorEq, jA, jB, jE, Yk] | apply hX; clear hX X | intro hlen; unfold maxLen at hlen))
 obtain ⟨Ik, hIk⟩ : ∃ I : F → M → Prop, ∀ f m', I f m' = (∃ (k : Nat), k ≤ V.length ∧ f 1 = .ep [.sl .no (V.map Va.pv), .sl .no (Q.map Qu.pv)] ∧ f 4 = pI ((V.take k).foldl szV (V.length : Int)) ∧ f 5 = pI ((V.take k).foldl dpV 0) ∧ f 6 = pI k ∧ m = m') := ⟨_, fun _ _ => rfl⟩
 refine aLoop Ik (fun f m => V.length - numOf (f 6)) ?_ ?_
 ·rw [hIk]; exact ⟨0, by omega, (by first | rfl | assumption), (by first | rfl | assumption), (by first | rfl | assumption), (by first | rfl | assumption), rfl⟩
 intro f m' hrel
 rw [hIk] at hrel
 obtain ⟨k, hkk, h1, h4, h5, h6, rfl⟩ := hrel
 have hmuk : numOf (f 6) = k := by rw [h6]; exact Int.toNat_natCast _
 have qk0 : ∀ h : k < V.length, ((k : Int) < (V.length : Int)) := fun h => by omega
 (repeat (first | refine aSeq fun X hX => ?_ | refine aReg ?_; simp -implicitDefEqProofs only [↓slp, ↓reduceIte, reduceCtorEq, jA, jB, jE, Yk, h1, h6, pI] | apply hX; clear hX X | intro hlen; unfold maxLen at hlen))
 refine aIf ?_; simp -implicitDefEqProofs only [slb, ↓reduceIte]; refine ⟨fun hb => ?_, fun hb => ?_⟩
 ·have hlt : k < V.length := by simpa using hb
  have g0 := getD_map Va.pv V k hlt
  have q0 := qk0 hlt
  have hik : IntKind.i64.wrap ((k : Int) + 1) = ((k + 1 : Nat) : Int) := by rw [wrap64 (by omega)]; omega
  have hf1 := fold_take szV V k hlt (V.length : Int)
  have hf2 := fold_take dpV V k hlt 0
  cases c1 : V[k].last with
  | true =>
   (repeat (first | refine aSeq fun X hX => ?_ | refine aSkip ?_ | refine aReg ?_; simp -implicitDefEqProofs only [↓slp, ↓reduceIte, reduceCtorEq, jA, jB, jE, Yk, h1, h6, pI, g0, q0, c1] | apply hX; clear hX X | apply And.intro; focus omega))
   refine aIf ?_; simp -implicitDefEqProofs only [slb, ↓reduceIte, reduceCtorEq]
   (repeat (first | refine aSeq fun X hX => ?_ | refine aReg ?_; simp -implicitDefEqProofs only [↓slp, ↓reduceIte, reduceCtorEq, jA, jB, jE, Yk, h1, h4, h6, g0, pI]; try simp only [fo] | apply And.intro; focus omega))
   refine callE (rSizeW_any _ _) ?_
   simp -implicitDefEqProofs only [↓slp, slb, ↓reduceIte, jA, h6, pI]; try simp only [fo]
   (repeat (first | refine aReg ?_; simp -implicitDefEqProofs only [↓slp, ↓reduceIte, reduceCtorEq, jA, jB, jE, Yk, h1, h5, h6, g0, pI]; try simp only [fo] | apply hX; clear hX X | apply And.intro; focus omega))
   refine callE (rDepthW_any _ _) ?_
   simp -implicitDefEqProofs only [↓slp, slb, ↓reduceIte, jA, pI]
   skip
   refine callE (greater_any _ _ _) ?_
   simp -implicitDefEqProofs only [↓slp, slb, ↓reduceIte, h6, pI]; try simp only [fo]
   (repeat (first | refine aReg ?_; simp -implicitDefEqProofs only [↓slp, slb, ↓reduceIte, jA, h6, pI, hik] | apply hX; clear hX X))
   rw [hIk]
   refine ⟨⟨k + 1, hlt, (by first | rfl | assumption), ?_, ?_, (by first | rfl | assumption), rfl⟩, ?_⟩
   ·rw [hf1, szV, if_pos c1]; rfl
   ·rw [hf2, dpV, if_pos c1]; rfl
   ·first | omega | (simp only [↓slp, slb, ↓reduceIte, reduceCtorEq, jA, jB, jC, jD, jE, jF, jG, jH, jI, jJ, jK, h6, pI]; omega)
  | false =>
   (repeat (first | refine aSeq fun X hX => ?_ | refine aSkip ?_ | refine aReg ?_; simp -implicitDefEqProofs only [↓slp, ↓reduceIte, reduceCtorEq, jA, jB, jE, Yk, h1, h6, pI, g0, q0, c1] | apply hX; clear hX X | apply And.intro; focus omega))
   refine aIf ?_; simp -implicitDefEqProofs only [slb, ↓reduceIte]
   (repeat (first | refine aSkip ?_ | refine aReg ?_; simp -implicitDefEqProofs only [↓slp, slb, ↓reduceIte, jA, h6, pI, hik] | apply hX; clear hX X))
   rw [hIk]
   refine ⟨⟨k + 1, hlt, (by first | rfl | assumption), ?_, ?_, (by first | rfl | assumption), rfl⟩, ?_⟩
   ·rw [hf1, szV, if_neg (by rw [c1]; exact Bool.false_ne_true)]; assumption
   ·rw [hf2, dpV, if_neg (by rw [c1]; exact Bool.false_ne_true)]; assumption
   ·first | omega | (simp only [↓slp, slb, ↓reduceIte, reduceCtorEq, jA, jB, jC, jD, jE, jF, jG, jH, jI, jJ, jK, h6, pI]; omega)
 obtain rfl : k = V.length := by simp at hb; omega
 rw [List.take_length] at h4 h5
 generalize hn1 : V.foldl szV (V.length : Int) = n1 at h4 h5
 generalize hd1 : V.foldl dpV 0 = d1 at h4 h5
 (repeat (first | refine aSeq fun X hX => ?_ | refine aBlk ?_ | refine aExit ?_; try simp only [slx, ↓reduceIte, jA, reduceCtorEq] | refine aReg ?_; simp -implicitDefEqProofs only [↓slp, slb, pI] | apply hX; clear hX X | clear hX X; apply hX; clear hX X))
 obtain ⟨Ii, hIi⟩ : ∃ I : F → M → Prop, ∀ f m', I f m' = (∃ (i : Nat), i ≤ Q.length ∧ f 1 = .ep [.sl .no (V.map Va.pv), .sl .no (Q.map Qu.pv)] ∧ f 4 = pI ((Q.take i).foldl (szQ ss) n1) ∧ f 5 = pI ((Q.take i).foldl (dpQ sd) d1) ∧ f 7 = pI i ∧ m = m') := ⟨_, fun _ _ => rfl⟩
 refine aLoop Ii (fun f m => Q.length - numOf (f 7)) ?_ ?_
 ·rw [hIi]; exact ⟨0, by omega, (by first | rfl | assumption), (by first | rfl | assumption), (by first | rfl | assumption), (by first | rfl | assumption), rfl⟩
 intro f m' hrel
 rw [hIi] at hrel
 obtain ⟨i, hki, h1, h4, h5, h7, rfl⟩ := hrel
 have hmui : numOf (f 7) = i := by rw [h7]; exact Int.toNat_natCast _
 have qi0 : ∀ h : i < Q.length, ((i : Int) < (Q.length : Int)) := fun h => by omega
 (repeat (first | refine aSeq fun X hX => ?_ | refine aReg ?_; simp -implicitDefEqProofs only [↓slp, ↓reduceIte, reduceCtorEq, jA, jB, jE, Yk, h1, h7, pI] | apply hX; clear hX X | intro hlen; unfold maxLen at hlen))
 refine aIf ?_; simp -implicitDefEqProofs only [slb, ↓reduceIte]; refine ⟨fun hb => ?_, fun hb => ?_⟩
 ·have hlti : i < Q.length := by simpa using hb
  have g1 := getD_map Qu.pv Q i hlti
  have q1 := qi0 hlti
  have hii : IntKind.i64.wrap ((i : Int) + 1) = ((i + 1 : Nat) : Int) := by rw [wrap64 (by omega)]; omega
  have hfq1 := fold_take (szQ ss) Q i hlti n1
  have hfq2 := fold_take (dpQ sd) Q i hlti d1
  obtain ⟨hal, hAB⟩ := hA Q[i] (List.getElem_mem hlti)
  have hK := fun m => rKids_any Q[i] hal m
  simp only [Qu.pv_eq] at hK
  (repeat (first | refine aSeq fun X hX => ?_ | refine aSkip ?_ | refine aReg ?_; simp -implicitDefEqProofs only [↓slp, ↓reduceIte, reduceCtorEq, jA, jB, jE, Yk, h1, h4, h7, pI, g1, q1] | apply hX; clear hX X | apply And.intro; focus omega))
  refine callE (hK _) ?_
  simp -implicitDefEqProofs only [↓slp, slb, ↓reduceIte, h7]
  generalize hKL : kidsL Q[i] = KL
  (repeat (first | refine aSeq fun X hX => ?_ | refine aBlk ?_ | refine aReg ?_; simp -implicitDefEqProofs only [↓slp, slb, h7, pI] | apply hX; clear hX X))
  obtain ⟨Ij, hIj⟩ : ∃ I : F → M → Prop, ∀ f m', I f m' = (∃ (j : Nat), j ≤ KL.length ∧ f 1 = .ep [.sl .no (V.map Va.pv), .sl .no (Q.map Qu.pv)] ∧ f 7 = pI i ∧ f 8 = .sl .no (KL.map Ex.pv) ∧ f 4 = pI ((KL.take j).foldl szS (w64 ((Q.take i).foldl (szQ ss) n1 + 1))) ∧ f 5 = pI ((KL.take j).foldl dpS ((Q.take i).foldl (dpQ sd) d1)) ∧ f 9 = pI j ∧ m = m') := ⟨_, fun _ _ => rfl⟩
  refine aLoop Ij (fun f m => KL.length - numOf (f 9)) ?_ ?_
  ·rw [hIj]; exact ⟨0, by omega, (by first | rfl | assumption), (by first | rfl | assumption), (by first | rfl | assumption), (by first | rfl | assumption), (by first | rfl | assumption), (by first | rfl | assumption), rfl⟩
  intro f m' hrel
  rw [hIj] at hrel
  obtain ⟨j, hkj, h1, h7, h8, h4, h5, h9, rfl⟩ := hrel
  have hmuj : numOf (f 9) = j := by rw [h9]; exact Int.toNat_natCast _
  have qj0 : ∀ h : j < KL.length, ((j : Int) < (KL.length : Int)) := fun h => by omega
  (repeat (first | refine aSeq fun X hX => ?_ | refine aReg ?_; simp -implicitDefEqProofs only [↓slp, ↓reduceIte, jA, Yk, h8, h9, pI] | apply hX; clear hX X | intro hlen; unfold maxLen at hlen))
  refine aIf ?_; simp -implicitDefEqProofs only [slb, ↓reduceIte]; refine ⟨fun hb => ?_, fun hb => ?_⟩
  ·have hltj : j < KL.length := by simpa using hb
   have g2 := getD_map Ex.pv KL j hltj
   have q2 := qj0 hltj
   have hij : IntKind.i64.wrap ((j : Int) + 1) = ((j + 1 : Nat) : Int) := by rw [wrap64 (by omega)]; omega
   have hf1 := fold_take szS KL j hltj (w64 ((Q.take i).foldl (szQ ss) n1 + 1))
   have hf2 := fold_take dpS KL j hltj ((Q.take i).foldl (dpQ sd) d1)
   (repeat (first | refine aSeq fun X hX => ?_ | refine aSkip ?_ | refine aReg ?_; simp -implicitDefEqProofs only [↓slp, ↓reduceIte, jA, jB, jE, Yk, h8, h4, h9, g2, q2, pI]; try simp only [fo] | apply hX; clear hX X | apply And.intro; focus omega))
   refine callE (rSizeW_any _ _) ?_
   simp -implicitDefEqProofs only [↓slp, slb, ↓reduceIte, jA, h9, q2, pI]; try simp only [fo]
   (repeat (first | refine aReg ?_; simp -implicitDefEqProofs only [↓slp, ↓reduceIte, jA, jB, jE, Yk, h8, h5, h9, g2, pI]; try simp only [fo] | apply hX; clear hX X | apply And.intro; focus omega))
   refine callE (rDepthW_any _ _) ?_
   simp -implicitDefEqProofs only [↓slp, ↓reduceIte, jA, Yk, pI]
   skip
   refine callE (greater_any _ _ _) ?_
   simp -implicitDefEqProofs only [↓slp, ↓reduceIte, Yk, h9, pI]; try simp only [fo]
   (repeat (first | refine aReg ?_; simp -implicitDefEqProofs only [↓slp, ↓reduceIte, jA, Yk, h9, pI, hij]; try simp only [fo] | apply hX; clear hX X))
   rw [hIj]
   refine ⟨⟨j + 1, hltj, (by first | rfl | assumption), (by first | rfl | assumption), (by first | rfl | assumption), ?_, ?_, (by first | rfl | assumption), rfl⟩, ?_⟩
   ·rw [hf1]; rfl
   ·rw [hf2]; rfl
   ·first | omega | (simp only [↓slp, slb, ↓reduceIte, reduceCtorEq, jA, jB, jC, jD, jE, jF, jG, jH, jI, jJ, jK, h9, pI]; omega)
  obtain rfl : j = KL.length := by simp at hb; omega
  rw [List.take_length] at h4 h5
  rw [← hKL, kidsL_fold] at h4 h5
  (repeat (first | refine aSeq fun X hX => ?_ | refine aBlk ?_ | refine aExit ?_; try simp only [slx, ↓reduceIte, jA, reduceCtorEq] | refine aReg ?_; simp -implicitDefEqProofs only [↓slp, slb, pI] | apply hX; clear hX X | clear hX X; apply hX; clear hX X))
  obtain ⟨Ij, hIj⟩ : ∃ I : F → M → Prop, ∀ f m', I f m' = (∃ (j : Nat), j ≤ Q[i].arms.length ∧ f 1 = .ep [.sl .no (V.map Va.pv), .sl .no (Q.map Qu.pv)] ∧ f 7 = pI i ∧ f 4 = pI ((Q[i].arms.take j).foldl (szA ss) (eachF szS Q[i] (w64 ((Q.take i).foldl (szQ ss) n1 + 1)))) ∧ f 5 = pI ((Q[i].arms.take j).foldl (dpA sd) (eachF dpS Q[i] ((Q.take i).foldl (dpQ sd) d1))) ∧ f 10 = pI j ∧ m = m') := ⟨_, fun _ _ => rfl⟩
  refine aLoop Ij (fun f m => Q[i].arms.length - numOf (f 10)) ?_ ?_
  ·rw [hIj]; exact ⟨0, by omega, (by first | rfl | assumption), (by first | rfl | assumption), (by first | rfl | assumption), (by first | rfl | assumption), (by first | rfl | assumption), rfl⟩
  intro f m' hrel
  rw [hIj] at hrel
  obtain ⟨j, hkj, h1, h7, h4, h5, h10, rfl⟩ := hrel
  have hmuj : numOf (f 10) = j := by rw [h10]; exact Int.toNat_natCast _
  have qj0 : ∀ h : j < Q[i].arms.length, ((j : Int) < (Q[i].arms.length : Int)) := fun h => by omega
  (repeat (first | refine aSeq fun X hX => ?_ | refine aReg ?_; simp -implicitDefEqProofs only [↓slp, ↓reduceIte, reduceCtorEq, jA, jB, jE, Yk, h1, h7, h10, pI, g1] | apply hX; clear hX X | intro hlen; unfold maxLen at hlen | apply And.intro; focus omega))
  refine aIf ?_; simp -implicitDefEqProofs only [slb, ↓reduceIte]; refine ⟨fun hb => ?_, fun hb => ?_⟩
  ·have hltj : j < Q[i].arms.length := by simpa using hb
   have g2 := getD_map Am.pv Q[i].arms j hltj
   have q2 := qj0 hltj
   have hij : IntKind.i64.wrap ((j : Int) + 1) = ((j + 1 : Nat) : Int) := by rw [wrap64 (by omega)]; omega
   have hfa1 := fold_take (szA ss) Q[i].arms j hltj (eachF szS Q[i] (w64 ((Q.take i).foldl (szQ ss) n1 + 1)))
   have hfa2 := fold_take (dpA sd) Q[i].arms j hltj (eachF dpS Q[i] ((Q.take i).foldl (dpQ sd) d1))
   have hBk := hAB Q[i].arms[j] (List.getElem_mem hltj)
   (repeat (first | refine aSeq fun X hX => ?_ | refine aSkip ?_ | refine aReg ?_; simp -implicitDefEqProofs only [↓slp, ↓reduceIte, reduceCtorEq, jA, jB, jE, jF, Yk, h1, h7, h10, pI, g1, g2, q2] | apply hX; clear hX X | apply And.intro; focus omega))
   refine callE (hBk _) ?_
   simp -implicitDefEqProofs only [↓slp, slb, ↓reduceIte, jA, jB, h10, pI]
   (repeat (first | refine aSeq fun X hX => ?_ | refine aReg ?_; simp -implicitDefEqProofs only [↓slp, slb, ↓reduceIte, jA, h4, h5, h10, pI] | apply hX; clear hX X))
   refine callE (greater_any _ _ _) ?_
   simp -implicitDefEqProofs only [↓slp, slb, ↓reduceIte, h10, pI]
   (repeat (first | refine aSeq fun X hX => ?_ | refine aBlk ?_ | refine aReg ?_; simp -implicitDefEqProofs only [↓slp, slb, h10, pI] | apply hX; clear hX X))
   obtain ⟨It, hIt⟩ : ∃ I : F → M → Prop, ∀ f m', I f m' = (∃ (t : Nat), t ≤ Q[i].arms[j].unl.length ∧ f 1 = .ep [.sl .no (V.map Va.pv), .sl .no (Q.map Qu.pv)] ∧ f 7 = pI i ∧ f 10 = pI j ∧ f 11 = .ep Q[i].arms[j].cs ∧ f 4 = pI ((Q[i].arms[j].unl.take t).foldl szT (w64 ((Q[i].arms.take j).foldl (szA ss) (eachF szS Q[i] (w64 ((Q.take i).foldl (szQ ss) n1 + 1))) + w64 (1 + ss Q[i].arms[j].vars Q[i].arms[j].eqs)))) ∧ f 5 = pI ((Q[i].arms[j].unl.take t).foldl dpT (mxI ((Q[i].arms.take j).foldl (dpA sd) (eachF dpS Q[i] ((Q.take i).foldl (dpQ sd) d1))) (sd Q[i].arms[j].vars Q[i].arms[j].eqs))) ∧ f 14 = pI t ∧ m = m') := ⟨_, fun _ _ => rfl⟩
   refine aLoop It (fun f m => Q[i].arms[j].unl.length - numOf (f 14)) ?_ ?_
   ·rw [hIt]; exact ⟨0, by omega, (by first | rfl | assumption), (by first | rfl | assumption), (by first | rfl | assumption), (by first | rfl | assumption), (by first | rfl | assumption), (by first | rfl | assumption), (by first | rfl | assumption), rfl⟩
   intro f m' hrel
   rw [hIt] at hrel
   obtain ⟨t, hkt, h1, h7, h10, h11, h4, h5, h14, rfl⟩ := hrel
   have hmut : numOf (f 14) = t := by rw [h14]; exact Int.toNat_natCast _
   have qt0 : ∀ h : t < Q[i].arms[j].unl.length, ((t : Int) < (Q[i].arms[j].unl.length : Int)) := fun h => by omega
   (repeat (first | refine aSeq fun X hX => ?_ | refine aReg ?_; simp -implicitDefEqProofs only [↓slp, ↓reduceIte, reduceCtorEq, jA, jB, jE, Yk, h11, h14, pI] | apply hX; clear hX X | intro hlen; unfold maxLen at hlen))
   refine aIf ?_; simp -implicitDefEqProofs only [slb, ↓reduceIte]; refine ⟨fun hb => ?_, fun hb => ?_⟩
   ·have hltt : t < Q[i].arms[j].unl.length := by simpa using hb
    have g3 := getD_map Tr.pv Q[i].arms[j].unl t hltt
    have q3 := qt0 hltt
    have hit : IntKind.i64.wrap ((t : Int) + 1) = ((t + 1 : Nat) : Int) := by rw [wrap64 (by omega)]; omega
    have hf1 := fold_take szT Q[i].arms[j].unl t hltt (w64 ((Q[i].arms.take j).foldl (szA ss) (eachF szS Q[i] (w64 ((Q.take i).foldl (szQ ss) n1 + 1))) + w64 (1 + ss Q[i].arms[j].vars Q[i].arms[j].eqs)))
    have hf2 := fold_take dpT Q[i].arms[j].unl t hltt (mxI ((Q[i].arms.take j).foldl (dpA sd) (eachF dpS Q[i] ((Q.take i).foldl (dpQ sd) d1))) (sd Q[i].arms[j].vars Q[i].arms[j].eqs))
    (repeat (first | refine aSeq fun X hX => ?_ | refine aSkip ?_ | refine aReg ?_; simp -implicitDefEqProofs only [↓slp, ↓reduceIte, reduceCtorEq, jA, jB, jE, Yk, h11, h4, h14, g3, q3, pI]; try simp only [fo] | apply hX; clear hX X | apply And.intro; focus omega))
    refine callE (rSizeW_any _ _) ?_
    simp -implicitDefEqProofs only [↓slp, slb, ↓reduceIte, jA, h14, q3, pI]; try simp only [fo]
    (repeat (first | refine aReg ?_; simp -implicitDefEqProofs only [↓slp, ↓reduceIte, reduceCtorEq, jA, jB, jE, Yk, h11, h5, h14, g3, pI]; try simp only [fo] | apply hX; clear hX X | apply And.intro; focus omega))
    refine callE (rDepthW_any _ _) ?_
    simp -implicitDefEqProofs only [↓slp, slb, ↓reduceIte, jA, pI]
    skip
    refine callE (greater_any _ _ _) ?_
    simp -implicitDefEqProofs only [↓slp, slb, ↓reduceIte, h14, pI]; try simp only [fo]
    (repeat (first | refine aReg ?_; simp -implicitDefEqProofs only [↓slp, slb, ↓reduceIte, jA, h14, pI, hit] | apply hX; clear hX X))
    rw [hIt]
    refine ⟨⟨t + 1, hltt, (by first | rfl | assumption), (by first | rfl | assumption), (by first | rfl | assumption), (by first | rfl | assumption), ?_, ?_, (by first | rfl | assumption), rfl⟩, ?_⟩
    ·rw [hf1]; rfl
    ·rw [hf2]; rfl
    ·first | omega | (simp only [↓slp, slb, ↓reduceIte, reduceCtorEq, jA, jB, jC, jD, jE, jF, jG, jH, jI, jJ, jK, h14, pI]; omega)
   obtain rfl : t = Q[i].arms[j].unl.length := by simp at hb; omega
   rw [List.take_length] at h4 h5
   (repeat (first | refine aSeq fun X hX => ?_ | refine aBlk ?_ | refine aExit ?_; try simp only [slx, ↓reduceIte, jA, reduceCtorEq] | refine aReg ?_; simp -implicitDefEqProofs only [↓slp, slb, pI] | apply hX; clear hX X | clear hX X; apply hX; clear hX X))
   obtain ⟨Iu, hIu⟩ : ∃ I : F → M → Prop, ∀ f m', I f m' = (∃ (u : Nat), u ≤ Q[i].arms[j].til.length ∧ f 1 = .ep [.sl .no (V.map Va.pv), .sl .no (Q.map Qu.pv)] ∧ f 7 = pI i ∧ f 10 = pI j ∧ f 11 = .ep Q[i].arms[j].cs ∧ f 4 = pI ((Q[i].arms[j].til.take u).foldl szT (Q[i].arms[j].unl.foldl szT (w64 ((Q[i].arms.take j).foldl (szA ss) (eachF szS Q[i] (w64 ((Q.take i).foldl (szQ ss) n1 + 1))) + w64 (1 + ss Q[i].arms[j].vars Q[i].arms[j].eqs))))) ∧ f 5 = pI ((Q[i].arms[j].til.take u).foldl dpT (Q[i].arms[j].unl.foldl dpT (mxI ((Q[i].arms.take j).foldl (dpA sd) (eachF dpS Q[i] ((Q.take i).foldl (dpQ sd) d1))) (sd Q[i].arms[j].vars Q[i].arms[j].eqs)))) ∧ f 15 = pI u ∧ m = m') := ⟨_, fun _ _ => rfl⟩
   refine aLoop Iu (fun f m => Q[i].arms[j].til.length - numOf (f 15)) ?_ ?_
   ·rw [hIu]; exact ⟨0, by omega, (by first | rfl | assumption), (by first | rfl | assumption), (by first | rfl | assumption), (by first | rfl | assumption), (by first | rfl | assumption), (by first | rfl | assumption), (by first | rfl | assumption), rfl⟩
   intro f m' hrel
   rw [hIu] at hrel
   obtain ⟨u, hku, h1, h7, h10, h11, h4, h5, h15, rfl⟩ := hrel
   have hmuu : numOf (f 15) = u := by rw [h15]; exact Int.toNat_natCast _
   have qu0 : ∀ h : u < Q[i].arms[j].til.length, ((u : Int) < (Q[i].arms[j].til.length : Int)) := fun h => by omega
   (repeat (first | refine aSeq fun X hX => ?_ | refine aReg ?_; simp -implicitDefEqProofs only [↓slp, ↓reduceIte, reduceCtorEq, jA, jB, jE, Yk, h11, h15, pI] | apply hX; clear hX X | intro hlen; unfold maxLen at hlen))
   refine aIf ?_; simp -implicitDefEqProofs only [slb, ↓reduceIte]; refine ⟨fun hb => ?_, fun hb => ?_⟩
   ·have hltt : u < Q[i].arms[j].til.length := by simpa using hb
    have g3 := getD_map Tr.pv Q[i].arms[j].til u hltt
    have q3 := qu0 hltt
    have hiu : IntKind.i64.wrap ((u : Int) + 1) = ((u + 1 : Nat) : Int) := by rw [wrap64 (by omega)]; omega
    have hf1 := fold_take szT Q[i].arms[j].til u hltt (Q[i].arms[j].unl.foldl szT (w64 ((Q[i].arms.take j).foldl (szA ss) (eachF szS Q[i] (w64 ((Q.take i).foldl (szQ ss) n1 + 1))) + w64 (1 + ss Q[i].arms[j].vars Q[i].arms[j].eqs))))
    have hf2 := fold_take dpT Q[i].arms[j].til u hltt (Q[i].arms[j].unl.foldl dpT (mxI ((Q[i].arms.take j).foldl (dpA sd) (eachF dpS Q[i] ((Q.take i).foldl (dpQ sd) d1))) (sd Q[i].arms[j].vars Q[i].arms[j].eqs)))
    (repeat (first | refine aSeq fun X hX => ?_ | refine aSkip ?_ | refine aReg ?_; simp -implicitDefEqProofs only [↓slp, ↓reduceIte, reduceCtorEq, jA, jB, jE, Yk, h11, h4, h15, g3, q3, pI]; try simp only [fo] | apply hX; clear hX X | apply And.intro; focus omega))
    refine callE (rSizeW_any _ _) ?_
    simp -implicitDefEqProofs only [↓slp, slb, ↓reduceIte, jA, h15, q3, pI]; try simp only [fo]
    (repeat (first | refine aReg ?_; simp -implicitDefEqProofs only [↓slp, ↓reduceIte, reduceCtorEq, jA, jB, jE, Yk, h11, h5, h15, g3, pI]; try simp only [fo] | apply hX; clear hX X | apply And.intro; focus omega))
    refine callE (rDepthW_any _ _) ?_
    simp -implicitDefEqProofs only [↓slp, slb, ↓reduceIte, jA, pI]
    skip
    refine callE (greater_any _ _ _) ?_
    simp -implicitDefEqProofs only [↓slp, slb, ↓reduceIte, h15, pI]; try simp only [fo]
    (repeat (first | refine aReg ?_; simp -implicitDefEqProofs only [↓slp, slb, ↓reduceIte, jA, h15, pI, hiu] | apply hX; clear hX X))
    rw [hIu]
    refine ⟨⟨u + 1, hltt, (by first | rfl | assumption), (by first | rfl | assumption), (by first | rfl | assumption), (by first | rfl | assumption), ?_, ?_, (by first | rfl | assumption), rfl⟩, ?_⟩
    ·rw [hf1]; rfl
    ·rw [hf2]; rfl
    ·first | omega | (simp only [↓slp, slb, ↓reduceIte, reduceCtorEq, jA, jB, jC, jD, jE, jF, jG, jH, jI, jJ, jK, h15, pI]; omega)
   obtain rfl : u = Q[i].arms[j].til.length := by simp at hb; omega
   rw [List.take_length] at h4 h5
   skip
   (repeat (first | refine aExit ?_; try simp only [slx, ↓reduceIte, jA, reduceCtorEq] | refine aReg ?_; simp -implicitDefEqProofs only [↓slp, slb, ↓reduceIte, jA, h10, pI, hij] | clear hX X; apply hX; clear hX X))
   rw [hIj]
   refine ⟨⟨j + 1, hltj, (by first | rfl | assumption), (by first | rfl | assumption), ?_, ?_, (by first | rfl | assumption), rfl⟩, ?_⟩
   ·rw [hfa1, szA, List.foldl_append]; assumption
   ·rw [hfa2, dpA, List.foldl_append]; assumption
   ·first | omega | (simp only [↓slp, slb, ↓reduceIte, reduceCtorEq, jA, jB, jC, jD, jE, jF, jG, jH, jI, jJ, jK, h10, pI]; omega)
  obtain rfl : j = Q[i].arms.length := by simp at hb; omega
  rw [List.take_length] at h4 h5
  (repeat (first | refine aExit ?_; try simp only [slx, ↓reduceIte, jA, reduceCtorEq] | refine aReg ?_; simp -implicitDefEqProofs only [↓slp, slb, ↓reduceIte, jA, h7, pI, hii] | clear hX X; apply hX; clear hX X))
  rw [hIi]
  refine ⟨⟨i + 1, hlti, (by first | rfl | assumption), ?_, ?_, (by first | rfl | assumption), rfl⟩, ?_⟩
  ·rw [hfq1, szQ]; assumption
  ·rw [hfq2, dpQ]; assumption
  ·first | omega | (simp only [↓slp, slb, ↓reduceIte, reduceCtorEq, jA, jB, jC, jD, jE, jF, jG, jH, jI, jJ, jK, h7, pI]; omega)
 obtain rfl : i = Q.length := by simp at hb; omega
 rw [List.take_length] at h4 h5
 (repeat (first | refine aSeq fun X hX => ?_ | (first | refine aExit ?_ | refine aRet ?_); try simp only [slx, ↓reduceIte, jA, reduceCtorEq] | refine aReg ?_; simp -implicitDefEqProofs only [↓slp, slb, ↓reduceIte, jA, h4, h5, pI] | apply hX; clear hX X | clear hX X; apply hX; clear hX X))
 simp only [aPost, Try.results38, aRes_n, aRes_t, aRes_c, pack_one, pack_two]
 refine leave_same rfl ⟨?_, rfl⟩
 rw [szB, dpBl, hn1, hd1]; rfl
end Go.Proofs.Ytibhhoknipdlpaa
