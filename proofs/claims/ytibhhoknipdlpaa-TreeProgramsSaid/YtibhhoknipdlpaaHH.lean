/-
 Texts that belong together: TpHa, TpH.
-/
-- halved
import Derived.Test.YtibhhoknipdlpaaNvA
import Derived.Test.YtibhhoknipdlpaaTpG
import Derived.Test.YtibhhoknipdlpaaSA
/-
 The reference's Has and Add.
-/
set_option linter.unusedVariables false
set_option linter.unusedSimpArgs false
namespace Go.Proofs.Ytibhhoknipdlpaa
open Nat renaming reduceEqDiff → jA, reduceAdd → jB, reduceMul → jC, reduceLT → jD, reduceLeDiff → jE, reduceBEq → jF, reduceBNe → jG
open Int renaming reduceLE → jH, reduceLT → jI, reduceToNat → jJ, reduceEq → jK
open Go
set_option maxRecDepth 20000
-- TNAMES: int; string; bool; []string


set_option maxRecDepth 20000 in
set_option maxHeartbeats 400000 in
theorem rHas_any (o : Own) (l : List Str) (s : Str) (m : M) : ACalls Try.prog 104 [.sl o (l.map pS), pS s] m (fun v m' => v = pB (hasS l s) ∧ m' = m) := by
 refine ACalls.enter (mu := []) ok_mix Try.func104 rfl (by kernel_rfl) (by kernel_rfl) (by simp only [List.length_cons, List.length_nil, Try.ntmps104]; omega) ?_
 (repeat (first | refine aSeq fun X hX => ?_ | refine aBlk ?_ | refine aReg ?_; simp -implicitDefEqProofs only [↓slp, slb] | apply hX; clear hX X))
 obtain ⟨I, hI⟩ : ∃ I : F → M → Prop, ∀ f m', I f m' = (∃ k : Nat, k ≤ l.length ∧ f 0 = .sl o (l.map pS) ∧ f 1 = pS s ∧ f 5 = pI k ∧ hasS l s = hasS (l.drop k) s ∧ m' = m) := ⟨_, fun _ _ => rfl⟩
 refine aLoop I (fun f m => l.length - numOf (f 5)) ?_ ?_
 ·rw [hI]; exact ⟨0, by omega, rfl, rfl, rfl, rfl, rfl⟩
 intro f m' hrel
 rw [hI] at hrel
 obtain ⟨k, hk, h0, h1, h5, hs, rfl⟩ := hrel
 (repeat (first | refine aSeq fun X hX => ?_ | refine aReg ?_; simp -implicitDefEqProofs only [↓slp, ↓reduceIte, reduceCtorEq, jA, Yl, h0, h5, pI] | apply hX; clear hX X | intro hlen; unfold maxLen at hlen))
 refine aIf ?_; simp -implicitDefEqProofs only [slb, ↓reduceIte]; refine ⟨fun hb => ?_, fun hb => ?_⟩
 ·have hlt : k < l.length := by simpa using hb
  have g0 := getD_map pS l k hlt
  have hi : IntKind.i64.wrap ((k : Int) + 1) = ((k + 1 : Nat) : Int) := by rw [wrap64 (by omega)]; omega
  have hd := hasS_drop l s k hlt
  cases c1 : (l[k].toList == s.toList) with
  | true =>
   have c2 : eqS l[k] s = true := c1
   (repeat (first | refine aSeq fun X hX => ?_ | refine aSkip ?_ | refine aRet ?_; try simp only [slx, ↓reduceIte, jA, reduceCtorEq] | (first | apply aReg | apply aIf); simp -implicitDefEqProofs only [↓slp, ↓reduceIte, reduceCtorEq, jA, jB, Yl, h0, h1, h5, pI, pS, g0, c1] | apply hX; clear hX X | apply And.intro; focus omega))
   simp only [aPost, Try.results104, aRes_n, aRes_t, aRes_c, pack_one, pack_two]
   have hv : hasS l s = true := by rw [hs, hd, c2]; rfl
   exact leave_same rfl ⟨by rw [hv]; rfl, rfl⟩
  | false =>
   have c2 : eqS l[k] s = false := c1
   (repeat (first | refine aSeq fun X hX => ?_ | refine aSkip ?_ | (first | apply aReg | apply aIf); simp -implicitDefEqProofs only [↓slp, ↓reduceIte, reduceCtorEq, jA, jB, Yl, h0, h1, h5, pI, pS, g0, c1, hi] | apply hX; clear hX X | apply And.intro; focus omega))
   rw [hI]
   exact ⟨⟨k + 1, hlt, h0, h1, rfl, by rw [hs, hd, c2]; rfl, rfl⟩, by omega⟩
 ·have hlt : k = l.length := by simp at hb; omega
  subst hlt
  (repeat (first | refine aSeq fun X hX => ?_ | (first | refine aExit ?_ | refine aRet ?_); try simp only [slx, ↓reduceIte, jA, reduceCtorEq] | refine aReg ?_; simp -implicitDefEqProofs only [↓slp, slb] | apply hX; clear hX X | clear hX X; apply hX; clear hX X))
  simp only [aPost, Try.results104, aRes_n, aRes_t, aRes_c, pack_one, pack_two]
  have hv : hasS l s = false := by rw [hs, List.drop_length]; exact hasS_nil s
  exact leave_same rfl ⟨by rw [hv]; rfl, rfl⟩

set_option maxRecDepth 20000 in
set_option maxHeartbeats 400000 in
theorem rAdd_any (l : List Str) (s : Str) (m : M) (hlen : l.length < 2 ^ 40) : ACalls Try.prog 57 [.sl .no (l.map pS), pS s] m (fun v m' => v = .sl .no ((addS l s).map pS) ∧ m' = m) := by
 have h1 := strs_one l
 have h2 : l.length ≤ maxLen := by unfold maxLen; omega
 have h3 : l.length + 1 ≤ maxLen := by unfold maxLen; omega
 have h5 : (m.fresh 1).alive m.nt 1 := by simp [M.alive, M.fresh, M.nt]
 refine ACalls.enter (mu := []) ok_mix Try.func57 rfl (by kernel_rfl) (by kernel_rfl) (by simp only [List.length_cons, List.length_nil, Try.ntmps57]; omega) ?_
 (repeat (first | refine aSeq fun X hX => ?_ | refine aReg ?_; simp -implicitDefEqProofs only [↓slp, ↓reduceIte, reduceCtorEq, jA, Yl] | apply hX; clear hX X))
 refine callE (rHas_any .no l s m) ?_
 simp -implicitDefEqProofs only [slb]
 cases c : hasS l s with
 | true =>
  have hv : addS l s = l := by unfold addS; rw [c]; rfl
  (repeat (first | refine aSeq fun X hX => ?_ | refine aRet ?_; try simp only [slx, ↓reduceIte, jA, reduceCtorEq] | (first | apply aReg | apply aIf); simp -implicitDefEqProofs only [↓slp, slb, ↓reduceIte, reduceCtorEq, pB] | apply hX; clear hX X))
  simp only [aPost, Try.results57, aRes_n, aRes_t, aRes_c, pack_one, pack_two]
  exact leave_same rfl ⟨by rw [hv]; rfl, rfl⟩
 | false =>
  have hv : addS l s = l ++ [s] := by unfold addS; rw [c]; rfl
  (repeat (first | refine aSeq fun X hX => ?_ | refine aSkip ?_ | refine aRet ?_ | (first | apply aReg | apply aIf); simp -implicitDefEqProofs only [forall_eq, ↓slp, ↓reduceIte, reduceCtorEq, jA, jB, jC, jE, Yl, pB, pS] | apply hX; clear hX X | apply And.intro; focus ((repeat' apply And.intro) <;> first | omega | assumption)))
  simp only [aPost, Try.results57, aRes_n, aRes_t, aRes_c, pack_one, pack_two]
  simp -implicitDefEqProofs only [slb, ↓reduceIte]
  have t1 : Toks m (m.fresh 1) := (Toks.refl m).use (o := .full) (s := 1) (s' := 1) Mine.full
  have t2 : Toks m (((m.fresh 1).kill m.nt).fresh 1) := t1.use (o := .tok m.nt) (s := 1) (Mine.new (o := .full) (Toks.refl m) 1)
  exact leave_toks0 t2 rfl ⟨by rw [hv, List.map_append]; rfl, rfl⟩
end Go.Proofs.Ytibhhoknipdlpaa

/-
 What equations and blocks define: the reference.
-/
set_option linter.unusedVariables false
set_option linter.unusedSimpArgs false
namespace Go.Proofs.Ytibhhoknipdlpaa
open Nat renaming reduceEqDiff → jA, reduceAdd → jB, reduceMul → jC, reduceLT → jD, reduceLeDiff → jE, reduceBEq → jF, reduceBNe → jG
open Int renaming reduceLE → jH, reduceLT → jI, reduceToNat → jJ, reduceEq → jK
open Go
-- EXX: Qu.settle_pv, Qu.pure_pv, Qu.cells_pv, Qu.cs, Am.settle_pv, Am.pure_pv, Am.cells_pv, Am.cs, Tr.settle_pv, Tr.pure_pv, Tr.cells_pv, Tr.cs
set_option maxRecDepth 20000
-- TNAMES: int; uint8; int32; string; bool; []string; []api.Expr; api.Expr; api.Pos; api.Type; api.On; []api.On; api.Var; []api.Var; api.Equation; []api.Equation; api.Block; api.Trans; []api.Trans; api.Arm; []api.Arm


theorem strsQ (l : List Str) : ∀ x ∈ l.map pS, x.cells.length = 1 := fun x hx => by obtain ⟨s, _, rfl⟩ := List.mem_map.1 hx; rfl
set_option maxHeartbeats 2000000 in
theorem rFind_any (o : Own) (l : List Va) (s : Str) (m : M) : ACalls Try.prog 90 [.sl o (l.map Va.pv), pS s] m (fun v m' => v = pI (findVar l s) ∧ m' = m) := by
 refine ACalls.enter (mu := []) ok_mix Try.func90 rfl (by kernel_rfl) (by kernel_rfl) (by simp only [List.length_cons, List.length_nil, Try.ntmps90]; omega) ?_
 (repeat (first | refine aSeq fun X hX => ?_ | refine aBlk ?_ | refine aReg ?_; simp -implicitDefEqProofs only [↓slp, slb] | apply hX; clear hX X))
 obtain ⟨I, hI⟩ : ∃ I : F → M → Prop, ∀ f m', I f m' = (∃ k : Nat, k ≤ l.length ∧ f 0 = .sl o (l.map (Va.pv)) ∧ f 1 = pS s ∧ f 5 = pI k ∧ findVar l s = idxF (fun e : Va => eqS e.name s) (l.drop k) k ∧ m' = m) := ⟨_, fun _ _ => rfl⟩
 refine aLoop I (fun f m => l.length - numOf (f 5)) ?_ ?_
 ·rw [hI]; exact ⟨0, by omega, rfl, rfl, rfl, rfl, rfl⟩
 intro f m' hrel
 rw [hI] at hrel
 obtain ⟨k, hk, h0, h1, h5, hs, rfl⟩ := hrel
 (repeat (first | refine aSeq fun X hX => ?_ | refine aReg ?_; simp -implicitDefEqProofs only [↓slp, ↓reduceIte, reduceCtorEq, jA, Ym, h0, h5, pI] | apply hX; clear hX X | intro hlen; unfold maxLen at hlen))
 refine aIf ?_; simp -implicitDefEqProofs only [slb, ↓reduceIte]; refine ⟨fun hb => ?_, fun hb => ?_⟩
 ·have hlt : k < l.length := by simpa using hb
  have g0 := getD_map (Va.pv) l k hlt
  have hi : IntKind.i64.wrap ((k : Int) + 1) = ((k + 1 : Nat) : Int) := by rw [wrap64 (by omega)]; omega
  have hd := idxF_drop (p := fun e : Va => eqS e.name s) hlt
  cases c1 : (l[k].name.toList == s.toList) with
  | true =>
   have c2 : eqS l[k].name s = true := c1
   (repeat (first | refine aSeq fun X hX => ?_ | refine aSkip ?_ | refine aRet ?_; try simp only [slx, ↓reduceIte, jA, reduceCtorEq] | (first | apply aReg | apply aIf); simp -implicitDefEqProofs only [↓slp, ↓reduceIte, reduceCtorEq, jA, jB, jE, Ym, h0, h1, h5, pI, pS, g0, c1] | apply hX; clear hX X | apply And.intro; focus omega))
   simp only [aPost, Try.results90, aRes_n, aRes_t, aRes_c, pack_one, pack_two]
   have hv : findVar l s = (k : Int) := by rw [hs, hd]; simp [c2]
   exact leave_same rfl ⟨by rw [hv]; rfl, rfl⟩
  | false =>
   have c2 : eqS l[k].name s = false := c1
   (repeat (first | refine aSeq fun X hX => ?_ | refine aSkip ?_ | (first | apply aReg | apply aIf); simp -implicitDefEqProofs only [↓slp, ↓reduceIte, reduceCtorEq, jA, jB, jE, Ym, h0, h1, h5, pI, pS, g0, c1, hi] | apply hX; clear hX X | apply And.intro; focus omega))
   rw [hI]
   refine ⟨⟨k + 1, hlt, h0, h1, rfl, by rw [hs, hd]; simp [c2], rfl⟩, ?_⟩
   first | omega | (simp only [↓slp, slb, ↓reduceIte, reduceCtorEq, jA, jB, jC, jD, jE, jF, jG, jH, jI, jJ, jK, h5, pI]; omega)
 ·have hlt : k = l.length := by simp at hb; omega
  subst hlt
  (repeat (first | refine aSeq fun X hX => ?_ | (first | refine aExit ?_ | refine aRet ?_); try simp only [slx, ↓reduceIte, jA, reduceCtorEq] | refine aReg ?_; simp -implicitDefEqProofs only [↓slp, slb] | apply hX; clear hX X | clear hX X; apply hX; clear hX X))
  simp only [aPost, Try.results90, aRes_n, aRes_t, aRes_c, pack_one, pack_two]
  have hv : findVar l s = -1 := by rw [hs]; simp [idxF]
  exact leave_same rfl ⟨by rw [hv]; rfl, rfl⟩
def DQR (df : DfT) (q : Qu) : Prop := ∀ m : M, ACalls Try.prog 46 [q.pv] m (fun v m' => v = .sl .no ((dfQ df q).map pS) ∧ m' = m)
def DBR (df : DfT) (V : List Va) (Q : List Qu) : Prop := ∀ m : M, ACalls Try.prog 42 [.ag [.sl .no (V.map Va.pv), .sl .no (Q.map Qu.pv)]] m (fun v m' => v = .sl .no ((df V Q).map pS) ∧ m' = m)
set_option maxHeartbeats 4000000 in
theorem rdefines_step {df : DfT} {wb : WbT} (q : Qu) (hw : wtQ wb q ≤ 2 ^ 30) (ha : ∀ a ∈ q.arms, (df a.vars a.eqs).length ≤ wb a.vars a.eqs ∧ DBR df a.vars a.eqs) : DQR df q := by
 have hG : ∀ k, (dfA df q.lhs (q.arms.take k)).length ≤ wtQ wb q := fun k => dfAk_len q k (fun a h => (ha a h).1)
 have hl : q.lhs.length ≤ 2 ^ 30 := by unfold wtQ at hw; omega
 intro m
 refine ACalls.enter (mu := []) ok_mix Try.func46 rfl (by kernel_rfl) (by kernel_rfl) (by simp only [List.length_cons, List.length_nil, Try.ntmps46]; omega) ?_
 (repeat (first | refine aSeq fun X hX => ?_ | refine aBlk ?_ | refine aReg ?_; simp -implicitDefEqProofs only [↓slp, ↓reduceIte, Ym] | apply hX; clear hX X))
 obtain ⟨I, hI⟩ : ∃ I : F → M → Prop, ∀ f m', I f m' = (∃ (k : Nat) (o : Own), k ≤ q.lhs.length ∧ f 1 = .ep q.cs ∧ f 3 = .sl o ((q.lhs.take k).map pS) ∧ f 4 = pI k ∧ Toks m m' ∧ Mine m m' o 1) := ⟨_, fun _ _ => rfl⟩
 refine aLoop I (fun f m => q.lhs.length - numOf (f 4)) ?_ ?_
 ·rw [hI]; exact ⟨0, .full, by omega, rfl, rfl, rfl, .refl _, .full⟩
 intro f m' hrel
 rw [hI] at hrel
 obtain ⟨k, o, hk, f1, f3, f4, htk, hmi⟩ := hrel
 cases c1 : decide ((k : Int) < (q.lhs.length : Int)) with
 | true =>
  have hlt : k < q.lhs.length := by simpa using c1
  have g0 := getD_map pS q.lhs k hlt
  have hi : IntKind.i64.wrap ((k : Int) + 1) = ((k + 1 : Nat) : Int) := by rw [wrap64 (by omega)]; omega
  have hme : numOf (f 4) = k := by rw [f4]; exact Int.toNat_natCast k
  have hfr := hmi.free
  have h11 := strsQ (q.lhs.take k)
  have hmx : (q.lhs.take k).length + 1 ≤ maxLen := by rw [List.length_take]; unfold maxLen; omega
  have hnx : q.lhs.take (k + 1) = q.lhs.take k ++ [q.lhs[k]] := List.take_succ_eq_append_getElem hlt
  have htl : (q.lhs.take k).length = k := by rw [List.length_take]; omega
  generalize q.lhs.take k = R at *
  generalize q.lhs[k] = s at *
  (repeat (first | refine aSeq fun X hX => ?_ | refine aBlk ?_ | refine aSkip ?_ | (first | apply aReg | apply aIf); simp -implicitDefEqProofs only [forall_eq, ↓slp, ↓reduceIte, reduceCtorEq, jA, jB, jC, jE, Ym, f1, f3, f4, pI, pS, c1, g0, hi, hlt] | apply hX; clear hX X | intro hlen; unfold maxLen at hlen | apply And.intro; focus ((repeat' apply And.intro) <;> first | omega | assumption)))
  rw [hI]
  exact ⟨⟨k + 1, .tok m'.nt, hlt, f1, by rw [hnx, List.map_append]; rfl, rfl, htk.use hmi, Mine.new htk o 1⟩, by omega⟩
 | false =>
  obtain rfl : k = q.lhs.length := by simp at c1; omega
  rw [List.take_length] at f3
  (repeat (first | refine aSeq fun X hX => ?_ | refine aBlk ?_ | refine aExit ?_; try simp only [slx, ↓reduceIte, jA, reduceCtorEq] | (first | apply aReg | apply aIf); simp -implicitDefEqProofs only [↓slp, ↓reduceIte, reduceCtorEq, jA, jB, jE, Ym, f1, f4, pI, c1] | apply hX; clear hX X | clear hX X; apply hX; clear hX X | intro hlen; unfold maxLen at hlen))
  clear I hI
  obtain ⟨I, hI⟩ : ∃ I : F → M → Prop, ∀ f m', I f m' = (∃ (k : Nat) (o : Own), k ≤ q.arms.length ∧ f 1 = .ep q.cs ∧ f 3 = .sl o ((dfA df q.lhs (q.arms.take k)).map pS) ∧ f 5 = pI k ∧ Toks m m') := ⟨_, fun _ _ => rfl⟩
  refine aLoop I (fun f m => q.arms.length - numOf (f 5)) ?_ ?_
  ·rw [hI]; exact ⟨0, o, by omega, f1, f3, rfl, htk⟩
  clear f1 f3 f4 htk hmi
  intro f m' hrel
  rw [hI] at hrel
  obtain ⟨k, o, hk, f1, f3, f5, htk⟩ := hrel
  have hlen2 := hG k
  cases c1 : decide ((k : Int) < (q.arms.length : Int)) with
  | false =>
   obtain rfl : k = q.arms.length := by simp at c1; omega
   rw [List.take_length] at f3
   (repeat (first | refine aSeq fun X hX => ?_ | (first | refine aExit ?_ | refine aRet ?_); try simp only [slx, ↓reduceIte, jA, reduceCtorEq] | (first | apply aReg | apply aIf); simp -implicitDefEqProofs only [↓slp, ↓reduceIte, reduceCtorEq, jA, jB, jE, Ym, f1, f3, f5, pI, c1] | apply hX; clear hX X | clear hX X; apply hX; clear hX X | intro hlen; unfold maxLen at hlen))
   simp only [aPost, Try.results46, aRes_n, aRes_t, aRes_c, pack_one, pack_two]
   simp -implicitDefEqProofs only [slb, ↓reduceIte]
   exact leave_toks0 htk rfl ⟨rfl, rfl⟩
  | true =>
   have hlt : k < q.arms.length := by simpa using c1
   have g0 := getD_map Am.pv q.arms k hlt
   have hme : numOf (f 5) = k := by rw [f5]; exact Int.toNat_natCast k
   have hb1 := (ha q.arms[k] (List.getElem_mem hlt)).2 m'
   have hrl : (df q.arms[k].vars q.arms[k].eqs).length ≤ 2 ^ 30 := Nat.le_trans (ha q.arms[k] (List.getElem_mem hlt)).1 (Nat.le_trans (wt_blk (List.getElem_mem hlt)) hw)
   have hnx := dfA_take (df := df) (l := q.lhs) hlt
   clear hG
   generalize hr0 : df q.arms[k].vars q.arms[k].eqs = r at *
   generalize hA0 : dfA df q.lhs (q.arms.take k) = A at *
   (repeat (first | refine aSeq fun X hX => ?_ | refine aSkip ?_ | (first | apply aReg | apply aIf); simp -implicitDefEqProofs only [↓slp, ↓reduceIte, reduceCtorEq, jA, jB, jE, Ym, f1, f5, pI, c1, g0] | apply hX; clear hX X | intro hlen; unfold maxLen at hlen | apply And.intro; focus omega))
   have hi : IntKind.i64.wrap ((k : Int) + 1) = ((k + 1 : Nat) : Int) := by rw [wrap64 (by omega)]; omega
   refine callM hb1 ?_
   rintro v mc ⟨rfl, rfl⟩
   simp -implicitDefEqProofs only [↓slp, slb, ↓reduceIte]
   (repeat (first | refine aSeq fun X hX => ?_ | refine aBlk ?_ | refine aReg ?_; simp -implicitDefEqProofs only [↓slp, slb] | apply hX; clear hX X))
   obtain ⟨J, hJ⟩ : ∃ J : F → M → Prop, ∀ f m', J f m' = (∃ (j : Nat) (o : Own), j ≤ r.length ∧ f 1 = .ep q.cs ∧ f 3 = .sl o ((addL A (r.take j)).map pS) ∧ f 5 = pI k ∧ f 6 = .sl .no (r.map pS) ∧ f 7 = pI j ∧ Toks m m') := ⟨_, fun _ _ => rfl⟩
   refine aLoop J (fun f m => r.length - numOf (f 7)) ?_ ?_
   ·rw [hJ]; exact ⟨0, o, by omega, f1, f3, f5, rfl, rfl, htk⟩
   clear f1 f3 f5 htk hb1
   intro f m' hrel
   rw [hJ] at hrel
   obtain ⟨j, o, hj, f1, f3, f5, f6, f7, htk⟩ := hrel
   cases c2 : decide ((j : Int) < (r.length : Int)) with
   | true =>
    have hltj : j < r.length := by simpa using c2
    have gj := getD_map pS r j hltj
    have hij : IntKind.i64.wrap ((j : Int) + 1) = ((j + 1 : Nat) : Int) := by rw [wrap64 (by omega)]; omega
    have hmej : numOf (f 7) = j := by rw [f7]; exact Int.toNat_natCast j
    have hlen3 := addL_len (r.take j) A
    have htk3 : (r.take j).length ≤ r.length := by rw [List.length_take]; omega
    (repeat (first | refine aSeq fun X hX => ?_ | refine aBlk ?_ | refine aSkip ?_ | (first | apply aReg | apply aIf); simp -implicitDefEqProofs only [↓slp, ↓reduceIte, reduceCtorEq, jA, jB, Ym, f3, f6, f7, pI, pS, c2, gj] | apply hX; clear hX X | intro hlen; unfold maxLen at hlen | apply And.intro; focus omega))
    refine callMS (rAdd_any (addL A (r.take j)) r[j] m' (by omega)) (by simp only [List.map_cons, List.map_nil, PV.settle, PV.settles]) ?_
    rintro v mc ⟨rfl, rfl⟩
    simp -implicitDefEqProofs only [↓slp, slb, ↓reduceIte]
    (repeat (first | refine aReg ?_; simp -implicitDefEqProofs only [↓slp, slb, ↓reduceIte, jA, f7, pI, hij] | apply hX; clear hX X))
    rw [hJ]
    exact ⟨⟨j + 1, .no, hltj, f1, by rw [addL_take hltj]; rfl, f5, f6, rfl, htk⟩, by omega⟩
   | false =>
    obtain rfl : j = r.length := by simp at c2; omega
    rw [List.take_length] at f3
    (repeat (first | refine aSeq fun X hX => ?_ | refine aExit ?_; try simp only [slx, ↓reduceIte, jA, reduceCtorEq] | (first | apply aReg | apply aIf); simp -implicitDefEqProofs only [↓slp, ↓reduceIte, jA, Ym, f5, hi, f6, f7, pI, c2] | apply hX; clear hX X | clear hX X; apply hX; clear hX X | intro hlen; unfold maxLen at hlen))
    rw [hI]
    exact ⟨⟨k + 1, o, hlt, f1, by rw [hnx]; exact f3, rfl, htk⟩, by omega⟩
set_option maxHeartbeats 4000000 in
theorem rbdefines_step {df : DfT} {wb : WbT} (V : List Va) (Q : List Qu) (hw : wtB wb V Q ≤ 2 ^ 30) (hA : ∀ q ∈ Q, ∀ a ∈ q.arms, (df a.vars a.eqs).length ≤ wb a.vars a.eqs ∧ DBR df a.vars a.eqs) : DBR (dfBl df) V Q := by
 have hdq : ∀ q ∈ Q, (dfQ df q).length ≤ wtQ wb q := fun q hq => dfQ_len q (fun a h => (hA q hq a h).1)
 have hG : ∀ k, (dfBl df V (Q.take k)).length ≤ wtB wb V Q := fun k => dfBk_len V Q k hdq
 intro m
 refine ACalls.enter (mu := []) ok_mix Try.func42 rfl (by kernel_rfl) (by kernel_rfl) (by simp only [List.length_cons, List.length_nil, Try.ntmps42]; omega) ?_
 (repeat (first | refine aSeq fun X hX => ?_ | refine aBlk ?_ | refine aReg ?_; simp -implicitDefEqProofs only [↓slp, ↓reduceIte, Ym] | apply hX; clear hX X))
 obtain ⟨I, hI⟩ : ∃ I : F → M → Prop, ∀ f m', I f m' = (∃ (k : Nat) (o : Own), k ≤ Q.length ∧ f 1 = .ep [.sl .no (V.map Va.pv), .sl .no (Q.map Qu.pv)] ∧ f 3 = .sl o ((dfBl df V (Q.take k)).map pS) ∧ f 4 = pI k ∧ m' = m) := ⟨_, fun _ _ => rfl⟩
 refine aLoop I (fun f m => Q.length - numOf (f 4)) ?_ ?_
 ·rw [hI]; exact ⟨0, .full, by omega, rfl, rfl, rfl, rfl⟩
 intro f m' hrel
 rw [hI] at hrel
 obtain ⟨k, o, hk, f1, f3, f4, rfl⟩ := hrel
 have hg := hG k
 cases c1 : decide ((k : Int) < (Q.length : Int)) with
 | false =>
  obtain rfl : k = Q.length := by simp at c1; omega
  rw [List.take_length] at f3
  (repeat (first | refine aSeq fun X hX => ?_ | (first | refine aExit ?_ | refine aRet ?_); try simp only [slx, ↓reduceIte, jA, reduceCtorEq] | (first | apply aReg | apply aIf); simp -implicitDefEqProofs only [↓slp, ↓reduceIte, reduceCtorEq, jA, jB, jE, Ym, f1, f3, f4, pI, c1] | apply hX; clear hX X | clear hX X; apply hX; clear hX X | intro hlen; unfold maxLen at hlen))
  simp only [aPost, Try.results42, aRes_n, aRes_t, aRes_c, pack_one, pack_two]
  simp -implicitDefEqProofs only [slb, ↓reduceIte]
  exact leave_same rfl ⟨rfl, rfl⟩
 | true =>
  have hlt : k < Q.length := by simpa using c1
  have g0 := getD_map Qu.pv Q k hlt
  have hme : numOf (f 4) = k := by rw [f4]; exact Int.toNat_natCast k
  have hb := rdefines_step Q[k] (Nat.le_trans (wt_eq (List.getElem_mem hlt)) hw) (hA Q[k] (List.getElem_mem hlt)) m'
  have hrl : (dfQ df Q[k]).length ≤ 2 ^ 30 := Nat.le_trans (hdq Q[k] (List.getElem_mem hlt)) (Nat.le_trans (wt_eq (List.getElem_mem hlt)) hw)
  clear hG hdq
  have hnx := dfBl_take (df := df) (V := V) hlt
  rw [Qu.pv_eq] at hb
  generalize hr0 : dfQ df Q[k] = r at *
  generalize hA0 : dfBl df V (Q.take k) = A at *
  (repeat (first | refine aSeq fun X hX => ?_ | refine aSkip ?_ | (first | apply aReg | apply aIf); simp -implicitDefEqProofs only [↓slp, ↓reduceIte, reduceCtorEq, jA, jB, jE, Ym, f1, f4, pI, c1, g0] | apply hX; clear hX X | intro hlen; unfold maxLen at hlen | apply And.intro; focus omega))
  have hi : IntKind.i64.wrap ((k : Int) + 1) = ((k + 1 : Nat) : Int) := by rw [wrap64 (by omega)]; omega
  refine callM hb ?_
  rintro v mc ⟨rfl, rfl⟩
  simp -implicitDefEqProofs only [↓slp, slb, ↓reduceIte]
  (repeat (first | refine aSeq fun X hX => ?_ | refine aBlk ?_ | refine aReg ?_; simp -implicitDefEqProofs only [↓slp, slb] | apply hX; clear hX X))
  obtain ⟨J, hJ⟩ : ∃ J : F → M → Prop, ∀ f m2, J f m2 = (∃ (j : Nat) (o : Own), j ≤ r.length ∧ f 1 = .ep [.sl .no (V.map Va.pv), .sl .no (Q.map Qu.pv)] ∧ f 3 = .sl o ((addV V A (r.take j)).map pS) ∧ f 4 = pI k ∧ f 5 = .sl .no (r.map pS) ∧ f 6 = pI j ∧ m2 = mc) := ⟨_, fun _ _ => rfl⟩
  refine aLoop J (fun f m => r.length - numOf (f 6)) ?_ ?_
  ·rw [hJ]; exact ⟨0, o, by omega, f1, f3, f4, rfl, rfl, rfl⟩
  clear f1 f3 f4 hb
  intro f m2 hrel
  rw [hJ] at hrel
  obtain ⟨j, o, hj, f1, f3, f4, f5, f6, rfl⟩ := hrel
  cases c2 : decide ((j : Int) < (r.length : Int)) with
  | true =>
   have hltj : j < r.length := by simpa using c2
   have gj := getD_map pS r j hltj
   have hij : IntKind.i64.wrap ((j : Int) + 1) = ((j + 1 : Nat) : Int) := by rw [wrap64 (by omega)]; omega
   have hmej : numOf (f 6) = j := by rw [f6]; exact Int.toNat_natCast j
   have hlen3 := addV_len V (r.take j) A
   have htk3 : (r.take j).length ≤ r.length := by rw [List.length_take]; omega
   have hstp := addV_take (V := V) (l := A) hltj
   (repeat (first | refine aSeq fun X hX => ?_ | refine aSkip ?_ | (first | apply aReg | apply aIf); simp -implicitDefEqProofs only [↓slp, ↓reduceIte, reduceCtorEq, jA, Ym, f5, f6, pI, c2] | apply hX; clear hX X | intro hlen; unfold maxLen at hlen))
   (repeat (refine aDrE ?_; simp -implicitDefEqProofs only [↓slp, ↓reduceIte, reduceCtorEq, jA, jB, jE, Ym, f1, f5, f6, pI, pS, gj, hltj]))
   refine callE (rFind_any _ V r[j] _) ?_
   rcases findVar_spec V r[j] with ⟨h1, h2⟩ | ⟨i, hiV, h1, h2, _⟩
   ·have c3 : decide ((-1 : Int) < 0) = true := rfl
    have hs1 : addV1 V (addV V A (r.take j)) r[j] = addS (addV V A (r.take j)) r[j] := by unfold addV1; rw [if_pos (by rw [h1]; omega)]
    rw [h1]
    refine ⟨rfl, ?_⟩
    simp -implicitDefEqProofs only [↓slp, slb, ↓reduceIte, jI, pI]
    (repeat (first | (first | apply aReg | apply aIf); simp -implicitDefEqProofs only [↓slp, ↓reduceIte, reduceCtorEq, jA, jB, Ym, f3, f5, f6, pI, pS, gj, hltj] | apply hX; clear hX X))
    refine callMS (rAdd_any (addV V A (r.take j)) r[j] m2 (by omega)) (by simp only [List.map_cons, List.map_nil, PV.settle, PV.settles]) ?_
    rintro v mc ⟨rfl, rfl⟩
    simp -implicitDefEqProofs only [↓slp, slb, ↓reduceIte]
    (repeat (first | refine aReg ?_; simp -implicitDefEqProofs only [↓slp, slb, ↓reduceIte, jA, f6, pI, hij] | apply hX; clear hX X))
    rw [hJ]
    exact ⟨⟨j + 1, .no, hltj, f1, by rw [hstp, hs1]; rfl, f4, f5, rfl, rfl⟩, by omega⟩
   ·have c3 : decide (((i : Nat) : Int) < 0) = false := by simp
    have hs1 : addV1 V (addV V A (r.take j)) r[j] = addV V A (r.take j) := by unfold addV1; rw [if_neg (by rw [h1]; omega)]
    rw [h1]
    refine ⟨rfl, ?_⟩
    simp -implicitDefEqProofs only [↓slp, slb, ↓reduceIte, pI, c3]
    (repeat (first | refine aSkip ?_ | (first | apply aReg | apply aIf); simp -implicitDefEqProofs only [↓slp, slb, ↓reduceIte, jA, f6, pI, hij] | apply hX; clear hX X))
    rw [hJ]
    exact ⟨⟨j + 1, o, hltj, f1, by rw [hstp, hs1]; exact f3, f4, f5, rfl, rfl⟩, by omega⟩
  | false =>
   obtain rfl : j = r.length := by simp at c2; omega
   rw [List.take_length] at f3
   (repeat (first | refine aSeq fun X hX => ?_ | refine aExit ?_; try simp only [slx, ↓reduceIte, jA, reduceCtorEq] | (first | apply aReg | apply aIf); simp -implicitDefEqProofs only [↓slp, ↓reduceIte, jA, Ym, f4, hi, f5, f6, pI, c2] | apply hX; clear hX X | clear hX X; apply hX; clear hX X | intro hlen; unfold maxLen at hlen))
   rw [hI]
   exact ⟨⟨k + 1, o, hlt, f1, by rw [hnx]; exact f3, rfl, rfl⟩, by omega⟩
theorem rbdefines_any : ∀ (d : Nat) (V : List Va) (Q : List Qu), DpB d Q → wtF d V Q ≤ 2 ^ 30 → DBR (dfF d) V Q
 | 0, V, Q, h, hw => rbdefines_step (df := fun _ _ => []) (wb := fun _ _ => 0) V Q hw (fun q hq a ha => by rw [h q hq] at ha; cases ha)
 | d + 1, V, Q, h, hw => rbdefines_step (df := dfF d) (wb := wtF d) V Q hw (fun q hq a ha => ⟨(bdefines_any d a.vars a.eqs (h q hq a ha) (Nat.le_trans (wt_blk ha) (Nat.le_trans (wt_eq hq) hw))).1, rbdefines_any d a.vars a.eqs (h q hq a ha) (Nat.le_trans (wt_blk ha) (Nat.le_trans (wt_eq hq) hw))⟩)
theorem rdefines_any (d : Nat) (q : Qu) (h : ∀ a ∈ q.arms, DpB d a.eqs) (hw : wtQ (wtF d) q ≤ 2 ^ 30) : DQR (dfF d) q :=
 rdefines_step (wb := wtF d) q hw (fun a ha => ⟨(bdefines_any d a.vars a.eqs (h a ha) (Nat.le_trans (wt_blk ha) hw)).1, rbdefines_any d a.vars a.eqs (h a ha) (Nat.le_trans (wt_blk ha) hw)⟩)
end Go.Proofs.Ytibhhoknipdlpaa
