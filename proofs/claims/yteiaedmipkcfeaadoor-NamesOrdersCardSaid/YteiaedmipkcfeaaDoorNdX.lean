/-
  Texts that belong together: NdR, NdO.
-/
import Derived.Test.YteiaedmipkcfeaaDoorNmT
import Derived.Test.YteiaedmipkcfeaaDoorAbMk8c
/-
  The reference's Node, Calls and Needs.
-/
set_option linter.unusedVariables false
set_option linter.unusedSimpArgs false
namespace Go.Proofs.YteiaedmipkcfeaaDoor
open Nat renaming reduceEqDiff → jA, reduceAdd → jB, reduceMul → jC, reduceLT → jD, reduceLeDiff → jE, reduceBEq → jF, reduceBNe → jG
open Int renaming reduceLE → jH, reduceLT → jI, reduceToNat → jJ, reduceEq → jK
open Go
-- EXX: Qu.settle_pv, Qu.pure_pv, Qu.cells_pv, Qu.cs, No.settle_pv, No.pure_pv, No.cells_pv, No.cs, No.pv.eq_1
set_option maxRecDepth 20000
-- TNAMES: int; uint8; int32; string; bool; []string; []api.Expr; api.Expr; api.Pos; api.Type; api.On; []api.On; api.Var; []api.Var; api.Equation; []api.Equation; api.Block; api.Trans; []api.Trans; api.Arm; []api.Arm; api.Node; []api.Node; api.Enum; []api.Enum; api.Program
set_option linter.defProp false
def tfNdR := And.intro @tfA (And.intro @Ex.settle_pv (And.intro @Ex.pure_pv (And.intro @Ex.cells_pv (And.intro @Ex.cs.eq_1 (And.intro @On.pv.eq_1 (And.intro @Ty.pv.eq_1 (And.intro @Va.settle_pv (And.intro @Va.pure_pv (And.intro @Va.cells_pv (And.intro @Va.cs.eq_1 (And.intro @Qu.settle_pv (And.intro @Qu.pure_pv (And.intro @Qu.cells_pv (And.intro @Qu.cs.eq_1 (And.intro @No.settle_pv (And.intro @No.pure_pv (And.intro @No.cells_pv (And.intro @No.cs.eq_1 @No.pv.eq_1))))))))))))))))))

set_option maxRecDepth 20000 in
set_option maxHeartbeats 400000 in
theorem rHas_any (o : Own) (l : List Str) (s : Str) (m : M) : ACalls Tryd.prog 20 [.sl o (l.map pS), pS s] m (fun v m' => v = pB (hasS l s) ∧ m' = m) := by
  refine ACalls.enter (mu := []) ok_mix Tryd.func20 rfl (by kernel_rfl) (by kernel_rfl) (by simp only [List.length_cons, List.length_nil, Tryd.ntmps20]; omega) ?_
  (repeat (first | refine aSeq fun X hX => ?_ | refine aBlk ?_ | refine aSkip ?_ | (first | refine aExit ?_ | refine aRet ?_); try simp only [slx, ↓reduceIte, Nat.reduceEqDiff, reduceCtorEq] | (first | refine aReg ?_ | refine aDrE ?_); simp -implicitDefEqProofs only [forall_eq, ↓slp, slb, ↓reduceIte, reduceCtorEq, jA, jB, jC, jD, jE, jF, jG, jH, jI, jJ, jK, tfNdR]; try simp only [Ex.fold, Ex.foldcs, ← Va.pv.eq_1] | refine hX _ _ ?_; clear hX X | clear hX X; refine hX _ _ ?_; clear hX X | clear hX X; clear hX X; refine hX _ _ ?_; clear hX X | intro hlen; unfold maxLen at hlen | apply And.intro; focus (first | omega | assumption | (repeat' apply And.intro) <;> first | omega | assumption)))
  obtain ⟨I, hI⟩ : ∃ I : F → M → Prop, ∀ f m', I f m' = (∃ k : Nat, k ≤ l.length ∧ f 0 = .sl o (l.map pS) ∧ f 1 = pS s ∧ f 5 = pI k ∧ hasS l s = hasS (l.drop k) s ∧ m' = m) := ⟨_, fun _ _ => rfl⟩
  refine aLoop I (fun f m => l.length - numOf (f 5)) ?_ ?_
  · rw [hI]; exact ⟨0, by omega, rfl, rfl, rfl, rfl, rfl⟩
  intro f m' hrel
  rw [hI] at hrel
  obtain ⟨k, hk, h0, h1, h5, hs, rfl⟩ := hrel
  (repeat (first | refine aSeq fun X hX => ?_ | refine aBlk ?_ | refine aSkip ?_ | (first | refine aExit ?_ | refine aRet ?_); try simp only [slx, ↓reduceIte, Nat.reduceEqDiff, reduceCtorEq] | (first | refine aReg ?_ | refine aDrE ?_); simp -implicitDefEqProofs only [forall_eq, ↓slp, slb, ↓reduceIte, reduceCtorEq, jA, jB, jC, jD, jE, jF, jG, jH, jI, jJ, jK, tfNdR, h0, h5, pI]; try simp only [Ex.fold, Ex.foldcs, ← Va.pv.eq_1] | refine hX _ _ ?_; clear hX X | clear hX X; refine hX _ _ ?_; clear hX X | clear hX X; clear hX X; refine hX _ _ ?_; clear hX X | intro hlen; unfold maxLen at hlen | apply And.intro; focus (first | omega | assumption | (repeat' apply And.intro) <;> first | omega | assumption)))
  refine aIf ?_; simp -implicitDefEqProofs only [↓slp, slb, ↓reduceIte, reduceCtorEq, jA, jB, jC, jD, jE, jF, jG, jH, jI, jJ, jK]; refine ⟨fun hb => ?_, fun hb => ?_⟩
  · have hlt : k < l.length := by simpa using hb
    have g0 := getD_map pS l k hlt
    have hi : IntKind.i64.wrap ((k : Int) + 1) = ((k + 1 : Nat) : Int) := by rw [wrap64 (by omega)]; omega
    have hd := hasS_drop l s k hlt
    cases c1 : (l[k].toList == s.toList) with
    | true =>
      have c2 : eqS l[k] s = true := c1
      (repeat (first | refine aSeq fun X hX => ?_ | refine aBlk ?_ | refine aSkip ?_ | (first | refine aExit ?_ | refine aRet ?_); try simp only [slx, ↓reduceIte, Nat.reduceEqDiff, reduceCtorEq] | (first | refine aReg ?_ | refine aDrE ?_ | refine aIf ?_); simp -implicitDefEqProofs only [forall_eq, ↓slp, slb, ↓reduceIte, reduceCtorEq, jA, jB, jC, jD, jE, jF, jG, jH, jI, jJ, jK, tfNdR, h0, h1, h5, pI, pS, g0, c1]; try simp only [Ex.fold, Ex.foldcs, ← Va.pv.eq_1] | refine hX _ _ ?_; clear hX X | clear hX X; refine hX _ _ ?_; clear hX X | clear hX X; clear hX X; refine hX _ _ ?_; clear hX X | intro hlen; unfold maxLen at hlen | apply And.intro; focus (first | omega | assumption | (repeat' apply And.intro) <;> first | omega | assumption)))
      simp only [aPost, Tryd.results20, aRes_n, aRes_t, aRes_c, pack_one, pack_two]
      have hv : hasS l s = true := by rw [hs, hd, c2]; rfl
      exact leave_same rfl ⟨by rw [hv]; rfl, rfl⟩
    | false =>
      have c2 : eqS l[k] s = false := c1
      (repeat (first | refine aSeq fun X hX => ?_ | refine aBlk ?_ | refine aSkip ?_ | (first | refine aExit ?_ | refine aRet ?_); try simp only [slx, ↓reduceIte, Nat.reduceEqDiff, reduceCtorEq] | (first | refine aReg ?_ | refine aDrE ?_ | refine aIf ?_); simp -implicitDefEqProofs only [forall_eq, ↓slp, slb, ↓reduceIte, reduceCtorEq, jA, jB, jC, jD, jE, jF, jG, jH, jI, jJ, jK, tfNdR, h0, h1, h5, pI, pS, g0, c1, hi]; try simp only [Ex.fold, Ex.foldcs, ← Va.pv.eq_1] | refine hX _ _ ?_; clear hX X | clear hX X; refine hX _ _ ?_; clear hX X | clear hX X; clear hX X; refine hX _ _ ?_; clear hX X | intro hlen; unfold maxLen at hlen | apply And.intro; focus (first | omega | assumption | (repeat' apply And.intro) <;> first | omega | assumption)))
      rw [hI]
      exact ⟨⟨k + 1, hlt, h0, h1, rfl, by rw [hs, hd, c2]; rfl, rfl⟩, by omega⟩
  · have hlt : k = l.length := by simp at hb; omega
    subst hlt
    (repeat (first | refine aSeq fun X hX => ?_ | refine aBlk ?_ | refine aSkip ?_ | (first | refine aExit ?_ | refine aRet ?_); try simp only [slx, ↓reduceIte, Nat.reduceEqDiff, reduceCtorEq] | (first | refine aReg ?_ | refine aDrE ?_ | refine aIf ?_); simp -implicitDefEqProofs only [forall_eq, ↓slp, slb, ↓reduceIte, reduceCtorEq, jA, jB, jC, jD, jE, jF, jG, jH, jI, jJ, jK, tfNdR]; try simp only [Ex.fold, Ex.foldcs, ← Va.pv.eq_1] | refine hX _ _ ?_; clear hX X | clear hX X; refine hX _ _ ?_; clear hX X | clear hX X; clear hX X; refine hX _ _ ?_; clear hX X | intro hlen; unfold maxLen at hlen | apply And.intro; focus (first | omega | assumption | (repeat' apply And.intro) <;> first | omega | assumption)))
    simp only [aPost, Tryd.results20, aRes_n, aRes_t, aRes_c, pack_one, pack_two]
    have hv : hasS l s = false := by rw [hs, List.drop_length]; exact hasS_nil s
    exact leave_same rfl ⟨by rw [hv]; rfl, rfl⟩

set_option maxRecDepth 20000 in
set_option maxHeartbeats 400000 in
theorem rAdd_any (l : List Str) (s : Str) (m : M) (hlen : l.length < 2 ^ 40) : ACalls Tryd.prog 66 [.sl .no (l.map pS), pS s] m (fun v m' => v = .sl .no ((addS l s).map pS) ∧ m' = m) := by
  have h1 := strs_one l
  have h2 : l.length ≤ maxLen := by unfold maxLen; omega
  have h3 : l.length + 1 ≤ maxLen := by unfold maxLen; omega
  have h5 : (m.fresh 1).alive m.nt 1 := by simp [M.alive, M.fresh, M.nt]
  refine ACalls.enter (mu := []) ok_mix Tryd.func66 rfl (by kernel_rfl) (by kernel_rfl) (by simp only [List.length_cons, List.length_nil, Tryd.ntmps66]; omega) ?_
  (repeat (first | refine aSeq fun X hX => ?_ | refine aBlk ?_ | refine aSkip ?_ | (first | refine aExit ?_ | refine aRet ?_); try simp only [slx, ↓reduceIte, Nat.reduceEqDiff, reduceCtorEq] | (first | refine aReg ?_ | refine aDrE ?_ | refine aIf ?_); simp -implicitDefEqProofs only [forall_eq, ↓slp, slb, ↓reduceIte, reduceCtorEq, jA, jB, jC, jD, jE, jF, jG, jH, jI, jJ, jK, tfNdR]; try simp only [Ex.fold, Ex.foldcs, ← Va.pv.eq_1] | refine hX _ _ ?_; clear hX X | clear hX X; refine hX _ _ ?_; clear hX X | clear hX X; clear hX X; refine hX _ _ ?_; clear hX X | intro hlen; unfold maxLen at hlen | apply And.intro; focus (first | omega | assumption | (repeat' apply And.intro) <;> first | omega | assumption)))
  refine callE (rHas_any .no l s m) ?_
  simp -implicitDefEqProofs only [↓slp, slb, ↓reduceIte, reduceCtorEq, jA, jB, jC, jD, jE, jF, jG, jH, jI, jJ, jK, tfNdR]; try simp only [Ex.fold, Ex.foldcs, ← Va.pv.eq_1]
  cases c : hasS l s with
  | true =>
    have hv : addS l s = l := by unfold addS; rw [c]; rfl
    (repeat (first | refine aSeq fun X hX => ?_ | refine aBlk ?_ | refine aSkip ?_ | (first | refine aExit ?_ | refine aRet ?_); try simp only [slx, ↓reduceIte, Nat.reduceEqDiff, reduceCtorEq] | (first | refine aReg ?_ | refine aDrE ?_ | refine aIf ?_); simp -implicitDefEqProofs only [forall_eq, ↓slp, slb, ↓reduceIte, reduceCtorEq, jA, jB, jC, jD, jE, jF, jG, jH, jI, jJ, jK, tfNdR, c, pB]; try simp only [Ex.fold, Ex.foldcs, ← Va.pv.eq_1] | refine hX _ _ ?_; clear hX X | clear hX X; refine hX _ _ ?_; clear hX X | clear hX X; clear hX X; refine hX _ _ ?_; clear hX X | intro hlen; unfold maxLen at hlen | apply And.intro; focus (first | omega | assumption | (repeat' apply And.intro) <;> first | omega | assumption)))
    simp only [aPost, Tryd.results66, aRes_n, aRes_t, aRes_c, pack_one, pack_two]
    exact leave_same rfl ⟨by rw [hv]; rfl, rfl⟩
  | false =>
    have hv : addS l s = l ++ [s] := by unfold addS; rw [c]; rfl
    (repeat (first | refine aSeq fun X hX => ?_ | refine aBlk ?_ | refine aSkip ?_ | (first | refine aExit ?_ | refine aRet ?_); try simp only [slx, ↓reduceIte, Nat.reduceEqDiff, reduceCtorEq] | (first | refine aReg ?_ | refine aDrE ?_ | refine aIf ?_); simp -implicitDefEqProofs only [forall_eq, ↓slp, slb, ↓reduceIte, reduceCtorEq, jA, jB, jC, jD, jE, jF, jG, jH, jI, jJ, jK, tfNdR, c, pB, pS]; try simp only [Ex.fold, Ex.foldcs, ← Va.pv.eq_1] | refine hX _ _ ?_; clear hX X | clear hX X; refine hX _ _ ?_; clear hX X | clear hX X; clear hX X; refine hX _ _ ?_; clear hX X | intro hlen; unfold maxLen at hlen | apply And.intro; focus (first | omega | assumption | (repeat' apply And.intro) <;> first | omega | assumption)))
    simp only [aPost, Tryd.results66, aRes_n, aRes_t, aRes_c, pack_one, pack_two]
    simp -implicitDefEqProofs only [↓slp, slb, ↓reduceIte, reduceCtorEq, jA, jB, jC, jD, jE, jF, jG, jH, jI, jJ, jK, tfNdR]; try simp only [Ex.fold, Ex.foldcs, ← Va.pv.eq_1]
    have t1 : Toks m (m.fresh 1) := (Toks.refl m).use (o := .full) (s := 1) (s' := 1) Mine.full
    have t2 : Toks m (((m.fresh 1).kill m.nt).fresh 1) := t1.use (o := .tok m.nt) (s := 1) (Mine.new (o := .full) (Toks.refl m) 1)
    exact leave_toks0 t2 rfl ⟨by rw [hv, List.map_append]; rfl, rfl⟩

theorem addL_addS (l : List Str) (a : List Str) (s : Str) : addL l (addS a s) = addS (addL l a) s := by
  unfold addS
  cases c : hasS a s with
  | true =>
    rw [if_pos rfl]
    have hm : s ∈ addL l a := by
      have hsa := (hasS_iff s a).1 c
      clear c
      induction a generalizing l with
      | nil => simp at hsa
      | cons b r ih =>
        show s ∈ addL (addS l b) r
        rcases List.mem_cons.1 hsa with rfl | h
        · obtain ⟨t, ht⟩ := addL_app r (addS l s)
          rw [ht]
          refine List.mem_append_left _ ?_
          unfold addS
          split
          · rename_i h; exact (hasS_iff s l).1 h
          · simp
        · exact ih (addS l b) h
    rw [if_pos ((hasS_iff _ _).2 hm)]
  | false =>
    rw [if_neg (by simp)]
    unfold addL
    rw [List.foldl_append]
    rfl
theorem addL_addL (l : List Str) : ∀ (r a : List Str), addL l (addL a r) = addL (addL l a) r
  | [], a => rfl
  | s :: r, a => by
    have h1 : addL a (s :: r) = addL (addS a s) r := rfl
    have h2 : addL (addL l a) (s :: r) = addL (addS (addL l a) s) r := rfl
    rw [h1, h2, addL_addL l r (addS a s), addL_addS]
/-- Equations without arms: their calls one by one are their calls at once. -/
theorem flat_fold : ∀ (Q : List Qu) (l a : List Str), (∀ q ∈ Q, q.arms = []) → Q.foldl (callsQ (fun _ => [])) (addL l a) = addL l (Q.foldl (callsQ (fun _ => [])) a)
  | [], l, a, h => rfl
  | q :: r, l, a, h => by
    have ha := h q (List.mem_cons_self ..)
    have e : ∀ x, callsQ (fun _ => []) x q = if q.kind = 2 then addS x q.name else x := fun x => by unfold callsQ callsA; rw [ha]; rfl
    rw [List.foldl_cons, List.foldl_cons, e, e]
    split
    · rw [← addL_addS]
      exact flat_fold r l _ (fun q hq => h q (List.mem_cons_of_mem _ hq))
    · exact flat_fold r l _ (fun q hq => h q (List.mem_cons_of_mem _ hq))
theorem flat_calls (Q : List Qu) (l : List Str) (h : ∀ q ∈ Q, q.arms = []) : Q.foldl (callsQ (fun _ => [])) l = addL l (callsF 0 Q) := flat_fold Q l [] h
theorem eqS_comm (a b : Str) : eqS a b = eqS b a := by
  cases h : eqS a b with
  | true => rw [eqS_iff] at h; subst h; exact (eqS_iff.2 rfl).symm
  | false =>
    cases h2 : eqS b a with
    | true => rw [eqS_iff] at h2; subst h2; rw [eqS_iff.2 rfl] at h; cases h
    | false => rfl
set_option maxHeartbeats 1000000 in
theorem rNode_any (es : List PV) (ns : List No) (hns : ns.length ≤ 1000000) (s : Str) (m : M) : ACalls Tryd.prog 33 [.ag [.sl .no es, .sl .no (ns.map No.pv)], pS s] m (fun v m' => v = pI (idxF (fun n : No => eqS n.name s) ns 0) ∧ m' = m) := by
  refine ACalls.enter (mu := []) ok_mix Tryd.func33 rfl (by kernel_rfl) (by kernel_rfl) (by simp only [List.length_cons, List.length_nil, Tryd.ntmps33]; omega) ?_
  (repeat (first | refine aSeq fun X hX => ?_ | refine aBlk ?_ | refine aSkip ?_ | (first | refine aExit ?_ | refine aRet ?_); try simp only [slx, ↓reduceIte, Nat.reduceEqDiff, reduceCtorEq] | (first | refine aReg ?_ | refine aIf ?_); simp -implicitDefEqProofs only [forall_eq, ↓slp, slb, ↓reduceIte, reduceCtorEq, jA, jB, jC, jD, jE, jF, jG, jH, jI, jJ, jK, tfNdR, pS]; try simp only [Ex.fold, Ex.foldcs, ← Va.pv.eq_1] | refine hX _ _ ?_; clear hX X | clear hX X; refine hX _ _ ?_; clear hX X | clear hX X; clear hX X; refine hX _ _ ?_; clear hX X | intro hlen; unfold maxLen at hlen | apply And.intro; focus (first | omega | assumption | (repeat' apply And.intro) <;> first | omega | assumption)))
  obtain ⟨I, hI⟩ : ∃ I : F → M → Prop, ∀ f m', I f m' = (∃ k : Nat, k ≤ ns.length ∧ f 1 = pS s ∧ f 2 = .ep [.sl .no es, .sl .no (ns.map No.pv)] ∧ f 5 = pI k ∧ idxF (fun n : No => eqS n.name s) ns 0 = idxF (fun n : No => eqS n.name s) (ns.drop k) k ∧ m = m') := ⟨_, fun _ _ => rfl⟩
  refine aLoop I (fun f m => ns.length - numOf (f 5)) ?_ ?_
  · rw [hI]; exact ⟨0, by omega, rfl, rfl, rfl, rfl, rfl⟩
  intro f m' hrel
  rw [hI] at hrel
  obtain ⟨k, hk, f1, f2, f5, hs, rfl⟩ := hrel
  cases c1 : decide ((k : Int) < (ns.length : Int)) with
  | false =>
    have hkk : k = ns.length := by simp at c1; omega
    subst hkk
    (repeat (first | refine aSeq fun X hX => ?_ | refine aBlk ?_ | refine aSkip ?_ | (first | refine aExit ?_ | refine aRet ?_); try simp only [slx, ↓reduceIte, Nat.reduceEqDiff, reduceCtorEq] | (first | refine aReg ?_ | refine aIf ?_); simp -implicitDefEqProofs only [forall_eq, ↓slp, slb, ↓reduceIte, reduceCtorEq, jA, jB, jC, jD, jE, jF, jG, jH, jI, jJ, jK, tfNdR, f1, f2, f5, pI, c1]; try simp only [Ex.fold, Ex.foldcs, ← Va.pv.eq_1] | refine hX _ _ ?_; clear hX X | clear hX X; refine hX _ _ ?_; clear hX X | clear hX X; clear hX X; refine hX _ _ ?_; clear hX X | intro hlen; unfold maxLen at hlen | apply And.intro; focus (first | omega | assumption | (repeat' apply And.intro) <;> first | omega | assumption)))
    simp only [aPost, Tryd.results33, aRes_n, aRes_t, aRes_c, pack_one, pack_two]
    have hv : idxF (fun n : No => eqS n.name s) ns 0 = -1 := by rw [hs, List.drop_length]; rfl
    exact leave_same rfl ⟨by rw [hv]; rfl, rfl⟩
  | true =>
    have hlt : k < ns.length := by simpa using c1
    have g0 := getD_map No.pv ns k hlt
    have hi : IntKind.i64.wrap ((k : Int) + 1) = ((k + 1 : Nat) : Int) := by rw [wrap64 (by omega)]; omega
    have hme : numOf (f 5) = k := by rw [f5]; exact Int.toNat_natCast k
    have hd := idxF_drop (p := fun n : No => eqS n.name s) hlt
    rw [hd] at hs
    generalize ns[k] = n at *
    (repeat (first | refine aSeq fun X hX => ?_ | refine aBlk ?_ | refine aSkip ?_ | (first | refine aExit ?_ | refine aRet ?_); try simp only [slx, ↓reduceIte, Nat.reduceEqDiff, reduceCtorEq] | (first | refine aReg ?_ | refine aIf ?_); simp -implicitDefEqProofs only [forall_eq, ↓slp, slb, ↓reduceIte, reduceCtorEq, jA, jB, jC, jD, jE, jF, jG, jH, jI, jJ, jK, tfNdR, f1, f2, f5, pI, pS, c1, g0]; try simp only [Ex.fold, Ex.foldcs, ← Va.pv.eq_1] | refine hX _ _ ?_; clear hX X | clear hX X; refine hX _ _ ?_; clear hX X | clear hX X; clear hX X; refine hX _ _ ?_; clear hX X | intro hlen; unfold maxLen at hlen | apply And.intro; focus (first | omega | assumption | (repeat' apply And.intro) <;> first | omega | assumption)))
    cases c2 : (n.name.toList == s.toList) with
    | true =>
      have c3 : eqS n.name s = true := c2
      rw [c3, if_pos rfl] at hs
      simp -implicitDefEqProofs only [↓slp, slb, ↓reduceIte, reduceCtorEq, jA, jB, jC, jD, jE, jF, jG, jH, jI, jJ, jK, tfNdR, c2]; try simp only [Ex.fold, Ex.foldcs, ← Va.pv.eq_1]
      (repeat (first | refine aSeq fun X hX => ?_ | refine aBlk ?_ | refine aSkip ?_ | (first | refine aExit ?_ | refine aRet ?_); try simp only [slx, ↓reduceIte, Nat.reduceEqDiff, reduceCtorEq] | (first | refine aReg ?_ | refine aIf ?_); simp -implicitDefEqProofs only [forall_eq, ↓slp, slb, ↓reduceIte, reduceCtorEq, jA, jB, jC, jD, jE, jF, jG, jH, jI, jJ, jK, tfNdR, c2, f5]; try simp only [Ex.fold, Ex.foldcs, ← Va.pv.eq_1] | refine hX _ _ ?_; clear hX X | clear hX X; refine hX _ _ ?_; clear hX X | clear hX X; clear hX X; refine hX _ _ ?_; clear hX X | intro hlen; unfold maxLen at hlen | apply And.intro; focus (first | omega | assumption | (repeat' apply And.intro) <;> first | omega | assumption)))
      simp only [aPost, Tryd.results33, aRes_n, aRes_t, aRes_c, pack_one, pack_two]
      exact leave_same rfl ⟨by rw [hs]; rfl, rfl⟩
    | false =>
      have c3 : eqS n.name s = false := c2
      rw [c3, if_neg (by simp)] at hs
      simp -implicitDefEqProofs only [↓slp, slb, ↓reduceIte, reduceCtorEq, jA, jB, jC, jD, jE, jF, jG, jH, jI, jJ, jK, tfNdR, c2]; try simp only [Ex.fold, Ex.foldcs, ← Va.pv.eq_1]
      (repeat (first | refine aSeq fun X hX => ?_ | refine aBlk ?_ | refine aSkip ?_ | (first | refine aExit ?_ | refine aRet ?_); try simp only [slx, ↓reduceIte, Nat.reduceEqDiff, reduceCtorEq] | (first | refine aReg ?_ | refine aIf ?_); simp -implicitDefEqProofs only [forall_eq, ↓slp, slb, ↓reduceIte, reduceCtorEq, jA, jB, jC, jD, jE, jF, jG, jH, jI, jJ, jK, tfNdR, c2, f5, pI, hi]; try simp only [Ex.fold, Ex.foldcs, ← Va.pv.eq_1] | refine hX _ _ ?_; clear hX X | clear hX X; refine hX _ _ ?_; clear hX X | clear hX X; clear hX X; refine hX _ _ ?_; clear hX X | intro hlen; unfold maxLen at hlen | apply And.intro; focus (first | omega | assumption | (repeat' apply And.intro) <;> first | omega | assumption)))
      rw [hI]
      exact ⟨⟨k + 1, hlt, f1, f2, rfl, hs, rfl⟩, by omega⟩
set_option maxHeartbeats 2000000 in
theorem rCallsD_any {S : List Str} (hS : S.length ≤ 1000) (V : List Va) (Q : List Qu) (hQl : Q.length ≤ 1000000) (hQ : ∀ q ∈ Q, q.arms = [] ∧ (q.kind = 2 → q.name ∈ S)) (l : List Str) (hl : Own1 S l) (m : M) :
    ACalls Tryd.prog 38 [.sl .no (l.map pS), .ag [.sl .no (V.map Va.pv), .sl .no (Q.map Qu.pv)]] m (fun v m' => v = .sl .no ((addL l (callsF 0 Q)).map pS) ∧ m' = m) := by
  have hOk : ∀ k, Own1 S ((Q.take k).foldl (callsQ (fun _ => [])) l) := fun k => by
    refine Own1.calls (S := S) (PC := fun _ => False) (fun _ h => h.elim) hl (fun q hq => ?_)
    have := hQ q (List.mem_of_mem_take hq)
    exact ⟨this.2, fun a ha => by rw [this.1] at ha; simp at ha⟩
  have hfin := flat_calls Q l (fun q hq => (hQ q hq).1)
  have z0 : decide (((0 : Nat) : Int) < 0) = false := rfl
  have z1 : decide ((0 : Int) < ((0 : Nat) : Int)) = false := rfl
  have z2 : decide ((0 : Int) < 0) = false := rfl
  refine ACalls.enter (mu := []) ok_mix Tryd.func38 rfl (by kernel_rfl) (by kernel_rfl) (by simp only [List.length_cons, List.length_nil, Tryd.ntmps38]; omega) ?_
  (repeat (first | refine aSeq fun X hX => ?_ | refine aBlk ?_ | refine aSkip ?_ | (first | refine aExit ?_ | refine aRet ?_); try simp only [slx, ↓reduceIte, Nat.reduceEqDiff, reduceCtorEq] | (first | refine aReg ?_ | refine aIf ?_); simp -implicitDefEqProofs only [forall_eq, ↓slp, slb, ↓reduceIte, reduceCtorEq, jA, jB, jC, jD, jE, jF, jG, jH, jI, jJ, jK, tfNdR]; try simp only [Ex.fold, Ex.foldcs, ← Va.pv.eq_1] | refine hX _ _ ?_; clear hX X | clear hX X; refine hX _ _ ?_; clear hX X | clear hX X; clear hX X; refine hX _ _ ?_; clear hX X | intro hlen; unfold maxLen at hlen | apply And.intro; focus (first | omega | assumption | (repeat' apply And.intro) <;> first | omega | assumption)))
  obtain ⟨I, hI⟩ : ∃ I : F → M → Prop, ∀ f m', I f m' = (∃ k : Nat, k ≤ Q.length ∧ f 0 = .sl .no (((Q.take k).foldl (callsQ (fun _ => [])) l).map pS) ∧ f 3 = .ep [.sl .no (V.map Va.pv), .sl .no (Q.map Qu.pv)] ∧ f 5 = pI k ∧ m = m') := ⟨_, fun _ _ => rfl⟩
  refine aLoop I (fun f m => Q.length - numOf (f 5)) ?_ ?_
  · rw [hI]; exact ⟨0, by omega, rfl, rfl, rfl, rfl⟩
  intro f m' hrel
  rw [hI] at hrel
  obtain ⟨k, hk, f0, f3, f5, rfl⟩ := hrel
  cases c1 : decide ((k : Int) < (Q.length : Int)) with
  | false =>
    have hkk : k = Q.length := by simp at c1; omega
    subst hkk
    rw [List.take_length, hfin] at f0
    (repeat (first | refine aSeq fun X hX => ?_ | refine aBlk ?_ | refine aSkip ?_ | (first | refine aExit ?_ | refine aRet ?_); try simp only [slx, ↓reduceIte, Nat.reduceEqDiff, reduceCtorEq] | (first | refine aReg ?_ | refine aIf ?_); simp -implicitDefEqProofs only [forall_eq, ↓slp, slb, ↓reduceIte, reduceCtorEq, jA, jB, jC, jD, jE, jF, jG, jH, jI, jJ, jK, tfNdR, f0, f3, f5, pI, c1]; try simp only [Ex.fold, Ex.foldcs, ← Va.pv.eq_1] | refine hX _ _ ?_; clear hX X | clear hX X; refine hX _ _ ?_; clear hX X | clear hX X; clear hX X; refine hX _ _ ?_; clear hX X | intro hlen; unfold maxLen at hlen | apply And.intro; focus (first | omega | assumption | (repeat' apply And.intro) <;> first | omega | assumption)))
    simp only [aPost, Tryd.results38, aRes_n, aRes_t, aRes_c, pack_one, pack_two]
    exact leave_same rfl ⟨rfl, rfl⟩
  | true =>
    have hlt : k < Q.length := by simpa using c1
    have g0 := getD_map Qu.pv Q k hlt
    have hi : IntKind.i64.wrap ((k : Int) + 1) = ((k + 1 : Nat) : Int) := by rw [wrap64 (by omega)]; omega
    have hme : numOf (f 5) = k := by rw [f5]; exact Int.toNat_natCast k
    have ha := (hQ Q[k] (List.getElem_mem hlt)).1
    have hnx : (Q.take (k + 1)).foldl (callsQ (fun _ => [])) l = if Q[k].kind = 2 then addS ((Q.take k).foldl (callsQ (fun _ => [])) l) Q[k].name else (Q.take k).foldl (callsQ (fun _ => [])) l := by
      rw [callsQ_take hlt]
      unfold callsQ callsA
      rw [ha]; rfl
    have hlen := (hOk k).len
    generalize (Q.take k).foldl (callsQ (fun _ => [])) l = L at *
    generalize Q[k] = q at *
    (repeat (first | refine aSeq fun X hX => ?_ | refine aBlk ?_ | refine aSkip ?_ | (first | refine aExit ?_ | refine aRet ?_); try simp only [slx, ↓reduceIte, Nat.reduceEqDiff, reduceCtorEq] | (first | refine aReg ?_ | refine aIf ?_); simp -implicitDefEqProofs only [forall_eq, ↓slp, slb, ↓reduceIte, reduceCtorEq, jA, jB, jC, jD, jE, jF, jG, jH, jI, jJ, jK, tfNdR, f0, f3, f5, pI, c1, g0]; try simp only [Ex.fold, Ex.foldcs, ← Va.pv.eq_1] | refine hX _ _ ?_; clear hX X | clear hX X; refine hX _ _ ?_; clear hX X | clear hX X; clear hX X; refine hX _ _ ?_; clear hX X | intro hlen; unfold maxLen at hlen | apply And.intro; focus (first | omega | assumption | (repeat' apply And.intro) <;> first | omega | assumption)))
    have join : ∀ (f : F) (L2 : List Str), f 0 = .sl .no (L2.map pS) → f 3 = .ep [.sl .no (V.map Va.pv), .sl .no (Q.map Qu.pv)] → f 5 = pI k → (Q.take (k + 1)).foldl (callsQ (fun _ => [])) l = L2 → X f m := by
      clear f0 f3 f5
      intro f L2 f0 f3 f5 hL2
      refine hX _ _ ?_
      clear hX X
      (repeat (first | refine aSeq fun X hX => ?_ | refine aBlk ?_ | refine aSkip ?_ | (first | refine aExit ?_ | refine aRet ?_); try simp only [slx, ↓reduceIte, Nat.reduceEqDiff, reduceCtorEq] | (first | refine aReg ?_ | refine aIf ?_); simp -implicitDefEqProofs only [forall_eq, ↓slp, slb, ↓reduceIte, reduceCtorEq, jA, jB, jC, jD, jE, jF, jG, jH, jI, jJ, jK, tfNdR, f0, f3, f5, pI, g0]; try simp only [Ex.fold, Ex.foldcs, ← Va.pv.eq_1] | refine hX _ _ ?_; clear hX X | clear hX X; refine hX _ _ ?_; clear hX X | clear hX X; clear hX X; refine hX _ _ ?_; clear hX X | intro hlen; unfold maxLen at hlen | apply And.intro; focus (first | omega | assumption | (repeat' apply And.intro) <;> first | omega | assumption)))
      obtain ⟨J, hJ⟩ : ∃ J : F → M → Prop, ∀ f m', J f m' = (f 0 = .sl .no (L2.map pS) ∧ f 3 = .ep [.sl .no (V.map Va.pv), .sl .no (Q.map Qu.pv)] ∧ f 5 = pI k ∧ f 6 = pI 0 ∧ m = m') := ⟨_, fun _ _ => rfl⟩
      refine aLoop J (fun f m => 0) ?_ ?_
      · rw [hJ]; exact ⟨f0, f3, f5, rfl, rfl⟩
      clear f0 f3 f5
      intro f m' hrel
      rw [hJ] at hrel
      obtain ⟨f0, f3, f5, g1, rfl⟩ := hrel
      (repeat (first | refine aSeq fun X hX => ?_ | refine aBlk ?_ | refine aSkip ?_ | (first | refine aExit ?_ | refine aRet ?_); try simp only [slx, ↓reduceIte, Nat.reduceEqDiff, reduceCtorEq] | (first | refine aReg ?_ | refine aIf ?_); simp -implicitDefEqProofs only [forall_eq, ↓slp, slb, ↓reduceIte, reduceCtorEq, jA, jB, jC, jD, jE, jF, jG, jH, jI, jJ, jK, tfNdR, f0, f3, f5, g1, pI, g0, ha, hi, z0, z1, z2, List.map_nil, List.length_nil]; try simp only [Ex.fold, Ex.foldcs, ← Va.pv.eq_1] | refine hX _ _ ?_; clear hX X | clear hX X; refine hX _ _ ?_; clear hX X | clear hX X; clear hX X; refine hX _ _ ?_; clear hX X | intro hlen; unfold maxLen at hlen | apply And.intro; focus (first | omega | assumption | (repeat' apply And.intro) <;> first | omega | assumption)))
      rw [hI]
      exact ⟨⟨k + 1, hlt, by rw [hL2]; exact f0, f3, rfl, rfl⟩, by omega⟩
    cases c2 : (q.kind == 2) with
    | true =>
      rw [if_pos (by simpa using c2)] at hnx
      simp -implicitDefEqProofs only [↓slp, slb, ↓reduceIte, reduceCtorEq, jA, jB, jC, jD, jE, jF, jG, jH, jI, jJ, jK, tfNdR, c2]; try simp only [Ex.fold, Ex.foldcs, ← Va.pv.eq_1]
      (repeat (first | refine aSeq fun X hX => ?_ | refine aBlk ?_ | refine aSkip ?_ | (first | refine aExit ?_ | refine aRet ?_); try simp only [slx, ↓reduceIte, Nat.reduceEqDiff, reduceCtorEq] | (first | refine aReg ?_ | refine aIf ?_); simp -implicitDefEqProofs only [forall_eq, ↓slp, slb, ↓reduceIte, reduceCtorEq, jA, jB, jC, jD, jE, jF, jG, jH, jI, jJ, jK, tfNdR, c2, f0, f3, f5, pI, g0]; try simp only [Ex.fold, Ex.foldcs, ← Va.pv.eq_1] | refine hX _ _ ?_; clear hX X | clear hX X; refine hX _ _ ?_; clear hX X | clear hX X; clear hX X; refine hX _ _ ?_; clear hX X | intro hlen; unfold maxLen at hlen | apply And.intro; focus (first | omega | assumption | (repeat' apply And.intro) <;> first | omega | assumption)))
      refine callE (rAdd_any L q.name m (by omega)) ?_
      simp -implicitDefEqProofs only [↓slp, slb, ↓reduceIte, reduceCtorEq, jA, jB, jC, jD, jE, jF, jG, jH, jI, jJ, jK, tfNdR]; try simp only [Ex.fold, Ex.foldcs, ← Va.pv.eq_1]
      (repeat (first | refine aSeq fun X hX => ?_ | refine aBlk ?_ | refine aSkip ?_ | (first | refine aExit ?_ | refine aRet ?_); try simp only [slx, ↓reduceIte, Nat.reduceEqDiff, reduceCtorEq] | (first | refine aReg ?_ | refine aIf ?_); simp -implicitDefEqProofs only [forall_eq, ↓slp, slb, ↓reduceIte, reduceCtorEq, jA, jB, jC, jD, jE, jF, jG, jH, jI, jJ, jK, tfNdR]; try simp only [Ex.fold, Ex.foldcs, ← Va.pv.eq_1] | refine hX _ _ ?_; clear hX X | clear hX X; refine hX _ _ ?_; clear hX X | clear hX X; clear hX X; refine hX _ _ ?_; clear hX X | intro hlen; unfold maxLen at hlen | apply And.intro; focus (first | omega | assumption | (repeat' apply And.intro) <;> first | omega | assumption)))
      exact join _ _ rfl f3 f5 hnx
    | false =>
      rw [if_neg (by simpa using c2)] at hnx
      simp -implicitDefEqProofs only [↓slp, slb, ↓reduceIte, reduceCtorEq, jA, jB, jC, jD, jE, jF, jG, jH, jI, jJ, jK, tfNdR, c2]; try simp only [Ex.fold, Ex.foldcs, ← Va.pv.eq_1]
      (repeat (first | refine aSeq fun X hX => ?_ | refine aBlk ?_ | refine aSkip ?_ | (first | refine aExit ?_ | refine aRet ?_); try simp only [slx, ↓reduceIte, Nat.reduceEqDiff, reduceCtorEq] | (first | refine aReg ?_ | refine aIf ?_); simp -implicitDefEqProofs only [forall_eq, ↓slp, slb, ↓reduceIte, reduceCtorEq, jA, jB, jC, jD, jE, jF, jG, jH, jI, jJ, jK, tfNdR, c2]; try simp only [Ex.fold, Ex.foldcs, ← Va.pv.eq_1] | refine hX _ _ ?_; clear hX X | clear hX X; refine hX _ _ ?_; clear hX X | clear hX X; clear hX X; refine hX _ _ ?_; clear hX X | intro hlen; unfold maxLen at hlen | apply And.intro; focus (first | omega | assumption | (repeat' apply And.intro) <;> first | omega | assumption)))
      exact join _ _ f0 f3 f5 hnx
theorem drop_addL (l C : List Str) (i : Nat) (h : i ≤ l.length) : (addL l C).drop i = l.drop i ++ (addL l C).drop l.length := by
  obtain ⟨t, ht⟩ := addL_app C l
  rw [ht, List.drop_append_of_le_length h, List.drop_left]
/-- What is asked of a node for the reference's Needs. -/
def FlatC (S : List Str) (Q : List Qu) : Prop := Q.length ≤ 1000000 ∧ ∀ q ∈ Q, q.arms = [] ∧ (q.kind = 2 → q.name ∈ S)
theorem FlatC.own {S : List Str} (hS : S.length ≤ 1000) {Q : List Qu} (h : FlatC S Q) : CallsC S (callsF 0) Q := calls_any hS 0 Q (fun q hq => ⟨(h.2 q hq).2, fun a ha => by rw [(h.2 q hq).1] at ha; simp at ha⟩)
set_option maxHeartbeats 8000000 in
theorem rNeeds_any {S : List Str} (hS : S.length ≤ 1000) (es : List PV) (ns : List No) (hns : ns.length ≤ 1000000) (hC : ∀ n ∈ ns, FlatC S n.b.eqs) (s : Str) (m : M) :
    ACalls Tryd.prog 17 [.ag [.sl .no es, .sl .no (ns.map No.pv)], pS s] m (fun v m' => v = .sl .no ((needsN (cfN 0 ns) (2 * S.length + 1) [] [s]).map pS) ∧ m' = m) := by
  have hfn := fun (x : Str) (m : M) => rNode_any es ns hns x m
  obtain ⟨R, hR⟩ : ∃ R, needsN (cfN 0 ns) (2 * S.length + 1) [] [s] = R := ⟨_, rfl⟩
  rw [hR]
  have hR2 : needsN (cfN 0 ns) (2 * S.length) (addL [] (cfN 0 ns s)) ([] ++ (addL [] (cfN 0 ns s)).drop 0) = R := hR
  rw [List.nil_append, List.drop_zero] at hR2
  refine ACalls.enter (mu := []) ok_mix Tryd.func17 rfl (by kernel_rfl) (by kernel_rfl) (by simp only [List.length_cons, List.length_nil, Tryd.ntmps17]; omega) ?_
  (repeat (first | refine aSeq fun X hX => ?_ | refine aBlk ?_ | refine aSkip ?_ | (first | refine aExit ?_ | refine aRet ?_); try simp only [slx, ↓reduceIte, Nat.reduceEqDiff, reduceCtorEq] | (first | refine aReg ?_ | refine aIf ?_); simp -implicitDefEqProofs only [forall_eq, ↓slp, slb, ↓reduceIte, reduceCtorEq, jA, jB, jC, jD, jE, jF, jG, jH, jI, jJ, jK, tfNdR, pS]; try simp only [Ex.fold, Ex.foldcs, ← Va.pv.eq_1] | refine hX _ _ ?_; clear hX X | clear hX X; refine hX _ _ ?_; clear hX X | clear hX X; clear hX X; refine hX _ _ ?_; clear hX X | intro hlen; unfold maxLen at hlen | apply And.intro; focus (first | omega | assumption | (repeat' apply And.intro) <;> first | omega | assumption)))
  refine callE (hfn s _) ?_
  rcases idxF_at (p := fun n : No => eqS n.name s) ns 0 with ⟨h1, h2⟩ | ⟨j, hj, h1, h2, h3⟩
  · rw [h1]
    have c1 : decide ((-1 : Int) < 0) = true := rfl
    rw [cfN_neg h2] at hR2
    have hRn : R = [] := by rw [← hR2]; generalize 2 * S.length = g; cases g <;> rfl
    subst hRn
    simp -implicitDefEqProofs only [↓slp, slb, ↓reduceIte, reduceCtorEq, jA, jB, jC, jD, jE, jF, jG, jH, jI, jJ, jK, tfNdR, pI, c1]; try simp only [Ex.fold, Ex.foldcs, ← Va.pv.eq_1]
    (repeat (first | refine aSeq fun X hX => ?_ | refine aBlk ?_ | refine aSkip ?_ | (first | refine aExit ?_ | refine aRet ?_); try simp only [slx, ↓reduceIte, Nat.reduceEqDiff, reduceCtorEq] | (first | refine aReg ?_ | refine aIf ?_); simp -implicitDefEqProofs only [forall_eq, ↓slp, slb, ↓reduceIte, reduceCtorEq, jA, jB, jC, jD, jE, jF, jG, jH, jI, jJ, jK, tfNdR, pI, c1]; try simp only [Ex.fold, Ex.foldcs, ← Va.pv.eq_1] | refine hX _ _ ?_; clear hX X | clear hX X; refine hX _ _ ?_; clear hX X | clear hX X; clear hX X; refine hX _ _ ?_; clear hX X | intro hlen; unfold maxLen at hlen | apply And.intro; focus (first | omega | assumption | (repeat' apply And.intro) <;> first | omega | assumption)))
    simp only [aPost, Tryd.results17, aRes_n, aRes_t, aRes_c, pack_one, pack_two]
    exact leave_same rfl ⟨rfl, rfl⟩
  · rw [Nat.zero_add] at h1
    rw [h1]
    have c1 : decide ((j : Int) < 0) = false := by simp
    rw [cfN_pos hj h2 (fun i hi hij => h3 i hij)] at hR2
    have g0 := getD_map No.pv ns j hj
    have hcn := hC ns[j] (List.getElem_mem hj)
    generalize ns[j] = nd at *
    have hca := fun m => rCallsD_any hS nd.b.vars nd.b.eqs hcn.1 hcn.2 [] (.nil S) m
    have hcO := (hcn.own hS).2
    have hO0 : Own1 S (addL [] (callsF 0 nd.b.eqs)) := (Own1.nil S).addL hcO.2
    generalize addL [] (callsF 0 nd.b.eqs) = L0 at *
    simp -implicitDefEqProofs only [↓slp, slb, ↓reduceIte, reduceCtorEq, jA, jB, jC, jD, jE, jF, jG, jH, jI, jJ, jK, tfNdR, pI, c1]; try simp only [Ex.fold, Ex.foldcs, ← Va.pv.eq_1]
    (repeat (first | refine aSeq fun X hX => ?_ | refine aBlk ?_ | refine aSkip ?_ | (first | refine aExit ?_ | refine aRet ?_); try simp only [slx, ↓reduceIte, Nat.reduceEqDiff, reduceCtorEq] | (first | refine aReg ?_ | refine aIf ?_); simp -implicitDefEqProofs only [forall_eq, ↓slp, slb, ↓reduceIte, reduceCtorEq, jA, jB, jC, jD, jE, jF, jG, jH, jI, jJ, jK, tfNdR, pI, c1, g0]; try simp only [Ex.fold, Ex.foldcs, ← Va.pv.eq_1] | refine hX _ _ ?_; clear hX X | clear hX X; refine hX _ _ ?_; clear hX X | clear hX X; clear hX X; refine hX _ _ ?_; clear hX X | intro hlen; unfold maxLen at hlen | apply And.intro; focus (first | omega | assumption | (repeat' apply And.intro) <;> first | omega | assumption)))
    refine callMS (hca _) (by simp only [List.map_cons, List.map_nil, PV.settle, PV.settles]) ?_
    rintro v mv ⟨rfl, hmv⟩
    subst hmv
    simp -implicitDefEqProofs only [↓slp, slb, ↓reduceIte, reduceCtorEq, jA, jB, jC, jD, jE, jF, jG, jH, jI, jJ, jK, tfNdR]; try simp only [Ex.fold, Ex.foldcs, ← Va.pv.eq_1]
    (repeat (first | refine aSeq fun X hX => ?_ | refine aBlk ?_ | refine aSkip ?_ | (first | refine aExit ?_ | refine aRet ?_); try simp only [slx, ↓reduceIte, Nat.reduceEqDiff, reduceCtorEq] | (first | refine aReg ?_ | refine aIf ?_); simp -implicitDefEqProofs only [forall_eq, ↓slp, slb, ↓reduceIte, reduceCtorEq, jA, jB, jC, jD, jE, jF, jG, jH, jI, jJ, jK, tfNdR]; try simp only [Ex.fold, Ex.foldcs, ← Va.pv.eq_1] | refine hX _ _ ?_; clear hX X | clear hX X; refine hX _ _ ?_; clear hX X | clear hX X; clear hX X; refine hX _ _ ?_; clear hX X | intro hlen; unfold maxLen at hlen | apply And.intro; focus (first | omega | assumption | (repeat' apply And.intro) <;> first | omega | assumption)))
    clear hca hcn hcO g0
    have hl0 := hO0.len
    refine aLoopN (fun n f m' => ∃ (i : Nat) (l : List Str) (g : Nat), n = (l.length - i) + 2 * (S.length - l.length) ∧ n ≤ g ∧ i ≤ l.length ∧ needsN (cfN 0 ns) g l (l.drop i) = R ∧ Own1 S l ∧ f 2 = .ep [.sl .no es, .sl .no (ns.map No.pv)] ∧ f 5 = .sl .no (l.map pS) ∧ f 7 = pI i ∧ mv = m') ((L0.length - 0) + 2 * (S.length - L0.length)) ?_ ?_
    · exact ⟨0, L0, 2 * S.length, rfl, by omega, by omega, by rw [List.drop_zero]; exact hR2, hO0, rfl, rfl, rfl, rfl⟩
    intro W n f m' hJ hW
    obtain ⟨i, l, g, hn, hng, hil, hnd, hO, f2, f5, f7, rfl⟩ := hJ
    have hlS := hO.len
    cases c2 : decide ((i : Int) < (l.length : Int)) with
    | false =>
      have hii : i = l.length := by simp at c2; omega
      subst hii
      rw [List.drop_length] at hnd
      have hlR : l = R := by rw [← hnd]; cases g <;> rfl
      subst hlR
      (repeat (first | refine aSeq fun X hX => ?_ | refine aBlk ?_ | refine aSkip ?_ | (first | refine aExit ?_ | refine aRet ?_); try simp only [slx, ↓reduceIte, Nat.reduceEqDiff, reduceCtorEq] | (first | refine aReg ?_ | refine aIf ?_); simp -implicitDefEqProofs only [forall_eq, ↓slp, slb, ↓reduceIte, reduceCtorEq, jA, jB, jC, jD, jE, jF, jG, jH, jI, jJ, jK, tfNdR, f2, f5, f7, pI, c2]; try simp only [Ex.fold, Ex.foldcs, ← Va.pv.eq_1] | refine hX _ _ ?_; clear hX X | clear hX X; refine hX _ _ ?_; clear hX X | clear hX X; clear hX X; refine hX _ _ ?_; clear hX X | intro hlen; unfold maxLen at hlen | apply And.intro; focus (first | omega | assumption | (repeat' apply And.intro) <;> first | omega | assumption)))
      simp only [aPost, Tryd.results17, aRes_n, aRes_t, aRes_c, pack_one, pack_two]
      exact leave_same rfl ⟨rfl, rfl⟩
    | true =>
      have hlt : i < l.length := by simpa using c2
      have gi := getD_map pS l i hlt
      have hi : IntKind.i64.wrap ((i : Int) + 1) = ((i + 1 : Nat) : Int) := by rw [wrap64 (by omega)]; omega
      obtain ⟨g', rfl⟩ : ∃ g', g = g' + 1 := ⟨g - 1, by omega⟩
      rw [List.drop_eq_getElem_cons hlt] at hnd
      have hnd2 : needsN (cfN 0 ns) g' (addL l (cfN 0 ns l[i])) (l.drop (i + 1) ++ (addL l (cfN 0 ns l[i])).drop l.length) = R := hnd
      rw [← drop_addL l _ (i + 1) hlt] at hnd2
      obtain ⟨x, hx⟩ : ∃ x, l[i] = x := ⟨_, rfl⟩
      rw [hx] at hnd2 gi
      (repeat (first | refine aSeq fun X hX => ?_ | refine aBlk ?_ | refine aSkip ?_ | (first | refine aExit ?_ | refine aRet ?_); try simp only [slx, ↓reduceIte, Nat.reduceEqDiff, reduceCtorEq] | (first | refine aReg ?_ | refine aIf ?_); simp -implicitDefEqProofs only [forall_eq, ↓slp, slb, ↓reduceIte, reduceCtorEq, jA, jB, jC, jD, jE, jF, jG, jH, jI, jJ, jK, tfNdR, f2, f5, f7, pI, pS, c2, gi]; try simp only [Ex.fold, Ex.foldcs, ← Va.pv.eq_1] | refine hX _ _ ?_; clear hX X | clear hX X; refine hX _ _ ?_; clear hX X | clear hX X; clear hX X; refine hX _ _ ?_; clear hX X | intro hlen; unfold maxLen at hlen | apply And.intro; focus (first | omega | assumption | (repeat' apply And.intro) <;> first | omega | assumption)))
      (repeat (first | refine aSeq fun X hX => ?_ | refine aBlk ?_ | refine aSkip ?_ | (first | refine aExit ?_ | refine aRet ?_); try simp only [slx, ↓reduceIte, Nat.reduceEqDiff, reduceCtorEq] | (first | refine aReg ?_ | refine aDrE ?_ | refine aIf ?_); simp -implicitDefEqProofs only [forall_eq, ↓slp, slb, ↓reduceIte, reduceCtorEq, jA, jB, jC, jD, jE, jF, jG, jH, jI, jJ, jK, tfNdR, f2, f5, f7, pI, pS, gi]; try simp only [Ex.fold, Ex.foldcs, ← Va.pv.eq_1] | refine hX _ _ ?_; clear hX X | clear hX X; refine hX _ _ ?_; clear hX X | clear hX X; clear hX X; refine hX _ _ ?_; clear hX X | intro hlen; unfold maxLen at hlen | apply And.intro; focus (first | omega | assumption | (repeat' apply And.intro) <;> first | omega | assumption)))
      refine callE (hfn x _) ?_
      rcases idxF_at (p := fun n : No => eqS n.name x) ns 0 with ⟨h1, h2⟩ | ⟨j, hj, h1, h2, h3⟩
      · rw [h1]
        have c3 : decide ((-1 : Int) ≥ 0) = false := rfl
        rw [cfN_neg h2] at hnd2
        have e1 : addL l [] = l := rfl
        rw [e1] at hnd2
        simp -implicitDefEqProofs only [↓slp, slb, ↓reduceIte, reduceCtorEq, jA, jB, jC, jD, jE, jF, jG, jH, jI, jJ, jK, tfNdR, pI, c3]; try simp only [Ex.fold, Ex.foldcs, ← Va.pv.eq_1]
        (repeat (first | refine aSeq fun X hX => ?_ | refine aBlk ?_ | refine aSkip ?_ | (first | refine aExit ?_ | refine aRet ?_); try simp only [slx, ↓reduceIte, Nat.reduceEqDiff, reduceCtorEq] | (first | refine aReg ?_ | refine aIf ?_); simp -implicitDefEqProofs only [forall_eq, ↓slp, slb, ↓reduceIte, reduceCtorEq, jA, jB, jC, jD, jE, jF, jG, jH, jI, jJ, jK, tfNdR, f7, pI, c3, hi]; try simp only [Ex.fold, Ex.foldcs, ← Va.pv.eq_1] | refine hX _ _ ?_; clear hX X | clear hX X; refine hX _ _ ?_; clear hX X | clear hX X; clear hX X; refine hX _ _ ?_; clear hX X | intro hlen; unfold maxLen at hlen | apply And.intro; focus (first | omega | assumption | (repeat' apply And.intro) <;> first | omega | assumption)))
        exact hW ((l.length - (i + 1)) + 2 * (S.length - l.length)) _ _ (by omega) ⟨i + 1, l, g', rfl, by omega, by omega, hnd2, hO, f2, f5, rfl, rfl⟩
      · rw [Nat.zero_add] at h1
        rw [h1]
        have c3 : decide ((j : Int) ≥ 0) = true := by simp
        rw [cfN_pos hj h2 (fun i hi hij => h3 i hij)] at hnd2
        have g0 := getD_map No.pv ns j hj
        have hcn := hC ns[j] (List.getElem_mem hj)
        generalize ns[j] = nd at *
        have hca := fun m => rCallsD_any hS nd.b.vars nd.b.eqs hcn.1 hcn.2 l hO m
        have hO2 : Own1 S (addL l (callsF 0 nd.b.eqs)) := hO.addL ((hcn.own hS).2.2)
        have hl2 := addL_len l (callsF 0 nd.b.eqs)
        generalize addL l (callsF 0 nd.b.eqs) = L2 at *
        have hl3 := hO2.len
        simp -implicitDefEqProofs only [↓slp, slb, ↓reduceIte, reduceCtorEq, jA, jB, jC, jD, jE, jF, jG, jH, jI, jJ, jK, tfNdR, pI, c3]; try simp only [Ex.fold, Ex.foldcs, ← Va.pv.eq_1]
        (repeat (first | refine aSeq fun X hX => ?_ | refine aBlk ?_ | refine aSkip ?_ | (first | refine aExit ?_ | refine aRet ?_); try simp only [slx, ↓reduceIte, Nat.reduceEqDiff, reduceCtorEq] | (first | refine aReg ?_ | refine aIf ?_); simp -implicitDefEqProofs only [forall_eq, ↓slp, slb, ↓reduceIte, reduceCtorEq, jA, jB, jC, jD, jE, jF, jG, jH, jI, jJ, jK, tfNdR, f2, f5, pI, c3, g0]; try simp only [Ex.fold, Ex.foldcs, ← Va.pv.eq_1] | refine hX _ _ ?_; clear hX X | clear hX X; refine hX _ _ ?_; clear hX X | clear hX X; clear hX X; refine hX _ _ ?_; clear hX X | intro hlen; unfold maxLen at hlen | apply And.intro; focus (first | omega | assumption | (repeat' apply And.intro) <;> first | omega | assumption)))
        refine callE (hca _) ?_
        simp -implicitDefEqProofs only [↓slp, slb, ↓reduceIte, reduceCtorEq, jA, jB, jC, jD, jE, jF, jG, jH, jI, jJ, jK, tfNdR]; try simp only [Ex.fold, Ex.foldcs, ← Va.pv.eq_1]
        (repeat (first | refine aSeq fun X hX => ?_ | refine aBlk ?_ | refine aSkip ?_ | (first | refine aExit ?_ | refine aRet ?_); try simp only [slx, ↓reduceIte, Nat.reduceEqDiff, reduceCtorEq] | (first | refine aReg ?_ | refine aIf ?_); simp -implicitDefEqProofs only [forall_eq, ↓slp, slb, ↓reduceIte, reduceCtorEq, jA, jB, jC, jD, jE, jF, jG, jH, jI, jJ, jK, tfNdR, f7, pI, hi]; try simp only [Ex.fold, Ex.foldcs, ← Va.pv.eq_1] | refine hX _ _ ?_; clear hX X | clear hX X; refine hX _ _ ?_; clear hX X | clear hX X; clear hX X; refine hX _ _ ?_; clear hX X | intro hlen; unfold maxLen at hlen | apply And.intro; focus (first | omega | assumption | (repeat' apply And.intro) <;> first | omega | assumption)))
        exact hW ((L2.length - (i + 1)) + 2 * (S.length - L2.length)) _ _ (by omega) ⟨i + 1, L2, g', rfl, by omega, by omega, hnd2, hO2, f2, rfl, rfl, rfl⟩
end Go.Proofs.YteiaedmipkcfeaaDoor

/-
  The nodes in order: names.Order, and the reference's.
-/
set_option linter.unusedVariables false
set_option linter.unusedSimpArgs false
namespace Go.Proofs.YteiaedmipkcfeaaDoor
open Nat renaming reduceEqDiff → jA, reduceAdd → jB, reduceMul → jC, reduceLT → jD, reduceLeDiff → jE, reduceBEq → jF, reduceBNe → jG
open Int renaming reduceLE → jH, reduceLT → jI, reduceToNat → jJ, reduceEq → jK
open Go
-- EXX: Qu.settle_pv, Qu.pure_pv, Qu.cells_pv, Qu.cs, No.settle_pv, No.pure_pv, No.cells_pv, No.cs, No.pv.eq_1
set_option maxRecDepth 20000
-- TNAMES: int; uint8; int32; string; bool; []string; []api.Expr; api.Expr; api.Pos; api.Type; api.On; []api.On; api.Var; []api.Var; api.Equation; []api.Equation; api.Block; api.Trans; []api.Trans; api.Arm; []api.Arm; api.Node; []api.Node; api.Enum; []api.Enum; api.Program; func(string) bool
set_option linter.defProp false
def tfNdO := And.intro @tfA (And.intro @Ex.settle_pv (And.intro @Ex.pure_pv (And.intro @Ex.cells_pv (And.intro @Ex.cs.eq_1 (And.intro @On.pv.eq_1 (And.intro @Ty.pv.eq_1 (And.intro @Va.settle_pv (And.intro @Va.pure_pv (And.intro @Va.cells_pv (And.intro @Va.cs.eq_1 (And.intro @Qu.settle_pv (And.intro @Qu.pure_pv (And.intro @Qu.cells_pv (And.intro @Qu.cs.eq_1 (And.intro @No.settle_pv (And.intro @No.pure_pv (And.intro @No.cells_pv (And.intro @No.cs.eq_1 @No.pv.eq_1))))))))))))))))))

/-- What stands in the way of a node. -/
def lacks (ns : List No) (out : List Str) (s : Str) : Bool := !hasS out s && decide (idxF (fun n : No => eqS n.name s) ns 0 ≥ 0)
/-- Is a node the next one? -/
def nextQ (ns : List No) (out : List Str) (n : No) : Bool := !((callsF 0 n.b.eqs).any (lacks ns out)) && !hasS out n.name
/-- The nodes, each behind those that it needs. -/
def orderN (ns : List No) : Nat → List Str → List Str
  | 0, out => out
  | k + 1, out => match ns.find? (nextQ ns out) with
    | none => []
    | some n => orderN ns k (out ++ [n.name])
set_option maxHeartbeats 1000000 in
theorem idxStr_any (o : Own) (l : List Str) (p : Str → Bool) (g : FuncId) (c : List PV) (m : M) (hf : ∀ k (hk : k < l.length), ACalls Tryd.prog g (pS l[k] :: c) m (fun v m' => v = pB (p l[k]) ∧ m' = m)) :
    ACalls Tryd.prog 67 [.sl o (l.map pS), .fn (.func g) [] c] m (fun v m' => v = pI (idxF p l 0) ∧ m' = m) := by
  refine ACalls.enter (mu := []) ok_mix Tryd.func67 rfl (by kernel_rfl) (by kernel_rfl) (by simp only [List.length_cons, List.length_nil, Tryd.ntmps67]; omega) ?_
  (repeat (first | refine aSeq fun X hX => ?_ | refine aBlk ?_ | refine aSkip ?_ | (first | refine aExit ?_ | refine aRet ?_); try simp only [slx, ↓reduceIte, Nat.reduceEqDiff, reduceCtorEq] | (first | refine aReg ?_ | refine aIf ?_); simp -implicitDefEqProofs only [forall_eq, ↓slp, slb, ↓reduceIte, reduceCtorEq, jA, jB, jC, jD, jE, jF, jG, jH, jI, jJ, jK, tfNdO]; try simp only [Ex.fold, Ex.foldcs, ← Va.pv.eq_1] | refine hX _ _ ?_; clear hX X | clear hX X; refine hX _ _ ?_; clear hX X | clear hX X; clear hX X; refine hX _ _ ?_; clear hX X | intro hlen; unfold maxLen at hlen | apply And.intro; focus (first | omega | assumption | (repeat' apply And.intro) <;> first | omega | assumption)))
  obtain ⟨I, hI⟩ : ∃ I : F → M → Prop, ∀ f m', I f m' = (∃ k : Nat, k ≤ l.length ∧ f 0 = .sl o (l.map pS) ∧ f 1 = .fn (.func g) [] c ∧ f 7 = pI l.length ∧ f 8 = pI k ∧ idxF p l 0 = idxF p (l.drop k) k ∧ m = m') := ⟨_, fun _ _ => rfl⟩
  refine aLoop I (fun f m => l.length - numOf (f 8)) ?_ ?_
  · rw [hI]; exact ⟨0, by omega, rfl, rfl, rfl, rfl, rfl, rfl⟩
  intro f m' hrel
  rw [hI] at hrel
  obtain ⟨k, hk, f0, f1, f7, f8, hs, rfl⟩ := hrel
  cases c1 : decide ((k : Int) < (l.length : Int)) with
  | false =>
    have hkk : k = l.length := by simp at c1; omega
    subst hkk
    (repeat (first | refine aSeq fun X hX => ?_ | refine aBlk ?_ | refine aSkip ?_ | (first | refine aExit ?_ | refine aRet ?_); try simp only [slx, ↓reduceIte, Nat.reduceEqDiff, reduceCtorEq] | (first | refine aReg ?_ | refine aIf ?_); simp -implicitDefEqProofs only [forall_eq, ↓slp, slb, ↓reduceIte, reduceCtorEq, jA, jB, jC, jD, jE, jF, jG, jH, jI, jJ, jK, tfNdO, f0, f1, f7, f8, pI, c1]; try simp only [Ex.fold, Ex.foldcs, ← Va.pv.eq_1] | refine hX _ _ ?_; clear hX X | clear hX X; refine hX _ _ ?_; clear hX X | clear hX X; clear hX X; refine hX _ _ ?_; clear hX X | intro hlen; unfold maxLen at hlen | apply And.intro; focus (first | omega | assumption | (repeat' apply And.intro) <;> first | omega | assumption)))
    simp only [aPost, Tryd.results67, aRes_n, aRes_t, aRes_c, pack_one, pack_two]
    have hv : idxF p l 0 = -1 := by rw [hs, List.drop_length]; rfl
    exact leave_same rfl ⟨by rw [hv]; rfl, rfl⟩
  | true =>
    have hlt : k < l.length := by simpa using c1
    have g0 := getD_map pS l k hlt
    have hi : IntKind.i64.wrap ((k : Int) + 1) = ((k + 1 : Nat) : Int) := by rw [wrap64 (by omega)]; omega
    have hme : numOf (f 8) = k := by rw [f8]; exact Int.toNat_natCast k
    have hd := idxF_drop (p := p) hlt
    rw [hd] at hs
    have hfk := hf k hlt
    generalize l[k] = s at *
    (repeat (first | refine aSeq fun X hX => ?_ | refine aBlk ?_ | refine aSkip ?_ | (first | refine aExit ?_ | refine aRet ?_); try simp only [slx, ↓reduceIte, Nat.reduceEqDiff, reduceCtorEq] | (first | refine aReg ?_ | refine aIf ?_); simp -implicitDefEqProofs only [forall_eq, ↓slp, slb, ↓reduceIte, reduceCtorEq, jA, jB, jC, jD, jE, jF, jG, jH, jI, jJ, jK, tfNdO, f0, f1, f7, f8, pI, pS, c1, g0]; try simp only [Ex.fold, Ex.foldcs, ← Va.pv.eq_1] | refine hX _ _ ?_; clear hX X | clear hX X; refine hX _ _ ?_; clear hX X | clear hX X; clear hX X; refine hX _ _ ?_; clear hX X | intro hlen; unfold maxLen at hlen | apply And.intro; focus (first | omega | assumption | (repeat' apply And.intro) <;> first | omega | assumption)))
    refine callE hfk ?_
    cases c2 : p s with
    | true =>
      rw [c2, if_pos rfl] at hs
      simp -implicitDefEqProofs only [↓slp, slb, ↓reduceIte, reduceCtorEq, jA, jB, jC, jD, jE, jF, jG, jH, jI, jJ, jK, tfNdO, pB, c2]; try simp only [Ex.fold, Ex.foldcs, ← Va.pv.eq_1]
      (repeat (first | refine aSeq fun X hX => ?_ | refine aBlk ?_ | refine aSkip ?_ | (first | refine aExit ?_ | refine aRet ?_); try simp only [slx, ↓reduceIte, Nat.reduceEqDiff, reduceCtorEq] | (first | refine aReg ?_ | refine aIf ?_); simp -implicitDefEqProofs only [forall_eq, ↓slp, slb, ↓reduceIte, reduceCtorEq, jA, jB, jC, jD, jE, jF, jG, jH, jI, jJ, jK, tfNdO, c2]; try simp only [Ex.fold, Ex.foldcs, ← Va.pv.eq_1] | refine hX _ _ ?_; clear hX X | clear hX X; refine hX _ _ ?_; clear hX X | clear hX X; clear hX X; refine hX _ _ ?_; clear hX X | intro hlen; unfold maxLen at hlen | apply And.intro; focus (first | omega | assumption | (repeat' apply And.intro) <;> first | omega | assumption)))
      simp only [aPost, Tryd.results67, aRes_n, aRes_t, aRes_c, pack_one, pack_two]
      exact leave_same rfl ⟨by rw [hs]; rfl, rfl⟩
    | false =>
      rw [c2, if_neg (by simp)] at hs
      simp -implicitDefEqProofs only [↓slp, slb, ↓reduceIte, reduceCtorEq, jA, jB, jC, jD, jE, jF, jG, jH, jI, jJ, jK, tfNdO, pB, c2]; try simp only [Ex.fold, Ex.foldcs, ← Va.pv.eq_1]
      (repeat (first | refine aSeq fun X hX => ?_ | refine aBlk ?_ | refine aSkip ?_ | (first | refine aExit ?_ | refine aRet ?_); try simp only [slx, ↓reduceIte, Nat.reduceEqDiff, reduceCtorEq] | (first | refine aReg ?_ | refine aIf ?_); simp -implicitDefEqProofs only [forall_eq, ↓slp, slb, ↓reduceIte, reduceCtorEq, jA, jB, jC, jD, jE, jF, jG, jH, jI, jJ, jK, tfNdO, c2, f8, pI, hi]; try simp only [Ex.fold, Ex.foldcs, ← Va.pv.eq_1] | refine hX _ _ ?_; clear hX X | clear hX X; refine hX _ _ ?_; clear hX X | clear hX X; clear hX X; refine hX _ _ ?_; clear hX X | intro hlen; unfold maxLen at hlen | apply And.intro; focus (first | omega | assumption | (repeat' apply And.intro) <;> first | omega | assumption)))
      rw [hI]
      exact ⟨⟨k + 1, hlt, f0, f1, f7, rfl, hs, rfl⟩, by omega⟩
theorem idxF_any {α : Type} (p : α → Bool) (l : List α) : decide (idxF p l 0 ≥ 0) = l.any p := by
  rcases idxF_at (p := p) l 0 with ⟨h1, h2⟩ | ⟨k, hk, h1, h2, _⟩
  · rw [h1]
    have : l.any p = false := by rw [List.any_eq_false]; exact fun x hx => by rw [h2 x hx]; simp
    rw [this]; rfl
  · rw [h1]
    have : l.any p = true := List.any_eq_true.2 ⟨_, List.getElem_mem hk, h2⟩
    rw [this]; simp
set_option maxHeartbeats 1000000 in
theorem contStr_any (o : Own) (l : List Str) (p : Str → Bool) (g : FuncId) (c : List PV) (m : M) (hf : ∀ k (hk : k < l.length), ACalls Tryd.prog g (pS l[k] :: c) m (fun v m' => v = pB (p l[k]) ∧ m' = m)) :
    ACalls Tryd.prog 39 [.sl o (l.map pS), .fn (.func g) [] c] m (fun v m' => v = pB (l.any p) ∧ m' = m) := by
  have hx := idxStr_any o l p g c m hf
  refine ACalls.enter (mu := []) ok_mix Tryd.func39 rfl (by kernel_rfl) (by kernel_rfl) (by simp only [List.length_cons, List.length_nil, Tryd.ntmps39]; omega) ?_
  (repeat (first | refine aSeq fun X hX => ?_ | refine aBlk ?_ | refine aSkip ?_ | (first | refine aExit ?_ | refine aRet ?_); try simp only [slx, ↓reduceIte, Nat.reduceEqDiff, reduceCtorEq] | (first | refine aReg ?_ | refine aIf ?_); simp -implicitDefEqProofs only [forall_eq, ↓slp, slb, ↓reduceIte, reduceCtorEq, jA, jB, jC, jD, jE, jF, jG, jH, jI, jJ, jK, tfNdO]; try simp only [Ex.fold, Ex.foldcs, ← Va.pv.eq_1] | refine hX _ _ ?_; clear hX X | clear hX X; refine hX _ _ ?_; clear hX X | clear hX X; clear hX X; refine hX _ _ ?_; clear hX X | intro hlen; unfold maxLen at hlen | apply And.intro; focus (first | omega | assumption | (repeat' apply And.intro) <;> first | omega | assumption)))
  refine callE hx ?_
  simp -implicitDefEqProofs only [↓slp, slb, ↓reduceIte, reduceCtorEq, jA, jB, jC, jD, jE, jF, jG, jH, jI, jJ, jK, tfNdO, pI]; try simp only [Ex.fold, Ex.foldcs, ← Va.pv.eq_1]
  (repeat (first | refine aSeq fun X hX => ?_ | refine aBlk ?_ | refine aSkip ?_ | (first | refine aExit ?_ | refine aRet ?_); try simp only [slx, ↓reduceIte, Nat.reduceEqDiff, reduceCtorEq] | (first | refine aReg ?_ | refine aIf ?_); simp -implicitDefEqProofs only [forall_eq, ↓slp, slb, ↓reduceIte, reduceCtorEq, jA, jB, jC, jD, jE, jF, jG, jH, jI, jJ, jK, tfNdO]; try simp only [Ex.fold, Ex.foldcs, ← Va.pv.eq_1] | refine hX _ _ ?_; clear hX X | clear hX X; refine hX _ _ ?_; clear hX X | clear hX X; clear hX X; refine hX _ _ ?_; clear hX X | intro hlen; unfold maxLen at hlen | apply And.intro; focus (first | omega | assumption | (repeat' apply And.intro) <;> first | omega | assumption)))
  simp only [aPost, Tryd.results39, aRes_n, aRes_t, aRes_c, pack_one, pack_two]
  exact leave_same rfl ⟨congrArg pB (idxF_any p l), rfl⟩
set_option maxHeartbeats 1000000 in
theorem ordC_any (es : List PV) (ns : List No) (out : List Str) (o : Own) (a : Nat) (s : Str) (m : M) (hg : m.get a = some [.sl o (out.map pS)]) :
    ACalls Tryd.prog 40 [pS s, .bp a 0, .ep [.sl .no es, .sl .no (ns.map No.pv)]] m (fun v m' => v = pB (lacks ns out s) ∧ m' = m) := by
  have hcs := contains_any o out s m
  have hfn := findNode_any .no es ns s m
  refine ACalls.enter (mu := []) ok_mix Tryd.func40 rfl (by kernel_rfl) (by kernel_rfl) (by simp only [List.length_cons, List.length_nil, Tryd.ntmps40]; omega) ?_
  (repeat (first | refine aSeq fun X hX => ?_ | refine aBlk ?_ | refine aSkip ?_ | (first | refine aExit ?_ | refine aRet ?_); try simp only [slx, ↓reduceIte, Nat.reduceEqDiff, reduceCtorEq] | (first | refine aReg ?_ | refine aIf ?_); simp -implicitDefEqProofs only [forall_eq, ↓slp, slb, ↓reduceIte, reduceCtorEq, jA, jB, jC, jD, jE, jF, jG, jH, jI, jJ, jK, tfNdO, hg, pS]; try simp only [Ex.fold, Ex.foldcs, ← Va.pv.eq_1] | refine hX _ _ ?_; clear hX X | clear hX X; refine hX _ _ ?_; clear hX X | clear hX X; clear hX X; refine hX _ _ ?_; clear hX X | intro hlen; unfold maxLen at hlen | apply And.intro; focus (first | omega | assumption | (repeat' apply And.intro) <;> first | omega | assumption)))
  refine callE hcs ?_
  cases c1 : hasS out s with
  | true =>
    have hl : lacks ns out s = false := by unfold lacks; rw [c1]; rfl
    simp -implicitDefEqProofs only [↓slp, slb, ↓reduceIte, reduceCtorEq, jA, jB, jC, jD, jE, jF, jG, jH, jI, jJ, jK, tfNdO, pB, c1]; try simp only [Ex.fold, Ex.foldcs, ← Va.pv.eq_1]
    (repeat (first | refine aSeq fun X hX => ?_ | refine aBlk ?_ | refine aSkip ?_ | (first | refine aExit ?_ | refine aRet ?_); try simp only [slx, ↓reduceIte, Nat.reduceEqDiff, reduceCtorEq] | (first | refine aReg ?_ | refine aIf ?_); simp -implicitDefEqProofs only [forall_eq, ↓slp, slb, ↓reduceIte, reduceCtorEq, jA, jB, jC, jD, jE, jF, jG, jH, jI, jJ, jK, tfNdO]; try simp only [Ex.fold, Ex.foldcs, ← Va.pv.eq_1] | refine hX _ _ ?_; clear hX X | clear hX X; refine hX _ _ ?_; clear hX X | clear hX X; clear hX X; refine hX _ _ ?_; clear hX X | intro hlen; unfold maxLen at hlen | apply And.intro; focus (first | omega | assumption | (repeat' apply And.intro) <;> first | omega | assumption)))
    simp only [aPost, Tryd.results40, aRes_n, aRes_t, aRes_c, pack_one, pack_two]
    exact leave_same rfl ⟨by rw [hl]; rfl, rfl⟩
  | false =>
    have hl : lacks ns out s = decide (idxF (fun n : No => eqS n.name s) ns 0 ≥ 0) := by unfold lacks; rw [c1]; rfl
    simp -implicitDefEqProofs only [↓slp, slb, ↓reduceIte, reduceCtorEq, jA, jB, jC, jD, jE, jF, jG, jH, jI, jJ, jK, tfNdO, pB, c1]; try simp only [Ex.fold, Ex.foldcs, ← Va.pv.eq_1]
    (repeat (first | refine aSeq fun X hX => ?_ | refine aBlk ?_ | refine aSkip ?_ | (first | refine aExit ?_ | refine aRet ?_); try simp only [slx, ↓reduceIte, Nat.reduceEqDiff, reduceCtorEq] | (first | refine aReg ?_ | refine aIf ?_); simp -implicitDefEqProofs only [forall_eq, ↓slp, slb, ↓reduceIte, reduceCtorEq, jA, jB, jC, jD, jE, jF, jG, jH, jI, jJ, jK, tfNdO]; try simp only [Ex.fold, Ex.foldcs, ← Va.pv.eq_1] | refine hX _ _ ?_; clear hX X | clear hX X; refine hX _ _ ?_; clear hX X | clear hX X; clear hX X; refine hX _ _ ?_; clear hX X | intro hlen; unfold maxLen at hlen | apply And.intro; focus (first | omega | assumption | (repeat' apply And.intro) <;> first | omega | assumption)))
    refine callE hfn ?_
    simp -implicitDefEqProofs only [↓slp, slb, ↓reduceIte, reduceCtorEq, jA, jB, jC, jD, jE, jF, jG, jH, jI, jJ, jK, tfNdO, pI]; try simp only [Ex.fold, Ex.foldcs, ← Va.pv.eq_1]
    (repeat (first | refine aSeq fun X hX => ?_ | refine aBlk ?_ | refine aSkip ?_ | (first | refine aExit ?_ | refine aRet ?_); try simp only [slx, ↓reduceIte, Nat.reduceEqDiff, reduceCtorEq] | (first | refine aReg ?_ | refine aIf ?_); simp -implicitDefEqProofs only [forall_eq, ↓slp, slb, ↓reduceIte, reduceCtorEq, jA, jB, jC, jD, jE, jF, jG, jH, jI, jJ, jK, tfNdO]; try simp only [Ex.fold, Ex.foldcs, ← Va.pv.eq_1] | refine hX _ _ ?_; clear hX X | clear hX X; refine hX _ _ ?_; clear hX X | clear hX X; clear hX X; refine hX _ _ ?_; clear hX X | intro hlen; unfold maxLen at hlen | apply And.intro; focus (first | omega | assumption | (repeat' apply And.intro) <;> first | omega | assumption)))
    simp only [aPost, Tryd.results40, aRes_n, aRes_t, aRes_c, pack_one, pack_two]
    exact leave_same rfl ⟨by rw [hl]; rfl, rfl⟩
theorem not_ge0 (i : Int) : (!(!false && decide (i ≥ 0))) = decide (i < 0) := by
  by_cases h : i < 0 <;> simp [h] <;> omega
theorem find_none {ns : List No} {out : List Str} (h : ∀ j (h : j < ns.length), nextQ ns out ns[j] = false) : ns.find? (nextQ ns out) = none :=
  List.find?_eq_none.2 (fun x hx => by obtain ⟨j, hj, rfl⟩ := List.getElem_of_mem hx; rw [h j hj]; simp)
theorem find_some {ns : List No} {out : List Str} {k : Nat} (hk : k < ns.length) (h1 : nextQ ns out ns[k] = true) (h : ∀ j (hj : j < k) (h : j < ns.length), nextQ ns out ns[j] = false) : ns.find? (nextQ ns out) = some ns[k] :=
  List.find?_eq_some_iff_getElem.2 ⟨h1, k, hk, rfl, fun j hj => by rw [h j hj (by omega)]; rfl⟩
set_option maxHeartbeats 8000000 in
theorem order_any {S : List Str} (hS : S.length ≤ 1000) (es : List PV) (ns : List No) (hC : ∀ n ∈ ns, FlatC S n.b.eqs) (hl : ns.length ≤ 1000) (m : M) :
    ACalls Tryd.prog 18 [.ag [.sl .no es, .sl .no (ns.map No.pv)]] m (fun v m' => v = .sl .no ((orderN ns ns.length []).map pS) ∧ m' = m) := by
  have hct := fun (o : Own) (l : List Str) (s : Str) (m : M) => contains_any o l s m
  obtain ⟨R, hR⟩ : ∃ R, orderN ns ns.length [] = R := ⟨_, rfl⟩
  rw [hR]
  refine ACalls.enter (mu := [3]) ok_mix Tryd.func18 rfl (by kernel_rfl) (by kernel_rfl) (by simp only [List.length_cons, List.length_nil, Tryd.ntmps18]; omega) ?_
  (repeat (first | refine aSeq fun X hX => ?_ | refine aBlk ?_ | refine aSkip ?_ | (first | refine aExit ?_ | refine aRet ?_); try simp only [slx, ↓reduceIte, Nat.reduceEqDiff, reduceCtorEq] | (first | refine aReg ?_ | refine aIf ?_); simp -implicitDefEqProofs only [forall_eq, ↓slp, slb, ↓reduceIte, reduceCtorEq, jA, jB, jC, jD, jE, jF, jG, jH, jI, jJ, jK, tfNdO]; try simp only [Ex.fold, Ex.foldcs, ← Va.pv.eq_1] | refine hX _ _ ?_; clear hX X | clear hX X; refine hX _ _ ?_; clear hX X | clear hX X; clear hX X; refine hX _ _ ?_; clear hX X | intro hlen; unfold maxLen at hlen | apply And.intro; focus (first | omega | assumption | (repeat' apply And.intro) <;> first | omega | assumption)))
  refine aLoopN (fun n f m' => ∃ (out : List Str) (o : Own) (mm : M), n = ns.length - out.length ∧ out.length ≤ ns.length ∧ orderN ns (ns.length - out.length) out = R ∧ f 1 = .ep [.sl .no es, .sl .no (ns.map No.pv)] ∧ f 3 = .bp m.nb 0 ∧ Toks m mm ∧ Mine m mm o 1 ∧ mm.ext [some [.sl o (out.map pS)]] = m') ns.length ?_ ?_
  · exact ⟨[], .full, m, rfl, by simp, hR, rfl, rfl, .refl _, .full, rfl⟩
  intro W n f m' hJ hW
  obtain ⟨out, o, mm, hn, hol, hnd, f1, f3, htk, hmi, rfl⟩ := hJ
  have hnb := htk.nb
  have hg : (mm.ext [some [.sl o (out.map pS)]]).get m.nb = some [.sl o (out.map pS)] := by rw [← hnb]; exact ext_get (i := 0) rfl
  cases c1 : decide ((out.length : Int) < (ns.length : Int)) with
  | false =>
    have hoo : ns.length - out.length = 0 := by simp at c1; omega
    rw [hoo] at hnd
    have hlR : out = R := hnd
    subst hlR
    (repeat (first | refine aSeq fun X hX => ?_ | refine aBlk ?_ | refine aSkip ?_ | (first | refine aExit ?_ | refine aRet ?_); try simp only [slx, ↓reduceIte, Nat.reduceEqDiff, reduceCtorEq] | (first | refine aReg ?_ | refine aIf ?_); simp -implicitDefEqProofs only [forall_eq, ↓slp, slb, ↓reduceIte, reduceCtorEq, jA, jB, jC, jD, jE, jF, jG, jH, jI, jJ, jK, tfNdO, f1, f3, hg, c1]; try simp only [Ex.fold, Ex.foldcs, ← Va.pv.eq_1] | refine hX _ _ ?_; clear hX X | clear hX X; refine hX _ _ ?_; clear hX X | clear hX X; clear hX X; refine hX _ _ ?_; clear hX X | intro hlen; unfold maxLen at hlen | apply And.intro; focus (first | omega | assumption | (repeat' apply And.intro) <;> first | omega | assumption)))
    simp only [aPost, Tryd.results18, aRes_n, aRes_t, aRes_c, pack_one, pack_two]
    exact leave_toks htk rfl ⟨rfl, rfl⟩
  | true =>
    have hlt0 : out.length < ns.length := by simpa using c1
    obtain ⟨d, hd⟩ : ∃ d, ns.length - out.length = d + 1 := ⟨ns.length - out.length - 1, by omega⟩
    rw [hd] at hnd
    (repeat (first | refine aSeq fun X hX => ?_ | refine aBlk ?_ | refine aSkip ?_ | (first | refine aExit ?_ | refine aRet ?_); try simp only [slx, ↓reduceIte, Nat.reduceEqDiff, reduceCtorEq] | (first | refine aReg ?_ | refine aIf ?_); simp -implicitDefEqProofs only [forall_eq, ↓slp, slb, ↓reduceIte, reduceCtorEq, jA, jB, jC, jD, jE, jF, jG, jH, jI, jJ, jK, tfNdO, f1, f3, hg, c1]; try simp only [Ex.fold, Ex.foldcs, ← Va.pv.eq_1] | refine hX _ _ ?_; clear hX X | clear hX X; refine hX _ _ ?_; clear hX X | clear hX X; clear hX X; refine hX _ _ ?_; clear hX X | intro hlen; unfold maxLen at hlen | apply And.intro; focus (first | omega | assumption | (repeat' apply And.intro) <;> first | omega | assumption)))
    obtain ⟨J, hJ⟩ : ∃ J : F → M → Prop, ∀ f m', J f m' = (∃ k : Nat, k ≤ ns.length ∧ (∀ j (hj : j < k) (h : j < ns.length), nextQ ns out ns[j] = false) ∧ f 1 = .ep [.sl .no es, .sl .no (ns.map No.pv)] ∧ f 3 = .bp m.nb 0 ∧ f 4 = pI out.length ∧ f 17 = .sl .no (ns.map No.pv) ∧ f 18 = pI ns.length ∧ f 19 = pI k ∧ mm.ext [some [.sl o (out.map pS)]] = m') := ⟨_, fun _ _ => rfl⟩
    refine aLoop J (fun f m => ns.length - numOf (f 19)) ?_ ?_
    · rw [hJ]; exact ⟨0, by omega, (fun j hj => by omega), f1, f3, rfl, rfl, rfl, rfl, rfl⟩
    clear f1 f3
    intro f m' hrel
    rw [hJ] at hrel
    obtain ⟨k, hk, hq, f1, f3, f4, f17, f18, f19, rfl⟩ := hrel
    cases c2 : decide ((k : Int) < (ns.length : Int)) with
    | false =>
      have hkk : k = ns.length := by simp at c2; omega
      subst hkk
      have hfn := find_none (fun j hj => hq j hj hj)
      have hRn : R = [] := by rw [← hnd]; unfold orderN; rw [hfn]
      subst hRn
      have ce : ((out.length : Int) == (out.length : Int)) = true := by simp
      (repeat (first | refine aSeq fun X hX => ?_ | refine aBlk ?_ | refine aSkip ?_ | (first | refine aExit ?_ | refine aRet ?_); try simp only [slx, ↓reduceIte, Nat.reduceEqDiff, reduceCtorEq] | (first | refine aReg ?_ | refine aIf ?_); simp -implicitDefEqProofs only [forall_eq, ↓slp, slb, ↓reduceIte, reduceCtorEq, jA, jB, jC, jD, jE, jF, jG, jH, jI, jJ, jK, tfNdO, f1, f3, f4, f17, f18, f19, pI, c2, hg, ce]; try simp only [Ex.fold, Ex.foldcs, ← Va.pv.eq_1] | refine hX _ _ ?_; clear hX X | clear hX X; refine hX _ _ ?_; clear hX X | clear hX X; clear hX X; refine hX _ _ ?_; clear hX X | intro hlen; unfold maxLen at hlen | apply And.intro; focus (first | omega | assumption | (repeat' apply And.intro) <;> first | omega | assumption)))
      simp only [aPost, Tryd.results18, aRes_n, aRes_t, aRes_c, pack_one, pack_two]
      exact leave_toks htk rfl ⟨rfl, rfl⟩
    | true =>
      have hlt : k < ns.length := by simpa using c2
      have g0 := getD_map No.pv ns k hlt
      have hi : IntKind.i64.wrap ((k : Int) + 1) = ((k + 1 : Nat) : Int) := by rw [wrap64 (by omega)]; omega
      have hme : numOf (f 19) = k := by rw [f19]; exact Int.toNat_natCast k
      have hco := ((hC ns[k] (List.getElem_mem hlt)).own hS).1 ns[k].b.vars
      have hfs := find_some (out := out) hlt
      have hnq : nextQ ns out ns[k] = false → ∀ j (hj : j < k + 1) (h : j < ns.length), nextQ ns out ns[j] = false := fun h j hj h2 => by
        rcases Nat.lt_or_ge j k with h3 | h3
        · exact hq j h3 h2
        · obtain rfl : j = k := by omega
          exact h
      have hqe : nextQ ns out ns[k] = (!((callsF 0 ns[k].b.eqs).any (lacks ns out)) && !hasS out ns[k].name) := rfl
      have hcf := fun o2 => contStr_any o2 (callsF 0 ns[k].b.eqs) (lacks ns out) 40 [.bp m.nb 0, .ep [.sl .no es, .sl .no (ns.map No.pv)]] (mm.ext [some [.sl o (out.map pS)]]) (fun j hj => ordC_any es ns out o m.nb _ _ hg)
      have hcn := hct o out ns[k].name
      obtain ⟨x, hx⟩ : ∃ x, ns[k] = x := ⟨_, rfl⟩
      rw [hx] at hco hfs hnq hqe hcf hcn g0
      (repeat (first | refine aSeq fun X hX => ?_ | refine aBlk ?_ | refine aSkip ?_ | (first | refine aExit ?_ | refine aRet ?_); try simp only [slx, ↓reduceIte, Nat.reduceEqDiff, reduceCtorEq] | (first | refine aReg ?_ | refine aIf ?_); simp -implicitDefEqProofs only [forall_eq, ↓slp, slb, ↓reduceIte, reduceCtorEq, jA, jB, jC, jD, jE, jF, jG, jH, jI, jJ, jK, tfNdO, f1, f3, f4, f17, f18, f19, pI, c2, g0]; try simp only [Ex.fold, Ex.foldcs, ← Va.pv.eq_1] | refine hX _ _ ?_; clear hX X | clear hX X; refine hX _ _ ?_; clear hX X | clear hX X; clear hX X; refine hX _ _ ?_; clear hX X | intro hlen; unfold maxLen at hlen | apply And.intro; focus (first | omega | assumption | (repeat' apply And.intro) <;> first | omega | assumption)))
      refine callE (hco _) ?_
      simp -implicitDefEqProofs only [↓slp, slb, ↓reduceIte, reduceCtorEq, jA, jB, jC, jD, jE, jF, jG, jH, jI, jJ, jK, tfNdO]; try simp only [Ex.fold, Ex.foldcs, ← Va.pv.eq_1]
      (repeat (first | refine aSeq fun X hX => ?_ | refine aBlk ?_ | refine aSkip ?_ | (first | refine aExit ?_ | refine aRet ?_); try simp only [slx, ↓reduceIte, Nat.reduceEqDiff, reduceCtorEq] | (first | refine aReg ?_ | refine aIf ?_); simp -implicitDefEqProofs only [forall_eq, ↓slp, slb, ↓reduceIte, reduceCtorEq, jA, jB, jC, jD, jE, jF, jG, jH, jI, jJ, jK, tfNdO, f1, f3]; try simp only [Ex.fold, Ex.foldcs, ← Va.pv.eq_1] | refine hX _ _ ?_; clear hX X | clear hX X; refine hX _ _ ?_; clear hX X | clear hX X; clear hX X; refine hX _ _ ?_; clear hX X | intro hlen; unfold maxLen at hlen | apply And.intro; focus (first | omega | assumption | (repeat' apply And.intro) <;> first | omega | assumption)))
      have hcf2 := hcf .no
      rw [← f3, ← f1] at hcf2
      refine callE hcf2 ?_
      cases c3 : (callsF 0 x.b.eqs).any (lacks ns out) with
      | true =>
        rw [c3] at hqe
        simp -implicitDefEqProofs only [↓slp, slb, ↓reduceIte, reduceCtorEq, jA, jB, jC, jD, jE, jF, jG, jH, jI, jJ, jK, tfNdO, pB, c3]; try simp only [Ex.fold, Ex.foldcs, ← Va.pv.eq_1]
        (repeat (first | refine aSeq fun X hX => ?_ | refine aBlk ?_ | refine aSkip ?_ | (first | refine aExit ?_ | refine aRet ?_); try simp only [slx, ↓reduceIte, Nat.reduceEqDiff, reduceCtorEq] | (first | refine aReg ?_ | refine aIf ?_); simp -implicitDefEqProofs only [forall_eq, ↓slp, slb, ↓reduceIte, reduceCtorEq, jA, jB, jC, jD, jE, jF, jG, jH, jI, jJ, jK, tfNdO, f19, pI, hi]; try simp only [Ex.fold, Ex.foldcs, ← Va.pv.eq_1] | refine hX _ _ ?_; clear hX X | clear hX X; refine hX _ _ ?_; clear hX X | clear hX X; clear hX X; refine hX _ _ ?_; clear hX X | intro hlen; unfold maxLen at hlen | apply And.intro; focus (first | omega | assumption | (repeat' apply And.intro) <;> first | omega | assumption)))
        rw [hJ]
        exact ⟨⟨k + 1, hlt, hnq (by rw [hqe]; rfl), f1, f3, f4, f17, f18, rfl, rfl⟩, by omega⟩
      | false =>
        rw [c3] at hqe
        simp -implicitDefEqProofs only [↓slp, slb, ↓reduceIte, reduceCtorEq, jA, jB, jC, jD, jE, jF, jG, jH, jI, jJ, jK, tfNdO, pB, c3]; try simp only [Ex.fold, Ex.foldcs, ← Va.pv.eq_1]
        (repeat (first | refine aSeq fun X hX => ?_ | refine aBlk ?_ | refine aSkip ?_ | (first | refine aExit ?_ | refine aRet ?_); try simp only [slx, ↓reduceIte, Nat.reduceEqDiff, reduceCtorEq] | (first | refine aReg ?_ | refine aIf ?_); simp -implicitDefEqProofs only [forall_eq, ↓slp, slb, ↓reduceIte, reduceCtorEq, jA, jB, jC, jD, jE, jF, jG, jH, jI, jJ, jK, tfNdO, f1, f3, hg]; try simp only [Ex.fold, Ex.foldcs, ← Va.pv.eq_1] | refine hX _ _ ?_; clear hX X | clear hX X; refine hX _ _ ?_; clear hX X | clear hX X; clear hX X; refine hX _ _ ?_; clear hX X | intro hlen; unfold maxLen at hlen | apply And.intro; focus (first | omega | assumption | (repeat' apply And.intro) <;> first | omega | assumption)))
        refine callE (hcn _) ?_
        cases c4 : hasS out x.name with
        | true =>
          rw [c4] at hqe
          simp -implicitDefEqProofs only [↓slp, slb, ↓reduceIte, reduceCtorEq, jA, jB, jC, jD, jE, jF, jG, jH, jI, jJ, jK, tfNdO, pB, c4]; try simp only [Ex.fold, Ex.foldcs, ← Va.pv.eq_1]
          (repeat (first | refine aSeq fun X hX => ?_ | refine aBlk ?_ | refine aSkip ?_ | (first | refine aExit ?_ | refine aRet ?_); try simp only [slx, ↓reduceIte, Nat.reduceEqDiff, reduceCtorEq] | (first | refine aReg ?_ | refine aIf ?_); simp -implicitDefEqProofs only [forall_eq, ↓slp, slb, ↓reduceIte, reduceCtorEq, jA, jB, jC, jD, jE, jF, jG, jH, jI, jJ, jK, tfNdO, f19, pI, hi]; try simp only [Ex.fold, Ex.foldcs, ← Va.pv.eq_1] | refine hX _ _ ?_; clear hX X | clear hX X; refine hX _ _ ?_; clear hX X | clear hX X; clear hX X; refine hX _ _ ?_; clear hX X | intro hlen; unfold maxLen at hlen | apply And.intro; focus (first | omega | assumption | (repeat' apply And.intro) <;> first | omega | assumption)))
          rw [hJ]
          exact ⟨⟨k + 1, hlt, hnq (by rw [hqe]; rfl), f1, f3, f4, f17, f18, rfl, rfl⟩, by omega⟩
        | false =>
          rw [c4] at hqe
          have hfx := hfs (by rw [hqe]; rfl) hq
          have hnd2 : orderN ns d (out ++ [x.name]) = R := by rw [← hnd, orderN, hfx]
          have hfr := hmi.free
          have hLa := strs_one out
          have h1c : ∀ y ∈ [pS x.name], y.cells.length = 1 := strs_one [x.name]
          have hmx2 : out.length + 1 ≤ maxLen := by unfold maxLen; omega
          have ce : (((out.length + 1 : Nat) : Int) == (out.length : Int)) = false := by simp; omega
          simp -implicitDefEqProofs only [↓slp, slb, ↓reduceIte, reduceCtorEq, jA, jB, jC, jD, jE, jF, jG, jH, jI, jJ, jK, tfNdO, pB, c4]; try simp only [Ex.fold, Ex.foldcs, ← Va.pv.eq_1]
          (repeat (first | refine aSeq fun X hX => ?_ | refine aBlk ?_ | refine aSkip ?_ | (first | refine aExit ?_ | refine aRet ?_); try simp only [slx, ↓reduceIte, Nat.reduceEqDiff, reduceCtorEq] | (first | refine aReg ?_ | refine aIf ?_); simp -implicitDefEqProofs only [forall_eq, ↓slp, slb, ↓reduceIte, reduceCtorEq, jA, jB, jC, jD, jE, jF, jG, jH, jI, jJ, jK, tfNdO, f1, f3, f4, hg, hnb, pI, pS, ce, List.set_cons_zero, List.length_append, List.length_cons, List.length_nil, List.length_map]; try simp only [Ex.fold, Ex.foldcs, ← Va.pv.eq_1] | refine hX _ _ ?_; clear hX X | clear hX X; refine hX _ _ ?_; clear hX X | clear hX X; clear hX X; refine hX _ _ ?_; clear hX X | intro hlen; unfold maxLen at hlen | apply And.intro; focus (first | omega | assumption | (repeat' apply And.intro) <;> first | omega | assumption)))
          refine hW d _ _ (by omega) ⟨out ++ [x.name], .tok mm.nt, (o.use mm).fresh 1, by simp; omega, by simp; omega, ?_, f1, f3, htk.use hmi, Mine.new htk o 1, by rw [List.map_append]; rfl⟩
          rw [show ns.length - (out ++ [x.name]).length = d by simp; omega]
          exact hnd2
theorem addL_nd : ∀ (l a : List Str), (a ++ l).Nodup → addL a l = a ++ l
  | [], a, _ => by rw [List.append_nil]; rfl
  | s :: r, a, h => by
    have h1 : addL a (s :: r) = addL (addS a s) r := rfl
    have h2 : hasS a s = false := by
      cases c : hasS a s with
      | false => rfl
      | true =>
        have := (hasS_iff s a).1 c
        exact absurd rfl ((List.nodup_append.1 h).2.2 s this s (List.mem_cons_self ..))
    have h3 : addS a s = a ++ [s] := by unfold addS; rw [h2]; rfl
    rw [h1, h3, addL_nd r (a ++ [s]) (by rw [List.append_assoc]; exact h), List.append_assoc]
    rfl
set_option maxHeartbeats 8000000 in
theorem rorder_any {S : List Str} (hS : S.length ≤ 1000) (es : List PV) (ns : List No) (hC : ∀ n ∈ ns, FlatC S n.b.eqs) (hl : ns.length ≤ 1000) (m : M) :
    ACalls Tryd.prog 19 [.ag [.sl .no es, .sl .no (ns.map No.pv)]] m (fun v m' => v = .sl .no ((orderN ns ns.length []).map pS) ∧ m' = m) := by
  have hrh := fun (o : Own) (l : List Str) (s : Str) (m : M) => rHas_any o l s m
  have hfn := fun (x : Str) (m : M) => rNode_any es ns (by omega) x m
  obtain ⟨R, hR⟩ : ∃ R, orderN ns ns.length [] = R := ⟨_, rfl⟩
  rw [hR]
  refine ACalls.enter (mu := []) ok_mix Tryd.func19 rfl (by kernel_rfl) (by kernel_rfl) (by simp only [List.length_cons, List.length_nil, Tryd.ntmps19]; omega) ?_
  (repeat (first | refine aSeq fun X hX => ?_ | refine aBlk ?_ | refine aSkip ?_ | (first | refine aExit ?_ | refine aRet ?_); try simp only [slx, ↓reduceIte, Nat.reduceEqDiff, reduceCtorEq] | (first | refine aReg ?_ | refine aIf ?_); simp -implicitDefEqProofs only [forall_eq, ↓slp, slb, ↓reduceIte, reduceCtorEq, jA, jB, jC, jD, jE, jF, jG, jH, jI, jJ, jK, tfNdO]; try simp only [Ex.fold, Ex.foldcs, ← Va.pv.eq_1] | refine hX _ _ ?_; clear hX X | clear hX X; refine hX _ _ ?_; clear hX X | clear hX X; clear hX X; refine hX _ _ ?_; clear hX X | intro hlen; unfold maxLen at hlen | apply And.intro; focus (first | omega | assumption | (repeat' apply And.intro) <;> first | omega | assumption)))
  refine aLoopN (fun n f m' => ∃ (out : List Str) (o : Own) (mm : M), n = ns.length - out.length ∧ out.length ≤ ns.length ∧ orderN ns (ns.length - out.length) out = R ∧ f 1 = .ep [.sl .no es, .sl .no (ns.map No.pv)] ∧ f 3 = .sl o (out.map pS) ∧ Toks m mm ∧ Mine m mm o 1 ∧ mm = m') ns.length ?_ ?_
  · exact ⟨[], .full, m, rfl, by simp, hR, rfl, rfl, .refl _, .full, rfl⟩
  intro W n f m' hJ hW
  obtain ⟨out, o, mm, hn, hol, hnd, f1, f3, htk, hmi, rfl⟩ := hJ
  cases c1 : decide ((out.length : Int) < (ns.length : Int)) with
  | false =>
    have hoo : ns.length - out.length = 0 := by simp at c1; omega
    rw [hoo] at hnd
    have hlR : out = R := hnd
    subst hlR
    (repeat (first | refine aSeq fun X hX => ?_ | refine aBlk ?_ | refine aSkip ?_ | (first | refine aExit ?_ | refine aRet ?_); try simp only [slx, ↓reduceIte, Nat.reduceEqDiff, reduceCtorEq] | (first | refine aReg ?_ | refine aIf ?_); simp -implicitDefEqProofs only [forall_eq, ↓slp, slb, ↓reduceIte, reduceCtorEq, jA, jB, jC, jD, jE, jF, jG, jH, jI, jJ, jK, tfNdO, f1, f3, c1]; try simp only [Ex.fold, Ex.foldcs, ← Va.pv.eq_1] | refine hX _ _ ?_; clear hX X | clear hX X; refine hX _ _ ?_; clear hX X | clear hX X; clear hX X; refine hX _ _ ?_; clear hX X | intro hlen; unfold maxLen at hlen | apply And.intro; focus (first | omega | assumption | (repeat' apply And.intro) <;> first | omega | assumption)))
    simp only [aPost, Tryd.results19, aRes_n, aRes_t, aRes_c, pack_one, pack_two]
    simp -implicitDefEqProofs only [↓slp, slb, ↓reduceIte, reduceCtorEq, jA, jB, jC, jD, jE, jF, jG, jH, jI, jJ, jK, tfNdO, f3]; try simp only [Ex.fold, Ex.foldcs, ← Va.pv.eq_1]
    exact leave_toks0 htk rfl ⟨rfl, rfl⟩
  | true =>
    have hlt0 : out.length < ns.length := by simpa using c1
    obtain ⟨d, hd⟩ : ∃ d, ns.length - out.length = d + 1 := ⟨ns.length - out.length - 1, by omega⟩
    rw [hd] at hnd
    (repeat (first | refine aSeq fun X hX => ?_ | refine aBlk ?_ | refine aSkip ?_ | (first | refine aExit ?_ | refine aRet ?_); try simp only [slx, ↓reduceIte, Nat.reduceEqDiff, reduceCtorEq] | (first | refine aReg ?_ | refine aIf ?_); simp -implicitDefEqProofs only [forall_eq, ↓slp, slb, ↓reduceIte, reduceCtorEq, jA, jB, jC, jD, jE, jF, jG, jH, jI, jJ, jK, tfNdO, f1, f3, c1]; try simp only [Ex.fold, Ex.foldcs, ← Va.pv.eq_1] | refine hX _ _ ?_; clear hX X | clear hX X; refine hX _ _ ?_; clear hX X | clear hX X; clear hX X; refine hX _ _ ?_; clear hX X | intro hlen; unfold maxLen at hlen | apply And.intro; focus (first | omega | assumption | (repeat' apply And.intro) <;> first | omega | assumption)))
    obtain ⟨J, hJ⟩ : ∃ J : F → M → Prop, ∀ f m', J f m' = (∃ (k : Nat) (nx : Str) (fd : Bool), k ≤ ns.length ∧ ((fd = false ∧ ∀ j (hj : j < k) (h : j < ns.length), nextQ ns out ns[j] = false) ∨ (fd = true ∧ ∃ x, ns.find? (nextQ ns out) = some x ∧ nx = x.name)) ∧ f 1 = .ep [.sl .no es, .sl .no (ns.map No.pv)] ∧ f 3 = .sl o (out.map pS) ∧ f 4 = pS nx ∧ f 5 = pB fd ∧ f 6 = pI k ∧ mm = m') := ⟨_, fun _ _ => rfl⟩
    refine aLoop J (fun f m => ns.length - numOf (f 6)) ?_ ?_
    · rw [hJ]; exact ⟨0, ⟨#[]⟩, false, by omega, .inl ⟨rfl, fun j hj => by omega⟩, f1, f3, rfl, rfl, rfl, rfl⟩
    clear f1 f3
    intro f m' hrel
    rw [hJ] at hrel
    obtain ⟨k, nx, fd, hk, hq, f1, f3, f4, f5, f6, rfl⟩ := hrel
    have hend : ∀ (f : F), f 1 = .ep [.sl .no es, .sl .no (ns.map No.pv)] → f 3 = .sl o (out.map pS) → f 4 = pS nx → f 5 = pB fd → (fd = false → k = ns.length) → X f mm := by
      clear f1 f3 f4 f5 f6
      intro f f1 f3 f4 f5 hkl
      refine hX _ _ ?_
      clear hX X
      rcases hq with ⟨rfl, hq⟩ | ⟨rfl, x, hfx, rfl⟩
      · obtain rfl := hkl rfl
        have hfn := find_none (fun j hj => hq j hj hj)
        have hRn : R = [] := by rw [← hnd]; unfold orderN; rw [hfn]
        subst hRn
        (repeat (first | refine aSeq fun X hX => ?_ | refine aBlk ?_ | refine aSkip ?_ | (first | refine aExit ?_ | refine aRet ?_); try simp only [slx, ↓reduceIte, Nat.reduceEqDiff, reduceCtorEq] | (first | refine aReg ?_ | refine aIf ?_); simp -implicitDefEqProofs only [forall_eq, ↓slp, slb, ↓reduceIte, reduceCtorEq, jA, jB, jC, jD, jE, jF, jG, jH, jI, jJ, jK, tfNdO, f1, f3, f4, f5, pB]; try simp only [Ex.fold, Ex.foldcs, ← Va.pv.eq_1] | refine hX _ _ ?_; clear hX X | clear hX X; refine hX _ _ ?_; clear hX X | clear hX X; clear hX X; refine hX _ _ ?_; clear hX X | intro hlen; unfold maxLen at hlen | apply And.intro; focus (first | omega | assumption | (repeat' apply And.intro) <;> first | omega | assumption)))
        simp only [aPost, Tryd.results19, aRes_n, aRes_t, aRes_c, pack_one, pack_two]
        exact leave_toks0 htk rfl ⟨rfl, rfl⟩
      · have hnd2 : orderN ns d (out ++ [x.name]) = R := by rw [← hnd, orderN, hfx]
        have hfr := hmi.free
        have hLa := strs_one out
        have h1c : ∀ y ∈ [pS x.name], y.cells.length = 1 := strs_one [x.name]
        have hmx2 : out.length + 1 ≤ maxLen := by unfold maxLen; omega
        (repeat (first | refine aSeq fun X hX => ?_ | refine aBlk ?_ | refine aSkip ?_ | (first | refine aExit ?_ | refine aRet ?_); try simp only [slx, ↓reduceIte, Nat.reduceEqDiff, reduceCtorEq] | (first | refine aReg ?_ | refine aIf ?_); simp -implicitDefEqProofs only [forall_eq, ↓slp, slb, ↓reduceIte, reduceCtorEq, jA, jB, jC, jD, jE, jF, jG, jH, jI, jJ, jK, tfNdO, f1, f3, f4, f5, pB, pS]; try simp only [Ex.fold, Ex.foldcs, ← Va.pv.eq_1] | refine hX _ _ ?_; clear hX X | clear hX X; refine hX _ _ ?_; clear hX X | clear hX X; clear hX X; refine hX _ _ ?_; clear hX X | intro hlen; unfold maxLen at hlen | apply And.intro; focus (first | omega | assumption | (repeat' apply And.intro) <;> first | omega | assumption)))
        refine hW d _ _ (by omega) ⟨out ++ [x.name], .tok mm.nt, (o.use mm).fresh 1, by simp; omega, by simp; omega, ?_, f1, by rw [List.map_append]; rfl, htk.use hmi, Mine.new htk o 1, rfl⟩
        rw [show ns.length - (out ++ [x.name]).length = d by simp; omega]
        exact hnd2
    cases fd with
    | true =>
      cases c2 : decide ((k : Int) < (ns.length : Int)) with
      | true =>
        (repeat (first | refine aSeq fun X hX => ?_ | refine aBlk ?_ | refine aSkip ?_ | (first | refine aExit ?_ | refine aRet ?_); try simp only [slx, ↓reduceIte, Nat.reduceEqDiff, reduceCtorEq] | (first | refine aReg ?_ | refine aIf ?_); simp -implicitDefEqProofs only [forall_eq, ↓slp, slb, ↓reduceIte, reduceCtorEq, jA, jB, jC, jD, jE, jF, jG, jH, jI, jJ, jK, tfNdO, f1, f3, f4, f5, f6, pI, pB, c2]; try simp only [Ex.fold, Ex.foldcs, ← Va.pv.eq_1] | refine hX _ _ ?_; clear hX X | clear hX X; refine hX _ _ ?_; clear hX X | clear hX X; clear hX X; refine hX _ _ ?_; clear hX X | intro hlen; unfold maxLen at hlen | apply And.intro; focus (first | omega | assumption | (repeat' apply And.intro) <;> first | omega | assumption)))
        exact hend _ f1 f3 f4 f5 (fun h => by cases h)
      | false =>
        (repeat (first | refine aSeq fun X hX => ?_ | refine aBlk ?_ | refine aSkip ?_ | (first | refine aExit ?_ | refine aRet ?_); try simp only [slx, ↓reduceIte, Nat.reduceEqDiff, reduceCtorEq] | (first | refine aReg ?_ | refine aIf ?_); simp -implicitDefEqProofs only [forall_eq, ↓slp, slb, ↓reduceIte, reduceCtorEq, jA, jB, jC, jD, jE, jF, jG, jH, jI, jJ, jK, tfNdO, f1, f3, f4, f5, f6, pI, pB, c2]; try simp only [Ex.fold, Ex.foldcs, ← Va.pv.eq_1] | refine hX _ _ ?_; clear hX X | clear hX X; refine hX _ _ ?_; clear hX X | clear hX X; clear hX X; refine hX _ _ ?_; clear hX X | intro hlen; unfold maxLen at hlen | apply And.intro; focus (first | omega | assumption | (repeat' apply And.intro) <;> first | omega | assumption)))
        exact hend _ f1 f3 f4 f5 (fun h => by cases h)
    | false =>
    cases c2 : decide ((k : Int) < (ns.length : Int)) with
    | false =>
      (repeat (first | refine aSeq fun X hX => ?_ | refine aBlk ?_ | refine aSkip ?_ | (first | refine aExit ?_ | refine aRet ?_); try simp only [slx, ↓reduceIte, Nat.reduceEqDiff, reduceCtorEq] | (first | refine aReg ?_ | refine aIf ?_); simp -implicitDefEqProofs only [forall_eq, ↓slp, slb, ↓reduceIte, reduceCtorEq, jA, jB, jC, jD, jE, jF, jG, jH, jI, jJ, jK, tfNdO, f1, f3, f4, f5, f6, pI, pB, c2]; try simp only [Ex.fold, Ex.foldcs, ← Va.pv.eq_1] | refine hX _ _ ?_; clear hX X | clear hX X; refine hX _ _ ?_; clear hX X | clear hX X; clear hX X; refine hX _ _ ?_; clear hX X | intro hlen; unfold maxLen at hlen | apply And.intro; focus (first | omega | assumption | (repeat' apply And.intro) <;> first | omega | assumption)))
      exact hend _ f1 f3 f4 f5 (fun _ => by simp at c2; omega)
    | true =>
      have hq2 : ∀ j (hj : j < k) (h : j < ns.length), nextQ ns out ns[j] = false := by
        rcases hq with ⟨_, h⟩ | ⟨h, _⟩
        · exact h
        · cases h
      have hlt : k < ns.length := by simpa using c2
      have g0 := getD_map No.pv ns k hlt
      have hi : IntKind.i64.wrap ((k : Int) + 1) = ((k + 1 : Nat) : Int) := by rw [wrap64 (by omega)]; omega
      have hme : numOf (f 6) = k := by rw [f6]; exact Int.toNat_natCast k
      have hcn := hC ns[k] (List.getElem_mem hlt)
      have hfs := find_some (out := out) hlt
      have hnq : nextQ ns out ns[k] = false → ∀ j (hj : j < k + 1) (h : j < ns.length), nextQ ns out ns[j] = false := fun h j hj h2 => by
        rcases Nat.lt_or_ge j k with h3 | h3
        · exact hq2 j h3 h2
        · obtain rfl : j = k := by omega
          exact h
      have hqe : nextQ ns out ns[k] = (!((callsF 0 ns[k].b.eqs).any (lacks ns out)) && !hasS out ns[k].name) := rfl
      obtain ⟨x, hx⟩ : ∃ x, ns[k] = x := ⟨_, rfl⟩
      rw [hx] at hcn hfs hnq hqe g0
      have hca := fun m => rCallsD_any hS x.b.vars x.b.eqs hcn.1 hcn.2 [] (.nil S) m
      have hcO := (hcn.own hS).2
      rw [addL_nd _ [] (by rw [List.nil_append]; exact hcO.1), List.nil_append] at hca
      generalize callsF 0 x.b.eqs = C at *
      have hCl := hcO.len
      (repeat (first | refine aSeq fun X hX => ?_ | refine aBlk ?_ | refine aSkip ?_ | (first | refine aExit ?_ | refine aRet ?_); try simp only [slx, ↓reduceIte, Nat.reduceEqDiff, reduceCtorEq] | (first | refine aReg ?_ | refine aIf ?_); simp -implicitDefEqProofs only [forall_eq, ↓slp, slb, ↓reduceIte, reduceCtorEq, jA, jB, jC, jD, jE, jF, jG, jH, jI, jJ, jK, tfNdO, f1, f3, f4, f5, f6, pI, pB, c2, g0]; try simp only [Ex.fold, Ex.foldcs, ← Va.pv.eq_1] | refine hX _ _ ?_; clear hX X | clear hX X; refine hX _ _ ?_; clear hX X | clear hX X; clear hX X; refine hX _ _ ?_; clear hX X | intro hlen; unfold maxLen at hlen | apply And.intro; focus (first | omega | assumption | (repeat' apply And.intro) <;> first | omega | assumption)))
      refine callMS (hca _) (by simp only [List.map_cons, List.map_nil, PV.settle, PV.settles]) ?_
      rintro v mv ⟨rfl, hmv⟩
      subst hmv
      simp -implicitDefEqProofs only [↓slp, slb, ↓reduceIte, reduceCtorEq, jA, jB, jC, jD, jE, jF, jG, jH, jI, jJ, jK, tfNdO]; try simp only [Ex.fold, Ex.foldcs, ← Va.pv.eq_1]
      (repeat (first | refine aSeq fun X hX => ?_ | refine aBlk ?_ | refine aSkip ?_ | (first | refine aExit ?_ | refine aRet ?_); try simp only [slx, ↓reduceIte, Nat.reduceEqDiff, reduceCtorEq] | (first | refine aReg ?_ | refine aIf ?_); simp -implicitDefEqProofs only [forall_eq, ↓slp, slb, ↓reduceIte, reduceCtorEq, jA, jB, jC, jD, jE, jF, jG, jH, jI, jJ, jK, tfNdO, f1, f3, f6, g0, pI]; try simp only [Ex.fold, Ex.foldcs, ← Va.pv.eq_1] | refine hX _ _ ?_; clear hX X | clear hX X; refine hX _ _ ?_; clear hX X | clear hX X; clear hX X; refine hX _ _ ?_; clear hX X | intro hlen; unfold maxLen at hlen | apply And.intro; focus (first | omega | assumption | (repeat' apply And.intro) <;> first | omega | assumption)))
      refine callE (hrh o out x.name _) ?_
      simp -implicitDefEqProofs only [↓slp, slb, ↓reduceIte, reduceCtorEq, jA, jB, jC, jD, jE, jF, jG, jH, jI, jJ, jK, tfNdO, pB]; try simp only [Ex.fold, Ex.foldcs, ← Va.pv.eq_1]
      (repeat (first | refine aSeq fun X hX => ?_ | refine aBlk ?_ | refine aSkip ?_ | (first | refine aExit ?_ | refine aRet ?_); try simp only [slx, ↓reduceIte, Nat.reduceEqDiff, reduceCtorEq] | (first | refine aReg ?_ | refine aIf ?_); simp -implicitDefEqProofs only [forall_eq, ↓slp, slb, ↓reduceIte, reduceCtorEq, jA, jB, jC, jD, jE, jF, jG, jH, jI, jJ, jK, tfNdO]; try simp only [Ex.fold, Ex.foldcs, ← Va.pv.eq_1] | refine hX _ _ ?_; clear hX X | clear hX X; refine hX _ _ ?_; clear hX X | clear hX X; clear hX X; refine hX _ _ ?_; clear hX X | intro hlen; unfold maxLen at hlen | apply And.intro; focus (first | omega | assumption | (repeat' apply And.intro) <;> first | omega | assumption)))
      obtain ⟨K, hK⟩ : ∃ K : F → M → Prop, ∀ f m', K f m' = (∃ j : Nat, j ≤ C.length ∧ f 1 = .ep [.sl .no es, .sl .no (ns.map No.pv)] ∧ f 3 = .sl o (out.map pS) ∧ f 4 = pS nx ∧ f 5 = pB false ∧ f 6 = pI k ∧ f 7 = .sl .no (C.map pS) ∧ f 8 = pB (!hasS out x.name && !(C.take j).any (lacks ns out)) ∧ f 9 = pI j ∧ mv = m') := ⟨_, fun _ _ => rfl⟩
      refine aLoop K (fun f m => C.length - numOf (f 9)) ?_ ?_
      · rw [hK]; exact ⟨0, by omega, f1, f3, f4, f5, f6, rfl, by simp; rfl, rfl, rfl⟩
      clear f1 f3 f4 f5 f6
      intro f m' hrel
      rw [hK] at hrel
      obtain ⟨j, hj, f1, f3, f4, f5, f6, f7, f8, f9, rfl⟩ := hrel
      cases c3 : decide ((j : Int) < (C.length : Int)) with
      | false =>
        have hjj : j = C.length := by simp at c3; omega
        subst hjj
        rw [List.take_length] at f8
        have hok : (!hasS out x.name && !C.any (lacks ns out)) = nextQ ns out x := by rw [hqe, Bool.and_comm]
        rw [hok] at f8
        cases c4 : nextQ ns out x with
        | true =>
          rw [c4] at f8
          (repeat (first | refine aSeq fun X hX => ?_ | refine aBlk ?_ | refine aSkip ?_ | (first | refine aExit ?_ | refine aRet ?_); try simp only [slx, ↓reduceIte, Nat.reduceEqDiff, reduceCtorEq] | (first | refine aReg ?_ | refine aIf ?_); simp -implicitDefEqProofs only [forall_eq, ↓slp, slb, ↓reduceIte, reduceCtorEq, jA, jB, jC, jD, jE, jF, jG, jH, jI, jJ, jK, tfNdO, f1, f3, f4, f5, f6, f7, f8, f9, pI, pB, c3, g0, hi]; try simp only [Ex.fold, Ex.foldcs, ← Va.pv.eq_1] | refine hX _ _ ?_; clear hX X | clear hX X; refine hX _ _ ?_; clear hX X | clear hX X; clear hX X; refine hX _ _ ?_; clear hX X | intro hlen; unfold maxLen at hlen | apply And.intro; focus (first | omega | assumption | (repeat' apply And.intro) <;> first | omega | assumption)))
          rw [hJ]
          exact ⟨⟨k + 1, x.name, true, hlt, .inr ⟨rfl, x, hfs c4 hq2, rfl⟩, f1, f3, rfl, rfl, rfl, rfl⟩, by omega⟩
        | false =>
          rw [c4] at f8
          (repeat (first | refine aSeq fun X hX => ?_ | refine aBlk ?_ | refine aSkip ?_ | (first | refine aExit ?_ | refine aRet ?_); try simp only [slx, ↓reduceIte, Nat.reduceEqDiff, reduceCtorEq] | (first | refine aReg ?_ | refine aIf ?_); simp -implicitDefEqProofs only [forall_eq, ↓slp, slb, ↓reduceIte, reduceCtorEq, jA, jB, jC, jD, jE, jF, jG, jH, jI, jJ, jK, tfNdO, f1, f3, f4, f5, f6, f7, f8, f9, pI, pB, c3, g0, hi]; try simp only [Ex.fold, Ex.foldcs, ← Va.pv.eq_1] | refine hX _ _ ?_; clear hX X | clear hX X; refine hX _ _ ?_; clear hX X | clear hX X; clear hX X; refine hX _ _ ?_; clear hX X | intro hlen; unfold maxLen at hlen | apply And.intro; focus (first | omega | assumption | (repeat' apply And.intro) <;> first | omega | assumption)))
          rw [hJ]
          exact ⟨⟨k + 1, nx, false, hlt, .inl ⟨rfl, hnq c4⟩, f1, f3, f4, f5, rfl, rfl⟩, by omega⟩
      | true =>
        have hltj : j < C.length := by simpa using c3
        have gj := getD_map pS C j hltj
        have hij : IntKind.i64.wrap ((j : Int) + 1) = ((j + 1 : Nat) : Int) := by rw [wrap64 (by omega)]; omega
        have hmej : numOf (f 9) = j := by rw [f9]; exact Int.toNat_natCast j
        have hst : (C.take (j + 1)).any (lacks ns out) = ((C.take j).any (lacks ns out) || lacks ns out C[j]) := by
          rw [List.take_succ_eq_append_getElem hltj, List.any_append]; simp
        have hlk : lacks ns out C[j] = (!hasS out C[j] && decide (idxF (fun n : No => eqS n.name C[j]) ns 0 ≥ 0)) := rfl
        obtain ⟨c, hc⟩ : ∃ c, C[j] = c := ⟨_, rfl⟩
        rw [hc] at gj hst hlk
        cases c4 : (!hasS out x.name && !(C.take j).any (lacks ns out)) with
        | false =>
          rw [c4] at f8
          have hb : (!hasS out x.name && !(C.take (j + 1)).any (lacks ns out)) = false := by
            rw [hst, Bool.not_or, ← Bool.and_assoc, c4]; rfl
          (repeat (first | refine aSeq fun X hX => ?_ | refine aBlk ?_ | refine aSkip ?_ | (first | refine aExit ?_ | refine aRet ?_); try simp only [slx, ↓reduceIte, Nat.reduceEqDiff, reduceCtorEq] | (first | refine aReg ?_ | refine aIf ?_); simp -implicitDefEqProofs only [forall_eq, ↓slp, slb, ↓reduceIte, reduceCtorEq, jA, jB, jC, jD, jE, jF, jG, jH, jI, jJ, jK, tfNdO, f1, f3, f4, f5, f6, f7, f8, f9, pI, pB, pS, c3, gj]; try simp only [Ex.fold, Ex.foldcs, ← Va.pv.eq_1] | refine hX _ _ ?_; clear hX X | clear hX X; refine hX _ _ ?_; clear hX X | clear hX X; clear hX X; refine hX _ _ ?_; clear hX X | intro hlen; unfold maxLen at hlen | apply And.intro; focus (first | omega | assumption | (repeat' apply And.intro) <;> first | omega | assumption)))
          (repeat (first | refine aSeq fun X hX => ?_ | refine aBlk ?_ | refine aSkip ?_ | (first | refine aExit ?_ | refine aRet ?_); try simp only [slx, ↓reduceIte, Nat.reduceEqDiff, reduceCtorEq] | (first | refine aReg ?_ | refine aDrE ?_ | refine aIf ?_); simp -implicitDefEqProofs only [forall_eq, ↓slp, slb, ↓reduceIte, reduceCtorEq, jA, jB, jC, jD, jE, jF, jG, jH, jI, jJ, jK, tfNdO, f1, f3, f4, f5, f6, f7, f8, f9, pI, pB, pS, c3, gj, hij]; try simp only [Ex.fold, Ex.foldcs, ← Va.pv.eq_1] | refine hX _ _ ?_; clear hX X | clear hX X; refine hX _ _ ?_; clear hX X | clear hX X; clear hX X; refine hX _ _ ?_; clear hX X | intro hlen; unfold maxLen at hlen | apply And.intro; focus (first | omega | assumption | (repeat' apply And.intro) <;> first | omega | assumption)))
          rw [hK]
          exact ⟨⟨j + 1, hltj, f1, f3, f4, f5, f6, f7, by rw [hb]; rfl, rfl, rfl⟩, by omega⟩
        | true =>
          rw [c4] at f8
          have hb : (!hasS out x.name && !(C.take (j + 1)).any (lacks ns out)) = !lacks ns out c := by
            rw [hst, Bool.not_or, ← Bool.and_assoc, c4]; rfl
          have hrc := hrh o out c
          have hfc := hfn c
          (repeat (first | refine aSeq fun X hX => ?_ | refine aBlk ?_ | refine aSkip ?_ | (first | refine aExit ?_ | refine aRet ?_); try simp only [slx, ↓reduceIte, Nat.reduceEqDiff, reduceCtorEq] | (first | refine aReg ?_ | refine aIf ?_); simp -implicitDefEqProofs only [forall_eq, ↓slp, slb, ↓reduceIte, reduceCtorEq, jA, jB, jC, jD, jE, jF, jG, jH, jI, jJ, jK, tfNdO, f1, f3, f4, f5, f6, f7, f8, f9, pI, pB, pS, c3, gj]; try simp only [Ex.fold, Ex.foldcs, ← Va.pv.eq_1] | refine hX _ _ ?_; clear hX X | clear hX X; refine hX _ _ ?_; clear hX X | clear hX X; clear hX X; refine hX _ _ ?_; clear hX X | intro hlen; unfold maxLen at hlen | apply And.intro; focus (first | omega | assumption | (repeat' apply And.intro) <;> first | omega | assumption)))
          (repeat (first | refine aSeq fun X hX => ?_ | refine aBlk ?_ | refine aSkip ?_ | (first | refine aExit ?_ | refine aRet ?_); try simp only [slx, ↓reduceIte, Nat.reduceEqDiff, reduceCtorEq] | (first | refine aReg ?_ | refine aDrE ?_ | refine aIf ?_); simp -implicitDefEqProofs only [forall_eq, ↓slp, slb, ↓reduceIte, reduceCtorEq, jA, jB, jC, jD, jE, jF, jG, jH, jI, jJ, jK, tfNdO, f1, f3, f4, f5, f6, f7, f8, f9, pI, pB, pS, c3, gj]; try simp only [Ex.fold, Ex.foldcs, ← Va.pv.eq_1] | refine hX _ _ ?_; clear hX X | clear hX X; refine hX _ _ ?_; clear hX X | clear hX X; clear hX X; refine hX _ _ ?_; clear hX X | intro hlen; unfold maxLen at hlen | apply And.intro; focus (first | omega | assumption | (repeat' apply And.intro) <;> first | omega | assumption)))
          refine callE (hrc _) ?_
          cases c5 : hasS out c with
          | true =>
            have hlc : lacks ns out c = false := by rw [hlk, c5]; rfl
            rw [hlc] at hb
            simp -implicitDefEqProofs only [↓slp, slb, ↓reduceIte, reduceCtorEq, jA, jB, jC, jD, jE, jF, jG, jH, jI, jJ, jK, tfNdO, pB, c5, f1, f7, f9, pI, pS, gj]; try simp only [Ex.fold, Ex.foldcs, ← Va.pv.eq_1]
            (repeat (first | refine aSeq fun X hX => ?_ | refine aBlk ?_ | refine aSkip ?_ | (first | refine aExit ?_ | refine aRet ?_); try simp only [slx, ↓reduceIte, Nat.reduceEqDiff, reduceCtorEq] | (first | refine aReg ?_ | refine aIf ?_); simp -implicitDefEqProofs only [forall_eq, ↓slp, slb, ↓reduceIte, reduceCtorEq, jA, jB, jC, jD, jE, jF, jG, jH, jI, jJ, jK, tfNdO, f9, pI, hij]; try simp only [Ex.fold, Ex.foldcs, ← Va.pv.eq_1] | refine hX _ _ ?_; clear hX X | clear hX X; refine hX _ _ ?_; clear hX X | clear hX X; clear hX X; refine hX _ _ ?_; clear hX X | intro hlen; unfold maxLen at hlen | apply And.intro; focus (first | omega | assumption | (repeat' apply And.intro) <;> first | omega | assumption)))
            rw [hK]
            exact ⟨⟨j + 1, hltj, f1, f3, f4, f5, f6, f7, by rw [hb]; rfl, rfl, rfl⟩, by omega⟩
          | false =>
            simp -implicitDefEqProofs only [↓slp, slb, ↓reduceIte, reduceCtorEq, jA, jB, jC, jD, jE, jF, jG, jH, jI, jJ, jK, tfNdO, pB, c5, f1, f7, f9, pI, pS, gj]; try simp only [Ex.fold, Ex.foldcs, ← Va.pv.eq_1]
            refine ⟨hltj, callE (hfc _) ?_⟩
            simp -implicitDefEqProofs only [↓slp, slb, ↓reduceIte, reduceCtorEq, jA, jB, jC, jD, jE, jF, jG, jH, jI, jJ, jK, tfNdO, pI]; try simp only [Ex.fold, Ex.foldcs, ← Va.pv.eq_1]
            (repeat (first | refine aSeq fun X hX => ?_ | refine aBlk ?_ | refine aSkip ?_ | (first | refine aExit ?_ | refine aRet ?_); try simp only [slx, ↓reduceIte, Nat.reduceEqDiff, reduceCtorEq] | (first | refine aReg ?_ | refine aIf ?_); simp -implicitDefEqProofs only [forall_eq, ↓slp, slb, ↓reduceIte, reduceCtorEq, jA, jB, jC, jD, jE, jF, jG, jH, jI, jJ, jK, tfNdO, f9, pI, hij]; try simp only [Ex.fold, Ex.foldcs, ← Va.pv.eq_1] | refine hX _ _ ?_; clear hX X | clear hX X; refine hX _ _ ?_; clear hX X | clear hX X; clear hX X; refine hX _ _ ?_; clear hX X | intro hlen; unfold maxLen at hlen | apply And.intro; focus (first | omega | assumption | (repeat' apply And.intro) <;> first | omega | assumption)))
            rw [hK]
            exact ⟨⟨j + 1, hltj, f1, f3, f4, f5, f6, f7, by rw [hb, hlk, c5, not_ge0]; rfl, rfl, rfl⟩, by omega⟩
end Go.Proofs.YteiaedmipkcfeaaDoor
