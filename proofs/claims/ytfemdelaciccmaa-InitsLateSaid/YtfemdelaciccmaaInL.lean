/-
  Which variables may have no value at first: the two answers, one list.
-/
import Derived.Test.YtfemdelaciccmaaInS
import Derived.Test.YtfemdelaciccmaaAbToks
import Derived.Test.YtfemdelaciccmaaAbMk8c
set_option linter.unusedVariables false
set_option linter.unusedSimpArgs false
namespace Go.Proofs.Ytfemdelaciccmaa
open Nat renaming reduceEqDiff → jA, reduceAdd → jB, reduceMul → jC, reduceLT → jD, reduceLeDiff → jE, reduceBEq → jF, reduceBNe → jG
open Int renaming reduceLE → jH, reduceLT → jI, reduceToNat → jJ, reduceEq → jK
open Go
-- EXX: Qu.settle_pv, Qu.pure_pv, Qu.cells_pv, Qu.cs
set_option maxRecDepth 20000
-- TNAMES: int; uint8; int32; string; bool; []string; []api.Expr; api.Expr; api.Pos; api.Type; api.On; []api.On; api.Var; []api.Var; api.Equation; []api.Equation; api.Block; []uint8
set_option linter.defProp false
def tfInL := And.intro @tfA (And.intro @Ex.settle_pv (And.intro @Ex.pure_pv (And.intro @Ex.cells_pv (And.intro @Ex.cs.eq_1 (And.intro @On.pv.eq_1 (And.intro @Ty.pv.eq_1 (And.intro @Va.settle_pv (And.intro @Va.pure_pv (And.intro @Va.cells_pv (And.intro @Va.cs.eq_1 (And.intro @Qu.settle_pv (And.intro @Qu.pure_pv (And.intro @Qu.cells_pv @Qu.cs.eq_1)))))))))))))

theorem leave_toksB {m0 m : M} {bs : List (Option (List PV))} {v : PV} {R : PV → M → Prop} (h : Toks (m0.ext bs) m) (hv : v.settle.pure = true) (hR : R v.settle m0) : ∃ v' m', Leave m0 m v v' m' ∧ R v' m' :=
  leave_plain (by rw [h.boxes]; simp [M.nb, M.ext]) (by have := h.toks; simpa [M.ext, M.nt] using this) hv hR
theorem lk_nil : lkB [] [] = fun _ => false := funext fun s => rfl
theorem about0 (V : List Va) : aboutB V (fun _ => false) = fun _ => false := funext fun s => by unfold aboutB; simp
theorem lkA0 (l : List Str) : lkA (fun _ => false) l = hasN l := funext fun s => by unfold lkA; simp
theorem str_len (l : List Str) : ∀ x ∈ l.map pS, x.cells.length = 1 := fun x hx => by
  obtain ⟨s, _, rfl⟩ := List.mem_map.1 hx; rfl
set_option maxHeartbeats 4000000 in
theorem late_any (V : List Va) (Q : List Qu) (hV : V.length ≤ 1000) (hQ : ∀ q ∈ Q, q.def1) (m : M) :
    ACalls Try.prog 9 [.ag [.sl .no (V.map Va.pv), .sl .no (Q.map Qu.pv)]] m (fun v m' => v = .sl .no ((((V.map Va.name).filter fun s => hasN (solveL V Q fun _ => false) s)).map pS) ∧ m' = m) := by
  have ht := tmL
  have hs := solve_any V Q hQ (m.ext [some [.tp [], .tp []]]) m.nb (by rw [ext_nb]; simp) [] []
  have hm0 : mst (m.ext [some [.tp [], .tp []]]) m.nb [] [] = m.ext [some [.tp [], .tp []]] := by unfold mst; rw [ext_upd0 rfl]; rfl
  rw [hm0, lk_nil, about0, lkA0] at hs
  obtain ⟨S, hS⟩ : ∃ S, solveL V Q (fun _ => false) = S := ⟨_, rfl⟩
  rw [hS] at hs ⊢
  refine ACalls.enter (mu := []) ok_mix Try.func9 rfl (by kernel_rfl) (by kernel_rfl) (by simp only [List.length_cons, List.length_nil, Try.ntmps9]; omega) ?_
  (repeat (first | refine aSeq fun X hX => ?_ | refine aBlk ?_ | refine aSkip ?_ | (first | refine aExit ?_ | refine aRet ?_); try simp only [slx, ↓reduceIte, Nat.reduceEqDiff, reduceCtorEq] | (first | refine aReg ?_ | refine aIf ?_); simp -implicitDefEqProofs only [forall_eq, ↓slp, slb, ↓reduceIte, reduceCtorEq, jA, jB, jC, jD, jE, jF, jG, jH, jI, jJ, jK, tfInL]; try simp only [Ex.fold, Ex.foldcs, ← Va.pv.eq_1] | refine hX _ _ ?_; clear hX X | clear hX X; refine hX _ _ ?_; clear hX X | clear hX X; clear hX X; refine hX _ _ ?_; clear hX X | intro hlen; unfold maxLen at hlen | apply And.intro; focus (first | omega | assumption | (repeat' apply And.intro) <;> first | omega | assumption)))
  refine callM hs ?_
  rintro v m' ⟨N, B, rfl, hlk, rfl⟩
  obtain ⟨m1, hm1⟩ : ∃ m1, mst (m.ext [some [.tp [], .tp []]]) m.nb N B = m1 := ⟨_, rfl⟩
  have hm1e : m1 = m.ext [some [.tp (N.map pS), .tp (B.map pB)]] := by rw [← hm1]; unfold mst; rw [ext_upd0 rfl]; rfl
  have hg1 : m1.get m.nb = some [.tp (N.map pS), .tp (B.map pB)] := by rw [hm1e, ext_get0 rfl]; rfl
  rw [hm1]
  simp -implicitDefEqProofs only [↓slp, slb, ↓reduceIte, reduceCtorEq, jA, jB, jC, jD, jE, jF, jG, jH, jI, jJ, jK, tfInL]; try simp only [Ex.fold, Ex.foldcs, ← Va.pv.eq_1]
  (repeat (first | refine aSeq fun X hX => ?_ | refine aBlk ?_ | refine aSkip ?_ | (first | refine aExit ?_ | refine aRet ?_); try simp only [slx, ↓reduceIte, Nat.reduceEqDiff, reduceCtorEq] | (first | refine aReg ?_ | refine aIf ?_); simp -implicitDefEqProofs only [forall_eq, ↓slp, slb, ↓reduceIte, reduceCtorEq, jA, jB, jC, jD, jE, jF, jG, jH, jI, jJ, jK, tfInL]; try simp only [Ex.fold, Ex.foldcs, ← Va.pv.eq_1] | refine hX _ _ ?_; clear hX X | clear hX X; refine hX _ _ ?_; clear hX X | clear hX X; clear hX X; refine hX _ _ ?_; clear hX X | intro hlen; unfold maxLen at hlen | apply And.intro; focus (first | omega | assumption | (repeat' apply And.intro) <;> first | omega | assumption)))
  obtain ⟨I, hI⟩ : ∃ I : F → M → Prop, ∀ f m', I f m' = (∃ (k : Nat) (o : Own), k ≤ V.length ∧ f 3 = .mp m.nb ∧ f 4 = .sl o ((((V.take k).map Va.name).filter fun s => hasN S s).map pS) ∧ f 12 = .sl .no (V.map Va.pv) ∧ f 13 = pI V.length ∧ f 14 = pI k ∧ Toks m1 m' ∧ Mine m1 m' o 1) := ⟨_, fun _ _ => rfl⟩
  refine aLoop I (fun f m => V.length - numOf (f 14)) ?_ ?_
  · rw [hI]; exact ⟨0, .full, by omega, rfl, rfl, rfl, rfl, rfl, .refl _, .full⟩
  intro f m' hrel
  rw [hI] at hrel
  obtain ⟨k, o, hk, f3, f4, f12, f13, f14, htk, hmi⟩ := hrel
  cases c1 : decide ((k : Int) < (V.length : Int)) with
  | false =>
    have hk' : k = V.length := by simp at c1; omega
    subst hk'
    rw [List.take_length] at f4
    (repeat (first | refine aSeq fun X hX => ?_ | refine aBlk ?_ | refine aSkip ?_ | (first | refine aExit ?_ | refine aRet ?_); try simp only [slx, ↓reduceIte, Nat.reduceEqDiff, reduceCtorEq] | (first | refine aReg ?_ | refine aIf ?_); simp -implicitDefEqProofs only [forall_eq, ↓slp, slb, ↓reduceIte, reduceCtorEq, jA, jB, jC, jD, jE, jF, jG, jH, jI, jJ, jK, tfInL, f3, f4, f12, f13, f14, pI, c1]; try simp only [Ex.fold, Ex.foldcs, ← Va.pv.eq_1] | refine hX _ _ ?_; clear hX X | clear hX X; refine hX _ _ ?_; clear hX X | clear hX X; clear hX X; refine hX _ _ ?_; clear hX X | intro hlen; unfold maxLen at hlen | apply And.intro; focus (first | omega | assumption | (repeat' apply And.intro) <;> first | omega | assumption)))
    simp only [aPost, Try.results9, aRes_n, aRes_t, aRes_c, pack_one, pack_two]
    rw [hm1e] at htk
    simp -implicitDefEqProofs only [↓slp, slb, ↓reduceIte, reduceCtorEq, jA, jB, jC, jD, jE, jF, jG, jH, jI, jJ, jK, tfInL, f4]; try simp only [Ex.fold, Ex.foldcs, ← Va.pv.eq_1]
    exact leave_toksB htk rfl ⟨rfl, rfl⟩
  | true =>
    have hlt : k < V.length := by simpa using c1
    have g0 := getD_map Va.pv V k hlt
    have hi : IntKind.i64.wrap ((k : Int) + 1) = ((k + 1 : Nat) : Int) := by rw [wrap64 (by omega)]; omega
    have hme : numOf (f 14) = k := by rw [f14]; exact Int.toNat_natCast k
    have hg : m'.get m.nb = some [.tp (N.map pS), .tp (B.map pB)] := by rw [← hg1]; unfold M.get; rw [htk.boxes]
    have hlr := lkB_res N B V[k].name
    rw [hlk] at hlr
    have hst : ((V.take (k + 1)).map Va.name).filter (fun s => hasN S s) = ((V.take k).map Va.name).filter (fun s => hasN S s) ++ (if hasN S V[k].name then [V[k].name] else []) := by
      rw [List.take_succ_eq_append_getElem hlt, List.map_append, List.filter_append]
      congr 1
      simp only [List.map_cons, List.map_nil, List.filter_cons, List.filter_nil]
    cases c2 : hasN S V[k].name with
    | false =>
      rw [c2] at hlr hst
      (repeat (first | refine aSeq fun X hX => ?_ | refine aBlk ?_ | refine aSkip ?_ | (first | refine aExit ?_ | refine aRet ?_); try simp only [slx, ↓reduceIte, Nat.reduceEqDiff, reduceCtorEq] | (first | refine aReg ?_ | refine aIf ?_); simp -implicitDefEqProofs only [forall_eq, ↓slp, slb, ↓reduceIte, reduceCtorEq, jA, jB, jC, jD, jE, jF, jG, jH, jI, jJ, jK, tfInL, f3, f4, f12, f13, f14, pI, c1, g0, hg, ht, hlr, pB, hi]; try simp only [Ex.fold, Ex.foldcs, ← Va.pv.eq_1] | refine hX _ _ ?_; clear hX X | clear hX X; refine hX _ _ ?_; clear hX X | clear hX X; clear hX X; refine hX _ _ ?_; clear hX X | intro hlen; unfold maxLen at hlen | apply And.intro; focus (first | omega | assumption | (repeat' apply And.intro) <;> first | omega | assumption)))
      rw [hI]
      exact ⟨⟨k + 1, o, hlt, f3, f4.trans (by rw [hst]; simp), f12, f13, rfl, htk, hmi⟩, by omega⟩
    | true =>
      rw [c2] at hlr hst
      have hll : ((((V.take k).map Va.name).filter fun s => hasN S s)).length ≤ 1000 := by
        refine Nat.le_trans (List.length_filter_le _ _) ?_
        simp; omega
      have hmx : ((((V.take k).map Va.name).filter fun s => hasN S s)).length + 1 ≤ maxLen := by unfold maxLen; omega
      have hfr := hmi.free
      have hsl := str_len (((V.take k).map Va.name).filter fun s => hasN S s)
      generalize hfl : ((V.take k).map Va.name).filter (fun s => hasN S s) = fl at *
      (repeat (first | refine aSeq fun X hX => ?_ | refine aBlk ?_ | refine aSkip ?_ | (first | refine aExit ?_ | refine aRet ?_); try simp only [slx, ↓reduceIte, Nat.reduceEqDiff, reduceCtorEq] | (first | refine aReg ?_ | refine aIf ?_); simp -implicitDefEqProofs only [forall_eq, ↓slp, slb, ↓reduceIte, reduceCtorEq, jA, jB, jC, jD, jE, jF, jG, jH, jI, jJ, jK, tfInL, f3, f4, f12, f13, f14, pI, c1, g0, hg, ht, hlr, pB, hi]; try simp only [Ex.fold, Ex.foldcs, ← Va.pv.eq_1] | refine hX _ _ ?_; clear hX X | clear hX X; refine hX _ _ ?_; clear hX X | clear hX X; clear hX X; refine hX _ _ ?_; clear hX X | intro hlen; unfold maxLen at hlen | apply And.intro; focus (first | omega | assumption | (repeat' apply And.intro) <;> first | omega | assumption)))
      rw [hI]
      exact ⟨⟨k + 1, .tok m'.nt, hlt, f3, by rw [hst, List.map_append]; rfl, f12, f13, rfl, htk.use hmi, Mine.new htk o 1⟩, by omega⟩
set_option maxHeartbeats 4000000 in
theorem rLate_any (V : List Va) (Q : List Qu) (hV : V.length ≤ 1000) (hQ : ∀ q ∈ Q, q.def1) (m : M) (o0 : Own) :
    ACalls Try.prog 10 [.sl o0 [], .ag [.sl .no (V.map Va.pv), .sl .no (Q.map Qu.pv)]] m (fun v m' => v = .sl .no ((solveL V Q fun _ => false).map pS) ∧ LateOk (V.map Va.name) (solveL V Q fun _ => false) ∧ m' = m) := by
  obtain ⟨names, hnm⟩ : ∃ names, V.map Va.name = names := ⟨_, rfl⟩
  have hnl : names.length = V.length := by rw [← hnm]; simp
  obtain ⟨A, hA⟩ : ∃ A : Str → Bool, (fun _ => false) = A := ⟨_, rfl⟩
  have hAl : ∀ l, lkA A l = hasN l := fun l => by rw [← hA]; exact lkA0 l
  obtain ⟨res, hres⟩ : ∃ res, solveL V Q (fun _ => false) = res := ⟨_, rfl⟩
  rw [hres, hnm]
  unfold solveL at hres
  rw [about0, hA, hnm, ← hnl] at hres
  have hok0 : LateOk names [] := ⟨List.nodup_nil, fun s hs => by simp at hs⟩
  have hokr : LateOk names res := hres ▸ fixL_ok A names Q _ _ hok0
  refine ACalls.enter (mu := []) ok_mix Try.func10 rfl (by kernel_rfl) (by kernel_rfl) (by simp only [List.length_cons, List.length_nil, Try.ntmps10]; omega) ?_
  (repeat (first | refine aSeq fun X hX => ?_ | refine aBlk ?_ | refine aSkip ?_ | (first | refine aExit ?_ | refine aRet ?_); try simp only [slx, ↓reduceIte, Nat.reduceEqDiff, reduceCtorEq] | (first | refine aReg ?_ | refine aIf ?_); simp -implicitDefEqProofs only [forall_eq, ↓slp, slb, ↓reduceIte, reduceCtorEq, jA, jB, jC, jD, jE, jF, jG, jH, jI, jJ, jK, tfInL]; try simp only [Ex.fold, Ex.foldcs, ← Va.pv.eq_1] | refine hX _ _ ?_; clear hX X | clear hX X; refine hX _ _ ?_; clear hX X | clear hX X; clear hX X; refine hX _ _ ?_; clear hX X | intro hlen; unfold maxLen at hlen | apply And.intro; focus (first | omega | assumption | (repeat' apply And.intro) <;> first | omega | assumption)))
  refine aLoop (fun f m' => f 3 = .ep [.sl .no (V.map Va.pv), .sl .no (Q.map Qu.pv)] ∧ f 0 = .sl o0 [] ∧ f 5 = .sl .full [] ∧ f 6 = pI 0 ∧ m = m') (fun _ _ => 0) ⟨rfl, rfl, rfl, rfl, rfl⟩ ?_
  rintro f m' ⟨f3, f0, f5, f6, rfl⟩
  have z0 : decide ((0 : Int) < ((0 : Nat) : Int)) = false := rfl
  (repeat (first | refine aSeq fun X hX => ?_ | refine aBlk ?_ | refine aSkip ?_ | (first | refine aExit ?_ | refine aRet ?_); try simp only [slx, ↓reduceIte, Nat.reduceEqDiff, reduceCtorEq] | (first | refine aReg ?_ | refine aIf ?_); simp -implicitDefEqProofs only [forall_eq, ↓slp, slb, ↓reduceIte, reduceCtorEq, jA, jB, jC, jD, jE, jF, jG, jH, jI, jJ, jK, tfInL, f3, f0, f5, f6, pI, z0]; try simp only [Ex.fold, Ex.foldcs, ← Va.pv.eq_1] | refine hX _ _ ?_; clear hX X | clear hX X; refine hX _ _ ?_; clear hX X | clear hX X; clear hX X; refine hX _ _ ?_; clear hX X | intro hlen; unfold maxLen at hlen | apply And.intro; focus (first | omega | assumption | (repeat' apply And.intro) <;> first | omega | assumption)))
  obtain ⟨J, hJ⟩ : ∃ J : Nat → F → M → Prop, ∀ n f m', J n f m' = (∃ (late : List Str) (ag : Bool) (o : Own), f 3 = .ep [.sl .no (V.map Va.pv), .sl .no (Q.map Qu.pv)] ∧ f 5 = .sl o (late.map pS) ∧ f 7 = pI 0 ∧ f 8 = pB ag ∧ LateOk names late ∧ ((ag = true ∧ ∃ kf, n = kf + 1 ∧ names.length + 1 ≤ kf + late.length ∧ fixL A names Q kf late = res) ∨ (ag = false ∧ n = 0 ∧ late = res)) ∧ Toks m m' ∧ Mine m m' o 1) := ⟨_, fun _ _ _ => rfl⟩
  refine aLoopN J (names.length + 2) ?_ ?_
  · rw [hJ]
    exact ⟨[], true, .full, f3, f5, rfl, rfl, hok0, .inl ⟨rfl, names.length + 1, rfl, by simp, hres⟩, .refl _, .full⟩
  clear f0 f3 f5 f6
  intro W n f m' hrel hW
  rw [hJ] at hrel
  obtain ⟨late, ag, o, f3, f5, f7, f8, hok, hcs, htk, hmi⟩ := hrel
  rcases hcs with ⟨rfl, kf, rfl, hkf, hfix⟩ | ⟨rfl, rfl, rfl⟩
  · (repeat (first | refine aSeq fun X hX => ?_ | refine aBlk ?_ | refine aSkip ?_ | (first | refine aExit ?_ | refine aRet ?_); try simp only [slx, ↓reduceIte, Nat.reduceEqDiff, reduceCtorEq] | (first | refine aReg ?_ | refine aIf ?_); simp -implicitDefEqProofs only [forall_eq, ↓slp, slb, ↓reduceIte, reduceCtorEq, jA, jB, jC, jD, jE, jF, jG, jH, jI, jJ, jK, tfInL, f3, f5, f7, f8, pB]; try simp only [Ex.fold, Ex.foldcs, ← Va.pv.eq_1] | refine hX _ _ ?_; clear hX X | clear hX X; refine hX _ _ ?_; clear hX X | clear hX X; clear hX X; refine hX _ _ ?_; clear hX X | intro hlen; unfold maxLen at hlen | apply And.intro; focus (first | omega | assumption | (repeat' apply And.intro) <;> first | omega | assumption)))
    obtain ⟨I, hI⟩ : ∃ I : F → M → Prop, ∀ f m', I f m' = (∃ (k : Nat) (late' : List Str) (ag : Bool) (o : Own), k ≤ Q.length ∧ f 3 = .ep [.sl .no (V.map Va.pv), .sl .no (Q.map Qu.pv)] ∧ f 5 = .sl o (late'.map pS) ∧ f 7 = pI 0 ∧ f 8 = pB ag ∧ f 9 = pI k ∧ LateOk names late' ∧ pass A names (Q.drop k) late' ag = pass A names Q late false ∧ Toks m m' ∧ Mine m m' o 1) := ⟨_, fun _ _ => rfl⟩
    refine aLoop I (fun f m => Q.length - numOf (f 9)) ?_ ?_
    · rw [hI]
      exact ⟨0, late, false, o, by omega, f3, f5, f7, rfl, rfl, hok, rfl, htk, hmi⟩
    clear f3 f5 f7 f8 htk hmi
    intro f m' hrel
    rw [hI] at hrel
    obtain ⟨k, late', ag, o, hk, f3, f5, f7, f8, f9, hok', hps, htk, hmi⟩ := hrel
    cases c1 : decide ((k : Int) < (Q.length : Int)) with
    | false =>
      have hk' : k = Q.length := by simp at c1; omega
      subst hk'
      rw [List.drop_length, pass] at hps
      (repeat (first | refine aSeq fun X hX => ?_ | refine aBlk ?_ | refine aSkip ?_ | (first | refine aExit ?_ | refine aRet ?_); try simp only [slx, ↓reduceIte, Nat.reduceEqDiff, reduceCtorEq] | (first | refine aReg ?_ | refine aIf ?_); simp -implicitDefEqProofs only [forall_eq, ↓slp, slb, ↓reduceIte, reduceCtorEq, jA, jB, jC, jD, jE, jF, jG, jH, jI, jJ, jK, tfInL, f3, f5, f7, f8, f9, pI, c1]; try simp only [Ex.fold, Ex.foldcs, ← Va.pv.eq_1] | refine hX _ _ ?_; clear hX X | clear hX X; refine hX _ _ ?_; clear hX X | clear hX X; clear hX X; refine hX _ _ ?_; clear hX X | intro hlen; unfold maxLen at hlen | apply And.intro; focus (first | omega | assumption | (repeat' apply And.intro) <;> first | omega | assumption)))
      obtain ⟨k', rfl, hst⟩ := fixL_step A names Q kf late hok hkf
      rcases hst with ⟨h1, h2, h3, h4, h5⟩ | ⟨h1, h2, h3⟩
      · rw [← hps] at h1 h2 h3 h4
        simp only [] at h1 h2 h3 h4
        subst h1
        refine hW (k' + 1) _ _ (by omega) ?_
        rw [hJ]
        exact ⟨late', true, o, f3, f5, f7, f8, h3, .inl ⟨rfl, k', rfl, h4, by rw [← hfix, h2]⟩, htk, hmi⟩
      · rw [← hps] at h1 h3
        simp only [] at h1 h3
        subst h1
        refine hW 0 _ _ (by omega) ?_
        rw [hJ]
        refine ⟨late', false, o, f3, f5, f7, f8, hok', .inr ⟨rfl, rfl, ?_⟩, htk, hmi⟩
        rw [h3, ← h2, hfix]
    | true =>
      have hlt : k < Q.length := by simpa using c1
      have g0 := getD_map Qu.pv Q k hlt
      have hme : numOf (f 9) = k := by rw [f9]; exact Int.toNat_natCast k
      have hq := hQ Q[k] (List.getElem_mem hlt)
      rw [List.drop_eq_getElem_cons hlt, pass] at hps
      have hno : ∀ (f : F), turns A names late' Q[k] = false → f 3 = .ep [.sl .no (V.map Va.pv), .sl .no (Q.map Qu.pv)] → f 5 = .sl o (late'.map pS) → f 7 = pI 0 → f 8 = pB ag → f 9 = pI ((k + 1 : Nat) : Int) → I f m' := by
        intro f ht f3 f5 f7 f8 f9
        rw [if_neg (by rw [ht]; simp)] at hps
        rw [hI]
        exact ⟨k + 1, late', ag, o, hlt, f3, f5, f7, f8, f9, hok', hps, htk, hmi⟩
      generalize hqk : Q[k] = q at *
      have hll := hok'.len
      have htl2 : (late'.map pS).take late'.length = late'.map pS := List.take_of_length_le (by simp)
      have hsl := str_len late'
      cases c2 : (q.kind == 1) with
      | false =>
        (repeat (first | refine aSeq fun X hX => ?_ | refine aBlk ?_ | refine aSkip ?_ | (first | refine aExit ?_ | refine aRet ?_); try simp only [slx, ↓reduceIte, Nat.reduceEqDiff, reduceCtorEq] | (first | refine aReg ?_ | refine aDrE ?_ | refine aIf ?_); simp -implicitDefEqProofs only [forall_eq, ↓slp, slb, ↓reduceIte, reduceCtorEq, jA, jB, jC, jD, jE, jF, jG, jH, jI, jJ, jK, tfInL, f3, f5, f7, f9, pI, c1, c2, g0]; try simp only [Ex.fold, Ex.foldcs, ← Va.pv.eq_1] | refine hX _ _ ?_; clear hX X | clear hX X; refine hX _ _ ?_; clear hX X | clear hX X; clear hX X; refine hX _ _ ?_; clear hX X | intro hlen; unfold maxLen at hlen | apply And.intro; focus (first | omega | assumption | (repeat' apply And.intro) <;> first | omega | assumption)))
        have hi : IntKind.i64.wrap ((k : Int) + 1) = ((k + 1 : Nat) : Int) := by rw [wrap64 (by omega)]; omega
        simp -implicitDefEqProofs only [↓slp, slb, ↓reduceIte, reduceCtorEq, jA, jB, jC, jD, jE, jF, jG, jH, jI, jJ, jK, tfInL, hi]; try simp only [Ex.fold, Ex.foldcs, ← Va.pv.eq_1]
        exact ⟨hno _ (by unfold turns; rw [c2]; rfl) f3 f5 f7 f8 rfl, by omega⟩
      | true =>
        obtain ⟨hl, hfd⟩ := hq (by simpa using c2)
        obtain ⟨x, r, hx⟩ : ∃ x r, q.lhs = x :: r := by
          cases hl2 : q.lhs with
          | nil => exact absurd hl2 hl
          | cons x r => exact ⟨x, r, rfl⟩
        have hqx : q.x = x := by unfold Qu.x; rw [hx]; rfl
        have hge := findVar_ge V x
        rw [hnm] at hge
        have hmay := rMay_any o late' m' q.e hfd
        have htn : turns A names late' q = (hasN names x && !hasN late' x && mayB (hasN late') q.e) := by unfold turns; rw [c2, hqx, hAl]; rfl
        (repeat (first | refine aSeq fun X hX => ?_ | refine aBlk ?_ | refine aSkip ?_ | (first | refine aExit ?_ | refine aRet ?_); try simp only [slx, ↓reduceIte, Nat.reduceEqDiff, reduceCtorEq] | (first | refine aReg ?_ | refine aDrE ?_ | refine aIf ?_); simp -implicitDefEqProofs only [forall_eq, ↓slp, slb, ↓reduceIte, reduceCtorEq, jA, jB, jC, jD, jE, jF, jG, jH, jI, jJ, jK, tfInL, f3, f5, f7, f9, pI, c1, c2, g0, hx]; try simp only [Ex.fold, Ex.foldcs, ← Va.pv.eq_1] | refine hX _ _ ?_; clear hX X | clear hX X; refine hX _ _ ?_; clear hX X | clear hX X; clear hX X; refine hX _ _ ?_; clear hX X | intro hlen; unfold maxLen at hlen | apply And.intro; focus (first | omega | assumption | (repeat' apply And.intro) <;> first | omega | assumption)))
        have hi : IntKind.i64.wrap ((k : Int) + 1) = ((k + 1 : Nat) : Int) := by rw [wrap64 (by omega)]; omega
        refine callE (rFind_any _ V x _) ?_
        cases c3 : hasN names x with
        | false =>
          rw [c3] at hge htn
          simp -implicitDefEqProofs only [↓slp, slb, ↓reduceIte, reduceCtorEq, jA, jB, jC, jD, jE, jF, jG, jH, jI, jJ, jK, tfInL, pI, hge]; try simp only [Ex.fold, Ex.foldcs, ← Va.pv.eq_1]
          (repeat (first | refine aSeq fun X hX => ?_ | refine aBlk ?_ | refine aSkip ?_ | (first | refine aExit ?_ | refine aRet ?_); try simp only [slx, ↓reduceIte, Nat.reduceEqDiff, reduceCtorEq] | (first | refine aReg ?_ | refine aDrE ?_ | refine aIf ?_); simp -implicitDefEqProofs only [forall_eq, ↓slp, slb, ↓reduceIte, reduceCtorEq, jA, jB, jC, jD, jE, jF, jG, jH, jI, jJ, jK, tfInL, f9, pI, hi]; try simp only [Ex.fold, Ex.foldcs, ← Va.pv.eq_1] | refine hX _ _ ?_; clear hX X | clear hX X; refine hX _ _ ?_; clear hX X | clear hX X; clear hX X; refine hX _ _ ?_; clear hX X | intro hlen; unfold maxLen at hlen | apply And.intro; focus (first | omega | assumption | (repeat' apply And.intro) <;> first | omega | assumption)))
          exact ⟨hno _ htn f3 f5 f7 f8 rfl, by omega⟩
        | true =>
          rw [c3] at hge htn
          simp -implicitDefEqProofs only [↓slp, slb, ↓reduceIte, reduceCtorEq, jA, jB, jC, jD, jE, jF, jG, jH, jI, jJ, jK, tfInL, pI, hge, f5, f7, htl2]; try simp only [Ex.fold, Ex.foldcs, ← Va.pv.eq_1]
          refine ⟨⟨Int.le_refl _, _, rfl, hsl⟩, callE (rHas_any _ late' x _) ?_⟩
          cases c4 : hasN late' x with
          | true =>
            rw [c4] at htn
            simp -implicitDefEqProofs only [↓slp, slb, ↓reduceIte, reduceCtorEq, jA, jB, jC, jD, jE, jF, jG, jH, jI, jJ, jK, tfInL, pI, pB]; try simp only [Ex.fold, Ex.foldcs, ← Va.pv.eq_1]
            (repeat (first | refine aSeq fun X hX => ?_ | refine aBlk ?_ | refine aSkip ?_ | (first | refine aExit ?_ | refine aRet ?_); try simp only [slx, ↓reduceIte, Nat.reduceEqDiff, reduceCtorEq] | (first | refine aReg ?_ | refine aDrE ?_ | refine aIf ?_); simp -implicitDefEqProofs only [forall_eq, ↓slp, slb, ↓reduceIte, reduceCtorEq, jA, jB, jC, jD, jE, jF, jG, jH, jI, jJ, jK, tfInL, f9, pI, hi]; try simp only [Ex.fold, Ex.foldcs, ← Va.pv.eq_1] | refine hX _ _ ?_; clear hX X | clear hX X; refine hX _ _ ?_; clear hX X | clear hX X; clear hX X; refine hX _ _ ?_; clear hX X | intro hlen; unfold maxLen at hlen | apply And.intro; focus (first | omega | assumption | (repeat' apply And.intro) <;> first | omega | assumption)))
            exact ⟨hno _ (by rw [htn]; rfl) f3 f5 f7 f8 rfl, by omega⟩
          | false =>
            rw [c4] at htn
            simp -implicitDefEqProofs only [↓slp, slb, ↓reduceIte, reduceCtorEq, jA, jB, jC, jD, jE, jF, jG, jH, jI, jJ, jK, tfInL, pI, pB, f5]; try simp only [Ex.fold, Ex.foldcs, ← Va.pv.eq_1]
            refine callE hmay ?_
            cases c5 : mayB (hasN late') q.e with
            | false =>
              rw [c5] at htn
              simp -implicitDefEqProofs only [↓slp, slb, ↓reduceIte, reduceCtorEq, jA, jB, jC, jD, jE, jF, jG, jH, jI, jJ, jK, tfInL, pI, pB]; try simp only [Ex.fold, Ex.foldcs, ← Va.pv.eq_1]
              (repeat (first | refine aSeq fun X hX => ?_ | refine aBlk ?_ | refine aSkip ?_ | (first | refine aExit ?_ | refine aRet ?_); try simp only [slx, ↓reduceIte, Nat.reduceEqDiff, reduceCtorEq] | (first | refine aReg ?_ | refine aDrE ?_ | refine aIf ?_); simp -implicitDefEqProofs only [forall_eq, ↓slp, slb, ↓reduceIte, reduceCtorEq, jA, jB, jC, jD, jE, jF, jG, jH, jI, jJ, jK, tfInL, f9, pI, hi]; try simp only [Ex.fold, Ex.foldcs, ← Va.pv.eq_1] | refine hX _ _ ?_; clear hX X | clear hX X; refine hX _ _ ?_; clear hX X | clear hX X; clear hX X; refine hX _ _ ?_; clear hX X | intro hlen; unfold maxLen at hlen | apply And.intro; focus (first | omega | assumption | (repeat' apply And.intro) <;> first | omega | assumption)))
              exact ⟨hno _ (by rw [htn]; rfl) f3 f5 f7 f8 rfl, by omega⟩
            | true =>
              rw [c5] at htn
              rw [if_pos (by rw [htn]; rfl), hqx] at hps
              have hmx : late'.length + 1 ≤ maxLen := by unfold maxLen; omega
              have hfr := hmi.free
              have hok2 : LateOk names (late' ++ [x]) := by
                have := (pass_ok A names [q] late' false hok').1
                rw [pass, if_pos (by rw [htn]; rfl), hqx, pass] at this
                exact this
              simp -implicitDefEqProofs only [↓slp, slb, ↓reduceIte, reduceCtorEq, jA, jB, jC, jD, jE, jF, jG, jH, jI, jJ, jK, tfInL, pI, pB]; try simp only [Ex.fold, Ex.foldcs, ← Va.pv.eq_1]
              (repeat (first | refine aSeq fun X hX => ?_ | refine aBlk ?_ | refine aSkip ?_ | (first | refine aExit ?_ | refine aRet ?_); try simp only [slx, ↓reduceIte, Nat.reduceEqDiff, reduceCtorEq] | (first | refine aReg ?_ | refine aDrE ?_ | refine aIf ?_); simp -implicitDefEqProofs only [forall_eq, ↓slp, slb, ↓reduceIte, reduceCtorEq, jA, jB, jC, jD, jE, jF, jG, jH, jI, jJ, jK, tfInL, f5, f9, pI, hi, hx]; try simp only [Ex.fold, Ex.foldcs, ← Va.pv.eq_1] | refine hX _ _ ?_; clear hX X | clear hX X; refine hX _ _ ?_; clear hX X | clear hX X; clear hX X; refine hX _ _ ?_; clear hX X | intro hlen; unfold maxLen at hlen | apply And.intro; focus (first | omega | assumption | (repeat' apply And.intro) <;> first | omega | assumption)))
              rw [hI]
              exact ⟨⟨k + 1, late' ++ [x], true, .tok m'.nt, hlt, f3, by rw [List.map_append]; rfl, f7, rfl, rfl, hok2, hps, htk.use hmi, Mine.new htk o 1⟩, by omega⟩
  · (repeat (first | refine aSeq fun X hX => ?_ | refine aBlk ?_ | refine aSkip ?_ | (first | refine aExit ?_ | refine aRet ?_); try simp only [slx, ↓reduceIte, Nat.reduceEqDiff, reduceCtorEq] | (first | refine aReg ?_ | refine aIf ?_); simp -implicitDefEqProofs only [forall_eq, ↓slp, slb, ↓reduceIte, reduceCtorEq, jA, jB, jC, jD, jE, jF, jG, jH, jI, jJ, jK, tfInL, f3, f5, f7, f8, pB]; try simp only [Ex.fold, Ex.foldcs, ← Va.pv.eq_1] | refine hX _ _ ?_; clear hX X | clear hX X; refine hX _ _ ?_; clear hX X | clear hX X; clear hX X; refine hX _ _ ?_; clear hX X | intro hlen; unfold maxLen at hlen | apply And.intro; focus (first | omega | assumption | (repeat' apply And.intro) <;> first | omega | assumption)))
    simp only [aPost, Try.results10, aRes_n, aRes_t, aRes_c, pack_one, pack_two]
    simp -implicitDefEqProofs only [↓slp, slb, ↓reduceIte, reduceCtorEq, jA, jB, jC, jD, jE, jF, jG, jH, jI, jJ, jK, tfInL, f5]; try simp only [Ex.fold, Ex.foldcs, ← Va.pv.eq_1]
    exact leave_toks0 htk rfl ⟨rfl, hok, rfl⟩
end Go.Proofs.Ytfemdelaciccmaa
