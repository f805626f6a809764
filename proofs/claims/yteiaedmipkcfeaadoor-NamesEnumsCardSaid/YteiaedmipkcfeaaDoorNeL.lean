/-
  The law NamesEnums.
-/
import Derived.Test.YteiaedmipkcfeaaDoorNeR
import Derived.Test.YteiaedmipkcfeaaDoorNmAw
import Derived.Test.YteiaedmipkcfeaaDoorAbTail
import Derived.Test.YteiaedmipkcfeaaDoorAbMk8c
set_option linter.unusedVariables false
set_option linter.unusedSimpArgs false
namespace Go.Proofs.YteiaedmipkcfeaaDoor
open Nat renaming reduceEqDiff → jA, reduceAdd → jB, reduceMul → jC, reduceLT → jD, reduceLeDiff → jE, reduceBEq → jF, reduceBNe → jG
open Int renaming reduceLE → jH, reduceLT → jI, reduceToNat → jJ, reduceEq → jK
open Go
-- EXX: En.settle_pv, En.pure_pv, En.cells_pv, En.cs.eq_1
set_option maxRecDepth 20000
-- TNAMES: int; uint8; int32; string; bool; []string; []uint8; api.Pos; api.Node; []api.Node; api.Enum; []api.Enum; api.Program; error; api.Kind
set_option linter.defProp false
def tfNeL := And.intro @tfA (And.intro @Ex.settle_pv (And.intro @Ex.pure_pv (And.intro @Ex.cells_pv (And.intro @Ex.cs.eq_1 (And.intro @On.pv.eq_1 (And.intro @Ty.pv.eq_1 (And.intro @Va.settle_pv (And.intro @Va.pure_pv (And.intro @Va.cells_pv (And.intro @Va.cs.eq_1 (And.intro @En.settle_pv (And.intro @En.pure_pv (And.intro @En.cells_pv @En.cs.eq_1)))))))))))))

abbrev qU (i : Int) : PV := .v (.int .u8 i)
theorem kind_err (o : Option (Int × Int)) (m : M) : ACalls Tryd.prog 12 [errE o] m (fun v m' => v = pI (kE o) ∧ m' = m) := by
  cases o with
  | none => exact kind_nil m
  | some p => exact kind_at4 p.1 p.2 m
theorem where_err (o : Option (Int × Int)) (m : M) : ACalls Tryd.prog 13 [errE o] m (fun v m' => v = wE o ∧ m' = m) := by
  cases o with
  | none => exact where_nil m
  | some p => exact where_at p.1 p.2 4 m
set_option maxHeartbeats 16000000 in
theorem enumsLaw_any (ns cs : List Str) (l : List Int) (hel : ∀ x ∈ l, 0 ≤ x ∧ x ≤ 255) :
    ACalls Tryd.prog 4 [.sl .no (ns.map pS), .sl .no (cs.map pS), .sl .no (l.map qU)] M0 (fun v m' => v = .v (.bool true)) := by
  refine ACalls.enter (mu := [7, 11]) ok_mix Tryd.func4 rfl (by kernel_rfl) (by kernel_rfl) (by simp only [List.length_cons, List.length_nil, Tryd.ntmps4]; omega) ?_
  cases c1 : decide ((ns.length : Int) > 20) with
  | true =>
    (repeat (first | refine aSeq fun X hX => ?_ | refine aBlk ?_ | refine aSkip ?_ | (first | refine aExit ?_ | refine aRet ?_); try simp only [slx, ↓reduceIte, Nat.reduceEqDiff, reduceCtorEq] | (first | refine aReg ?_ | refine aIf ?_); simp -implicitDefEqProofs only [forall_eq, ↓slp, slb, ↓reduceIte, reduceCtorEq, jA, jB, jC, jD, jE, jF, jG, jH, jI, jJ, jK, tfNeL, c1]; try simp only [Ex.fold, Ex.foldcs, ← Va.pv.eq_1] | refine hX _ _ ?_; clear hX X | clear hX X; refine hX _ _ ?_; clear hX X | clear hX X; clear hX X; refine hX _ _ ?_; clear hX X | intro hlen; unfold maxLen at hlen | apply And.intro; focus (first | omega | assumption | (repeat' apply And.intro) <;> first | omega | assumption)))
    refine callE (awake_run _) ?_
    simp -implicitDefEqProofs only [↓slp, slb, ↓reduceIte, reduceCtorEq, jA, jB, jC, jD, jE, jF, jG, jH, jI, jJ, jK, tfNeL, c1]; try simp only [Ex.fold, Ex.foldcs, ← Va.pv.eq_1]
    (repeat (first | refine aSeq fun X hX => ?_ | refine aBlk ?_ | refine aSkip ?_ | (first | refine aExit ?_ | refine aRet ?_); try simp only [slx, ↓reduceIte, Nat.reduceEqDiff, reduceCtorEq] | (first | refine aReg ?_ | refine aIf ?_); simp -implicitDefEqProofs only [forall_eq, ↓slp, slb, ↓reduceIte, reduceCtorEq, jA, jB, jC, jD, jE, jF, jG, jH, jI, jJ, jK, tfNeL, c1]; try simp only [Ex.fold, Ex.foldcs, ← Va.pv.eq_1] | refine hX _ _ ?_; clear hX X | clear hX X; refine hX _ _ ?_; clear hX X | clear hX X; clear hX X; refine hX _ _ ?_; clear hX X | intro hlen; unfold maxLen at hlen | apply And.intro; focus (first | omega | assumption | (repeat' apply And.intro) <;> first | omega | assumption)))
    refine callE (awake_run _) ?_
    simp -implicitDefEqProofs only [↓slp, slb, ↓reduceIte, reduceCtorEq, jA, jB, jC, jD, jE, jF, jG, jH, jI, jJ, jK, tfNeL]; try simp only [Ex.fold, Ex.foldcs, ← Va.pv.eq_1]
    (repeat (first | refine aSeq fun X hX => ?_ | refine aBlk ?_ | refine aSkip ?_ | (first | refine aExit ?_ | refine aRet ?_); try simp only [slx, ↓reduceIte, Nat.reduceEqDiff, reduceCtorEq] | (first | refine aReg ?_ | refine aIf ?_); simp -implicitDefEqProofs only [forall_eq, ↓slp, slb, ↓reduceIte, reduceCtorEq, jA, jB, jC, jD, jE, jF, jG, jH, jI, jJ, jK, tfNeL]; try simp only [Ex.fold, Ex.foldcs, ← Va.pv.eq_1] | refine hX _ _ ?_; clear hX X | clear hX X; refine hX _ _ ?_; clear hX X | clear hX X; clear hX X; refine hX _ _ ?_; clear hX X | intro hlen; unfold maxLen at hlen | apply And.intro; focus (first | omega | assumption | (repeat' apply And.intro) <;> first | omega | assumption)))
    simp only [aPost, Tryd.results4, aRes_n, aRes_t, aRes_c, pack_one, pack_two]
    exact leave_same rfl rfl
  | false =>
  cases c2 : decide ((cs.length : Int) > 100) with
  | true =>
    (repeat (first | refine aSeq fun X hX => ?_ | refine aBlk ?_ | refine aSkip ?_ | (first | refine aExit ?_ | refine aRet ?_); try simp only [slx, ↓reduceIte, Nat.reduceEqDiff, reduceCtorEq] | (first | refine aReg ?_ | refine aIf ?_); simp -implicitDefEqProofs only [forall_eq, ↓slp, slb, ↓reduceIte, reduceCtorEq, jA, jB, jC, jD, jE, jF, jG, jH, jI, jJ, jK, tfNeL, c1, c2]; try simp only [Ex.fold, Ex.foldcs, ← Va.pv.eq_1] | refine hX _ _ ?_; clear hX X | clear hX X; refine hX _ _ ?_; clear hX X | clear hX X; clear hX X; refine hX _ _ ?_; clear hX X | intro hlen; unfold maxLen at hlen | apply And.intro; focus (first | omega | assumption | (repeat' apply And.intro) <;> first | omega | assumption)))
    refine callE (awake_run _) ?_
    simp -implicitDefEqProofs only [↓slp, slb, ↓reduceIte, reduceCtorEq, jA, jB, jC, jD, jE, jF, jG, jH, jI, jJ, jK, tfNeL, c1, c2]; try simp only [Ex.fold, Ex.foldcs, ← Va.pv.eq_1]
    (repeat (first | refine aSeq fun X hX => ?_ | refine aBlk ?_ | refine aSkip ?_ | (first | refine aExit ?_ | refine aRet ?_); try simp only [slx, ↓reduceIte, Nat.reduceEqDiff, reduceCtorEq] | (first | refine aReg ?_ | refine aIf ?_); simp -implicitDefEqProofs only [forall_eq, ↓slp, slb, ↓reduceIte, reduceCtorEq, jA, jB, jC, jD, jE, jF, jG, jH, jI, jJ, jK, tfNeL, c1, c2]; try simp only [Ex.fold, Ex.foldcs, ← Va.pv.eq_1] | refine hX _ _ ?_; clear hX X | clear hX X; refine hX _ _ ?_; clear hX X | clear hX X; clear hX X; refine hX _ _ ?_; clear hX X | intro hlen; unfold maxLen at hlen | apply And.intro; focus (first | omega | assumption | (repeat' apply And.intro) <;> first | omega | assumption)))
    refine callE (awake_run _) ?_
    simp -implicitDefEqProofs only [↓slp, slb, ↓reduceIte, reduceCtorEq, jA, jB, jC, jD, jE, jF, jG, jH, jI, jJ, jK, tfNeL]; try simp only [Ex.fold, Ex.foldcs, ← Va.pv.eq_1]
    (repeat (first | refine aSeq fun X hX => ?_ | refine aBlk ?_ | refine aSkip ?_ | (first | refine aExit ?_ | refine aRet ?_); try simp only [slx, ↓reduceIte, Nat.reduceEqDiff, reduceCtorEq] | (first | refine aReg ?_ | refine aIf ?_); simp -implicitDefEqProofs only [forall_eq, ↓slp, slb, ↓reduceIte, reduceCtorEq, jA, jB, jC, jD, jE, jF, jG, jH, jI, jJ, jK, tfNeL]; try simp only [Ex.fold, Ex.foldcs, ← Va.pv.eq_1] | refine hX _ _ ?_; clear hX X | clear hX X; refine hX _ _ ?_; clear hX X | clear hX X; clear hX X; refine hX _ _ ?_; clear hX X | intro hlen; unfold maxLen at hlen | apply And.intro; focus (first | omega | assumption | (repeat' apply And.intro) <;> first | omega | assumption)))
    simp only [aPost, Tryd.results4, aRes_n, aRes_t, aRes_c, pack_one, pack_two]
    exact leave_same rfl rfl
  | false =>
    (repeat (first | refine aSeq fun X hX => ?_ | refine aBlk ?_ | refine aSkip ?_ | (first | refine aExit ?_ | refine aRet ?_); try simp only [slx, ↓reduceIte, Nat.reduceEqDiff, reduceCtorEq] | (first | refine aReg ?_ | refine aIf ?_); simp -implicitDefEqProofs only [forall_eq, ↓slp, slb, ↓reduceIte, reduceCtorEq, jA, jB, jC, jD, jE, jF, jG, jH, jI, jJ, jK, tfNeL, c1, c2]; try simp only [Ex.fold, Ex.foldcs, ← Va.pv.eq_1] | refine hX _ _ ?_; clear hX X | clear hX X; refine hX _ _ ?_; clear hX X | clear hX X; clear hX X; refine hX _ _ ?_; clear hX X | intro hlen; unfold maxLen at hlen | apply And.intro; focus (first | omega | assumption | (repeat' apply And.intro) <;> first | omega | assumption)))
    refine callE (awake_run _) ?_
    simp -implicitDefEqProofs only [↓slp, slb, ↓reduceIte, reduceCtorEq, jA, jB, jC, jD, jE, jF, jG, jH, jI, jJ, jK, tfNeL, c1, c2]; try simp only [Ex.fold, Ex.foldcs, ← Va.pv.eq_1]
    (repeat (first | refine aSeq fun X hX => ?_ | refine aBlk ?_ | refine aSkip ?_ | (first | refine aExit ?_ | refine aRet ?_); try simp only [slx, ↓reduceIte, Nat.reduceEqDiff, reduceCtorEq] | (first | refine aReg ?_ | refine aIf ?_); simp -implicitDefEqProofs only [forall_eq, ↓slp, slb, ↓reduceIte, reduceCtorEq, jA, jB, jC, jD, jE, jF, jG, jH, jI, jJ, jK, tfNeL, c1, c2]; try simp only [Ex.fold, Ex.foldcs, ← Va.pv.eq_1] | refine hX _ _ ?_; clear hX X | clear hX X; refine hX _ _ ?_; clear hX X | clear hX X; clear hX X; refine hX _ _ ?_; clear hX X | intro hlen; unfold maxLen at hlen | apply And.intro; focus (first | omega | assumption | (repeat' apply And.intro) <;> first | omega | assumption)))
    have hn : ns.length ≤ 20 := by simp at c1; omega
    have hcl : cs.length ≤ 100 := by simp at c2; omega
    obtain ⟨I, hI⟩ : ∃ I : F → M → Prop, ∀ f m', I f m' = (∃ (i fr : Nat) (es : List En) (o : Own) (mm : M) (r : List (Option (List PV))), i ≤ ns.length ∧ fr ≤ cs.length ∧ es.length = i ∧ es.flatMap En.ctors = cs.take fr ∧ f 0 = .sl .no (ns.map pS) ∧ f 1 = .sl .no (cs.map pS) ∧ f 2 = .sl .no (l.map qU) ∧ f 7 = .bp 0 0 ∧ f 8 = pI fr ∧ f 9 = pI i ∧ Toks M0 mm ∧ Mine M0 mm o 4 ∧ mm.ext (some [.sl o (es.map En.pv), .sl .full []] :: r) = m') := ⟨_, fun _ _ => rfl⟩
    refine aLoop I (fun f m => ns.length - numOf (f 9)) ?_ ?_
    · rw [hI]; exact ⟨0, 0, [], .full, M0, [], by omega, by omega, rfl, rfl, rfl, rfl, rfl, rfl, rfl, rfl, .refl _, .full, rfl⟩
    intro f m' hrel
    rw [hI] at hrel
    obtain ⟨i, fr, es, o, mm, r, hi, hfr, hel2, hfl, f0, f1, f2, f7, f8, f9, htk, hmi, rfl⟩ := hrel
    have hnb : mm.nb = 0 := htk.nb
    cases c3 : decide ((i : Int) < (ns.length : Int)) with
    | false =>
      have hii : i = ns.length := by simp at c3; omega
      subst hii
      have hg : (mm.ext (some [.sl o (es.map En.pv), .sl .full []] :: r)).get 0 = some [.sl o (es.map En.pv), .sl .full []] := by rw [← hnb]; exact ext_get (i := 0) rfl
      have hcP : ((plEns es 0).1.flatMap En.ctors).length ≤ 1000000 := by
        have h1 : ∀ (l : List En) (c : Int), (plEns l c).1.flatMap En.ctors = l.flatMap En.ctors := fun l => by
          induction l with
          | nil => intro c; rfl
          | cons a l ih => intro c; simp only [plEns, List.flatMap_cons, ih]; rfl
        rw [h1, hfl, List.length_take]; omega
      have hlP : (plEns es 0).1.length ≤ 1000000 := by rw [plEns_len]; omega
      have hp := placedE_any es (by omega)
      generalize (plEns es 0).1 = P at *
      have hk1 := checkE_any P hlP hcP
      have hk2 := rcheckE_any P hlP hcP
      generalize faultE P 0 [] P = T at *
      obtain ⟨a, b, hab⟩ : ∃ a b, wE T = pP a b := by
        cases T with
        | none => exact ⟨0, 0, rfl⟩
        | some p => exact ⟨p.1, p.2, rfl⟩
      have hW := fun m => where_err T m
      have hKd := fun m => kind_err T m
      rw [hab] at hk2 hW
      generalize kE T = kd at *
      generalize errE T = er at *
      (repeat (first | refine aSeq fun X hX => ?_ | refine aBlk ?_ | refine aSkip ?_ | (first | refine aExit ?_ | refine aRet ?_); try simp only [slx, ↓reduceIte, Nat.reduceEqDiff, reduceCtorEq] | (first | refine aReg ?_ | refine aIf ?_); simp -implicitDefEqProofs only [forall_eq, ↓slp, slb, ↓reduceIte, reduceCtorEq, jA, jB, jC, jD, jE, jF, jG, jH, jI, jJ, jK, tfNeL, f0, f1, f2, f7, f8, f9, c3, pI, hnb, hg]; try simp only [Ex.fold, Ex.foldcs, ← Va.pv.eq_1] | refine hX _ _ ?_; clear hX X | clear hX X; refine hX _ _ ?_; clear hX X | clear hX X; clear hX X; refine hX _ _ ?_; clear hX X | intro hlen; unfold maxLen at hlen | apply And.intro; focus (first | omega | assumption | (repeat' apply And.intro) <;> first | omega | assumption)))
      refine callMS (hp _) (by simp only [List.map_cons, List.map_nil, PV.settle, PV.settles]) ?_
      rintro v mv ⟨rfl, hmv⟩
      subst hmv
      simp -implicitDefEqProofs only [↓slp, slb, ↓reduceIte, reduceCtorEq, jA, jB, jC, jD, jE, jF, jG, jH, jI, jJ, jK, tfNeL, f7, hnb, List.set_cons_succ, List.set_cons_zero]; try simp only [Ex.fold, Ex.foldcs, ← Va.pv.eq_1]
      (repeat (first | refine aSeq fun X hX => ?_ | refine aBlk ?_ | refine aSkip ?_ | (first | refine aExit ?_ | refine aRet ?_); try simp only [slx, ↓reduceIte, Nat.reduceEqDiff, reduceCtorEq] | (first | refine aReg ?_ | refine aIf ?_); simp -implicitDefEqProofs only [forall_eq, ↓slp, slb, ↓reduceIte, reduceCtorEq, jA, jB, jC, jD, jE, jF, jG, jH, jI, jJ, jK, tfNeL, f7, hnb, List.set_cons_succ, List.set_cons_zero]; try simp only [Ex.fold, Ex.foldcs, ← Va.pv.eq_1] | refine hX _ _ ?_; clear hX X | clear hX X; refine hX _ _ ?_; clear hX X | clear hX X; clear hX X; refine hX _ _ ?_; clear hX X | intro hlen; unfold maxLen at hlen | apply And.intro; focus (first | omega | assumption | (repeat' apply And.intro) <;> first | omega | assumption)))
      refine callE (hk1 _) ?_
      simp -implicitDefEqProofs only [↓slp, slb, ↓reduceIte, reduceCtorEq, jA, jB, jC, jD, jE, jF, jG, jH, jI, jJ, jK, tfNeL, f7, hnb]; try simp only [Ex.fold, Ex.foldcs, ← Va.pv.eq_1]
      (repeat (first | refine aSeq fun X hX => ?_ | refine aBlk ?_ | refine aSkip ?_ | (first | refine aExit ?_ | refine aRet ?_); try simp only [slx, ↓reduceIte, Nat.reduceEqDiff, reduceCtorEq] | (first | refine aReg ?_ | refine aIf ?_); simp -implicitDefEqProofs only [forall_eq, ↓slp, slb, ↓reduceIte, reduceCtorEq, jA, jB, jC, jD, jE, jF, jG, jH, jI, jJ, jK, tfNeL, f7, hnb, List.set_cons_succ, List.set_cons_zero]; try simp only [Ex.fold, Ex.foldcs, ← Va.pv.eq_1] | refine hX _ _ ?_; clear hX X | clear hX X; refine hX _ _ ?_; clear hX X | clear hX X; clear hX X; refine hX _ _ ?_; clear hX X | intro hlen; unfold maxLen at hlen | apply And.intro; focus (first | omega | assumption | (repeat' apply And.intro) <;> first | omega | assumption)))
      refine callE (hk2 _) ?_
      simp -implicitDefEqProofs only [↓slp, slb, ↓reduceIte, reduceCtorEq, jA, jB, jC, jD, jE, jF, jG, jH, jI, jJ, jK, tfNeL, f7, hnb]; try simp only [Ex.fold, Ex.foldcs, ← Va.pv.eq_1]
      (repeat (first | refine aSeq fun X hX => ?_ | refine aBlk ?_ | refine aSkip ?_ | (first | refine aExit ?_ | refine aRet ?_); try simp only [slx, ↓reduceIte, Nat.reduceEqDiff, reduceCtorEq] | (first | refine aReg ?_ | refine aIf ?_); simp -implicitDefEqProofs only [forall_eq, ↓slp, slb, ↓reduceIte, reduceCtorEq, jA, jB, jC, jD, jE, jF, jG, jH, jI, jJ, jK, tfNeL, f7, hnb, List.set_cons_succ, List.set_cons_zero]; try simp only [Ex.fold, Ex.foldcs, ← Va.pv.eq_1] | refine hX _ _ ?_; clear hX X | clear hX X; refine hX _ _ ?_; clear hX X | clear hX X; clear hX X; refine hX _ _ ?_; clear hX X | intro hlen; unfold maxLen at hlen | apply And.intro; focus (first | omega | assumption | (repeat' apply And.intro) <;> first | omega | assumption)))
      (repeat (first | refine aSeq fun X hX => ?_ | refine aBlk ?_ | refine aSkip ?_ | (first | refine aExit ?_ | refine aRet ?_); try simp only [slx, ↓reduceIte, Nat.reduceEqDiff, reduceCtorEq] | (first | refine aReg ?_ | refine aDrE ?_ | refine aIf ?_); simp -implicitDefEqProofs only [forall_eq, ↓slp, slb, ↓reduceIte, reduceCtorEq, jA, jB, jC, jD, jE, jF, jG, jH, jI, jJ, jK, tfNeL, f7, hnb, pI, List.set_cons_succ, List.set_cons_zero]; try simp only [Ex.fold, Ex.foldcs, ← Va.pv.eq_1] | refine hX _ _ ?_; clear hX X | clear hX X; refine hX _ _ ?_; clear hX X | clear hX X; clear hX X; refine hX _ _ ?_; clear hX X | intro hlen; unfold maxLen at hlen | apply And.intro; focus (first | omega | assumption | (repeat' apply And.intro) <;> first | omega | assumption)))
      refine callE (hKd _) ?_
      simp -implicitDefEqProofs only [↓slp, slb, ↓reduceIte, reduceCtorEq, jA, jB, jC, jD, jE, jF, jG, jH, jI, jJ, jK, tfNeL, pI]; try simp only [Ex.fold, Ex.foldcs, ← Va.pv.eq_1]
      (repeat (first | refine aSeq fun X hX => ?_ | refine aBlk ?_ | refine aSkip ?_ | (first | refine aExit ?_ | refine aRet ?_); try simp only [slx, ↓reduceIte, Nat.reduceEqDiff, reduceCtorEq] | (first | refine aReg ?_ | refine aDrE ?_ | refine aIf ?_); simp -implicitDefEqProofs only [forall_eq, ↓slp, slb, ↓reduceIte, reduceCtorEq, jA, jB, jC, jD, jE, jF, jG, jH, jI, jJ, jK, tfNeL, pI]; try simp only [Ex.fold, Ex.foldcs, ← Va.pv.eq_1] | refine hX _ _ ?_; clear hX X | clear hX X; refine hX _ _ ?_; clear hX X | clear hX X; clear hX X; refine hX _ _ ?_; clear hX X | intro hlen; unfold maxLen at hlen | apply And.intro; focus (first | omega | assumption | (repeat' apply And.intro) <;> first | omega | assumption)))
      refine callE (hW _) ?_
      simp -implicitDefEqProofs only [↓slp, slb, ↓reduceIte, reduceCtorEq, jA, jB, jC, jD, jE, jF, jG, jH, jI, jJ, jK, tfNeL, pI]; try simp only [Ex.fold, Ex.foldcs, ← Va.pv.eq_1]
      (repeat (first | refine aSeq fun X hX => ?_ | refine aBlk ?_ | refine aSkip ?_ | (first | refine aExit ?_ | refine aRet ?_); try simp only [slx, ↓reduceIte, Nat.reduceEqDiff, reduceCtorEq] | (first | refine aReg ?_ | refine aDrE ?_ | refine aIf ?_); simp -implicitDefEqProofs only [forall_eq, ↓slp, slb, ↓reduceIte, reduceCtorEq, jA, jB, jC, jD, jE, jF, jG, jH, jI, jJ, jK, tfNeL, pI]; try simp only [Ex.fold, Ex.foldcs, ← Va.pv.eq_1] | refine hX _ _ ?_; clear hX X | clear hX X; refine hX _ _ ?_; clear hX X | clear hX X; clear hX X; refine hX _ _ ?_; clear hX X | intro hlen; unfold maxLen at hlen | apply And.intro; focus (first | omega | assumption | (repeat' apply And.intro) <;> first | omega | assumption)))
      simp only [aPost, Tryd.results4, aRes_n, aRes_t, aRes_c, pack_one, pack_two]
      simp -implicitDefEqProofs only [↓slp, slb, ↓reduceIte, reduceCtorEq, jA, jB, jC, jD, jE, jF, jG, jH, jI, jJ, jK, tfNeL]; try simp only [Ex.fold, Ex.foldcs, ← Va.pv.eq_1]
      refine leave_toks htk rfl ?_
      simp [PV.settle]
    | true =>
      have hlt : i < ns.length := by simpa using c3
      have g0 := getD_map pS ns i hlt
      have hii : IntKind.i64.wrap ((i : Int) + 1) = ((i + 1 : Nat) : Int) := by rw [wrap64 (by omega)]; omega
      have hme : numOf (f 9) = i := by rw [f9]; exact Int.toNat_natCast i
      obtain ⟨nm, hnm⟩ : ∃ nm, ns[i] = nm := ⟨_, rfl⟩
      rw [hnm] at g0
      (repeat (first | refine aSeq fun X hX => ?_ | refine aBlk ?_ | refine aSkip ?_ | (first | refine aExit ?_ | refine aRet ?_); try simp only [slx, ↓reduceIte, Nat.reduceEqDiff, reduceCtorEq] | (first | refine aReg ?_ | refine aIf ?_); simp -implicitDefEqProofs only [forall_eq, ↓slp, slb, ↓reduceIte, reduceCtorEq, jA, jB, jC, jD, jE, jF, jG, jH, jI, jJ, jK, tfNeL, f0, f1, f2, f7, f8, f9, c3, pI]; try simp only [Ex.fold, Ex.foldcs, ← Va.pv.eq_1] | refine hX _ _ ?_; clear hX X | clear hX X; refine hX _ _ ?_; clear hX X | clear hX X; clear hX X; refine hX _ _ ?_; clear hX X | intro hlen; unfold maxLen at hlen | apply And.intro; focus (first | omega | assumption | (repeat' apply And.intro) <;> first | omega | assumption)))
      have join : ∀ (f : F) (kk : Int), f 0 = .sl .no (ns.map pS) → f 1 = .sl .no (cs.map pS) → f 2 = .sl .no (l.map qU) → f 7 = .bp 0 0 → f 8 = pI fr → f 9 = pI i → f 10 = pI kk → X f (mm.ext (some [.sl o (es.map En.pv), .sl .full []] :: r)) := by
        clear f0 f1 f2 f7 f8 f9
        intro f kk f0 f1 f2 f7 f8 f9 f10
        refine hX _ _ ?_
        clear hX X
        (repeat (first | refine aSeq fun X hX => ?_ | refine aBlk ?_ | refine aSkip ?_ | (first | refine aExit ?_ | refine aRet ?_); try simp only [slx, ↓reduceIte, Nat.reduceEqDiff, reduceCtorEq] | (first | refine aReg ?_ | refine aIf ?_); simp -implicitDefEqProofs only [forall_eq, ↓slp, slb, ↓reduceIte, reduceCtorEq, jA, jB, jC, jD, jE, jF, jG, jH, jI, jJ, jK, tfNeL, f0, f1, f2, f7, f8, f9, f10, pI, pS, g0, hlt, hnb, List.getElem?_concat_length, set_concat_length, List.set_cons_succ, List.cons_append, List.getElem?_cons_succ]; try simp only [Ex.fold, Ex.foldcs, ← Va.pv.eq_1] | refine hX _ _ ?_; clear hX X | clear hX X; refine hX _ _ ?_; clear hX X | clear hX X; clear hX X; refine hX _ _ ?_; clear hX X | intro hlen; unfold maxLen at hlen | apply And.intro; focus (first | omega | assumption | (repeat' apply And.intro) <;> first | omega | assumption)))
        obtain ⟨J, hJ⟩ : ∃ J : F → M → Prop, ∀ f m', J f m' = (∃ (fr2 : Nat) (cl : List Str) (oc : Own) (mm : M), fr ≤ fr2 ∧ fr2 ≤ cs.length ∧ es.flatMap En.ctors ++ cl = cs.take fr2 ∧ f 0 = .sl .no (ns.map pS) ∧ f 1 = .sl .no (cs.map pS) ∧ f 2 = .sl .no (l.map qU) ∧ f 7 = .bp 0 0 ∧ f 8 = pI fr2 ∧ f 9 = pI i ∧ f 10 = pI kk ∧ f 11 = .bp (0 + (r.length + 1)) 0 ∧ f 12 = pI (fr2 - fr : Nat) ∧ Toks M0 mm ∧ Mine M0 mm o 4 ∧ Mine M0 mm oc 1 ∧ (∀ t, oc = .tok t → o ≠ .tok t) ∧ mm.ext (some [.sl o (es.map En.pv), .sl .full []] :: (r ++ [some [.v (.string nm), .sl oc (cl.map pS), .v (.int .i64 0), .v (.int .i64 0)]])) = m') := ⟨_, fun _ _ => rfl⟩
        refine aLoop J (fun f m => cs.length - numOf (f 8)) ?_ ?_
        · rw [hJ]
          exact ⟨fr, [], .full, mm, Nat.le_refl _, hfr, by rw [List.append_nil]; exact hfl, f0, f1, f2, f7, f8, f9, f10, rfl, by rw [Nat.sub_self]; rfl, htk, hmi, .full, (fun t h => by cases h), rfl⟩
        clear f0 f1 f2 f7 f8 f9 f10 htk hmi hnb
        intro f m' hrel
        rw [hJ] at hrel
        obtain ⟨fr2, cl, oc, mm, hf1, hf2, hfl2, f0, f1, f2, f7, f8, f9, f10, f11, f12, htk, hmi, hmc, hne, rfl⟩ := hrel
        have hnb : mm.nb = 0 := htk.nb
        have hcll : cl.length ≤ 100 := by
          have := congrArg List.length hfl2
          rw [List.length_append, List.length_take] at this
          omega
        have hend : ∀ (f : F), f 0 = .sl .no (ns.map pS) ∧ f 1 = .sl .no (cs.map pS) ∧ f 2 = .sl .no (l.map qU) ∧ f 7 = .bp 0 0 → f 8 = pI fr2 → f 9 = pI i → f 11 = .bp (0 + (r.length + 1)) 0 → X f (mm.ext (some [.sl o (es.map En.pv), .sl .full []] :: (r ++ [some [.v (.string nm), .sl oc (cl.map pS), .v (.int .i64 0), .v (.int .i64 0)]]))) := by
          clear f0 f1 f2 f7 f8 f9 f10 f11 f12
          rintro f ⟨f0, f1, f2, f7⟩ f8 f9 f11
          refine hX _ _ ?_
          clear hX X
          have hfo := hmi.free
          have q3 := en_len4 es
          have q1 : es.length + 1 ≤ maxLen := by unfold maxLen; omega
          (repeat (first | refine aSeq fun X hX => ?_ | refine aBlk ?_ | refine aSkip ?_ | (first | refine aExit ?_ | refine aRet ?_); try simp only [slx, ↓reduceIte, Nat.reduceEqDiff, reduceCtorEq] | (first | refine aReg ?_ | refine aIf ?_); simp -implicitDefEqProofs only [forall_eq, ↓slp, slb, ↓reduceIte, reduceCtorEq, jA, jB, jC, jD, jE, jF, jG, jH, jI, jJ, jK, tfNeL, f0, f1, f2, f7, f8, f9, f11, pI, pS, hii, hnb, List.getElem?_concat_length, set_concat_length, List.set_cons_succ, List.cons_append, List.getElem?_cons_succ]; try simp only [Ex.fold, Ex.foldcs, ← Va.pv.eq_1] | refine hX _ _ ?_; clear hX X | clear hX X; refine hX _ _ ?_; clear hX X | clear hX X; clear hX X; refine hX _ _ ?_; clear hX X | intro hlen; unfold maxLen at hlen | apply And.intro; focus (first | omega | assumption | (repeat' apply And.intro) <;> first | omega | assumption)))
          rw [hI]
          exact ⟨⟨i + 1, fr2, es ++ [⟨nm, cl, 0, 0⟩], .tok mm.nt, (o.use mm).fresh 4, r ++ [_], hlt, hf2, by simp [hel2], by rw [List.flatMap_append]; simpa using hfl2, f0, f1, f2, f7, f8, rfl, htk.use hmi, Mine.new htk o 4, by rw [List.map_append]; rfl⟩, by omega⟩
        cases c5 : decide (((fr2 - fr : Nat) : Int) < kk) with
        | false =>
          (repeat (first | refine aSeq fun X hX => ?_ | refine aBlk ?_ | refine aSkip ?_ | (first | refine aExit ?_ | refine aRet ?_); try simp only [slx, ↓reduceIte, Nat.reduceEqDiff, reduceCtorEq] | (first | refine aReg ?_ | refine aIf ?_); simp -implicitDefEqProofs only [forall_eq, ↓slp, slb, ↓reduceIte, reduceCtorEq, jA, jB, jC, jD, jE, jF, jG, jH, jI, jJ, jK, tfNeL, f0, f1, f2, f7, f8, f9, f10, f11, f12, pI, c5]; try simp only [Ex.fold, Ex.foldcs, ← Va.pv.eq_1] | refine hX _ _ ?_; clear hX X | clear hX X; refine hX _ _ ?_; clear hX X | clear hX X; clear hX X; refine hX _ _ ?_; clear hX X | intro hlen; unfold maxLen at hlen | apply And.intro; focus (first | omega | assumption | (repeat' apply And.intro) <;> first | omega | assumption)))
          exact hend _ ⟨f0, f1, f2, f7⟩ f8 f9 f11
        | true =>
        cases c6 : decide ((fr2 : Int) < (cs.length : Int)) with
        | false =>
          (repeat (first | refine aSeq fun X hX => ?_ | refine aBlk ?_ | refine aSkip ?_ | (first | refine aExit ?_ | refine aRet ?_); try simp only [slx, ↓reduceIte, Nat.reduceEqDiff, reduceCtorEq] | (first | refine aReg ?_ | refine aIf ?_); simp -implicitDefEqProofs only [forall_eq, ↓slp, slb, ↓reduceIte, reduceCtorEq, jA, jB, jC, jD, jE, jF, jG, jH, jI, jJ, jK, tfNeL, f0, f1, f2, f7, f8, f9, f10, f11, f12, pI, c5, c6]; try simp only [Ex.fold, Ex.foldcs, ← Va.pv.eq_1] | refine hX _ _ ?_; clear hX X | clear hX X; refine hX _ _ ?_; clear hX X | clear hX X; clear hX X; refine hX _ _ ?_; clear hX X | intro hlen; unfold maxLen at hlen | apply And.intro; focus (first | omega | assumption | (repeat' apply And.intro) <;> first | omega | assumption)))
          exact hend _ ⟨f0, f1, f2, f7⟩ f8 f9 f11
        | true =>
          have hlt2 : fr2 < cs.length := by simpa using c6
          have gc := getD_map pS cs fr2 hlt2
          have hfi : IntKind.i64.wrap ((fr2 : Int) + 1) = ((fr2 + 1 : Nat) : Int) := by rw [wrap64 (by omega)]; omega
          have hji : IntKind.i64.wrap (((fr2 - fr : Nat) : Int) + 1) = ((fr2 + 1 - fr : Nat) : Int) := by rw [wrap64 (by omega)]; omega
          have hme2 : numOf (f 8) = fr2 := by rw [f8]; exact Int.toNat_natCast fr2
          have hfr2 := hmc.free
          have hLa := strE_one cl
          have h1c : ∀ y ∈ [pS cs[fr2]], y.cells.length = 1 := strE_one [cs[fr2]]
          have hmx2 : cl.length + 1 ≤ maxLen := by unfold maxLen; omega
          (repeat (first | refine aSeq fun X hX => ?_ | refine aBlk ?_ | refine aSkip ?_ | (first | refine aExit ?_ | refine aRet ?_); try simp only [slx, ↓reduceIte, Nat.reduceEqDiff, reduceCtorEq] | (first | refine aReg ?_ | refine aIf ?_); simp -implicitDefEqProofs only [forall_eq, ↓slp, slb, ↓reduceIte, reduceCtorEq, jA, jB, jC, jD, jE, jF, jG, jH, jI, jJ, jK, tfNeL, f0, f1, f2, f7, f8, f9, f10, f11, f12, pI, c5, c6, gc, hnb, List.getElem?_concat_length, set_concat_length, List.set_cons_succ, List.cons_append, List.getElem?_cons_succ]; try simp only [Ex.fold, Ex.foldcs, ← Va.pv.eq_1] | refine hX _ _ ?_; clear hX X | clear hX X; refine hX _ _ ?_; clear hX X | clear hX X; clear hX X; refine hX _ _ ?_; clear hX X | intro hlen; unfold maxLen at hlen | apply And.intro; focus (first | omega | assumption | (repeat' apply And.intro) <;> first | omega | assumption)))
          have hA : ∀ ts, (⟨mm.boxes, ts⟩ : M).nb = 0 := fun ts => hnb
          refine aDrwE (isB mm (some [.sl o (es.map En.pv), .sl .full []] :: (r ++ [some [.v (.string nm), .sl oc (cl.map pS), .v (.int .i64 0), .v (.int .i64 0)]]))) (hne := List.cons_ne_nil _ _) rfl (by kernel_rfl) (by kernel_rfl) ⟨mm.toks, rfl⟩ ?_
          simp -implicitDefEqProofs only [↓slp, slb, ↓reduceIte, reduceCtorEq, jA, jB, jC, jD, jE, jF, jG, jH, jI, jJ, jK, tfNeL, f0, f1, f2, f7, f8, f9, f10, f11, f12, pI, pS, gc, hlt2, hnb, hA, hfi, hji, isB_all, forall_const, List.dropLast_cons_cons, List.dropLast_singleton, List.getLast_cons_cons, List.getLast_singleton, List.getElem?_concat_length, set_concat_length, List.set_cons_succ, List.cons_append, List.getElem?_cons_succ]; try simp only [Ex.fold, Ex.foldcs, ← Va.pv.eq_1]
          have hub : (oc.use mm).fresh 1 = (⟨mm.boxes, ((oc.use mm).fresh 1).toks⟩ : M) := by cases oc <;> rfl
          refine ⟨⟨hfr2, hLa, hmx2, by omega⟩, ⟨_, congrArg (fun z : M => z.ext _) hub⟩, ?_⟩
          (repeat (first | refine aSeq fun X hX => ?_ | refine aBlk ?_ | refine aSkip ?_ | (first | refine aExit ?_ | refine aRet ?_); try simp only [slx, ↓reduceIte, Nat.reduceEqDiff, reduceCtorEq] | (first | refine aReg ?_ | refine aIf ?_); simp -implicitDefEqProofs only [forall_eq, ↓slp, slb, ↓reduceIte, reduceCtorEq, jA, jB, jC, jD, jE, jF, jG, jH, jI, jJ, jK, tfNeL, f8, f12, hfi, hji, pI, List.getElem?_concat_length, set_concat_length, List.set_cons_succ, List.cons_append, List.getElem?_cons_succ]; try simp only [Ex.fold, Ex.foldcs, ← Va.pv.eq_1] | refine hX _ _ ?_; clear hX X | clear hX X; refine hX _ _ ?_; clear hX X | clear hX X; clear hX X; refine hX _ _ ?_; clear hX X | intro hlen; unfold maxLen at hlen | apply And.intro; focus (first | omega | assumption | (repeat' apply And.intro) <;> first | omega | assumption)))
          rw [hJ]
          exact ⟨⟨fr2 + 1, cl ++ [cs[fr2]], .tok mm.nt, (oc.use mm).fresh 1, by omega, hlt2, by rw [← List.append_assoc, hfl2, List.take_succ_eq_append_getElem hlt2], f0, f1, f2, f7, rfl, f9, f10, f11, rfl, htk.use hmc, Mine.other hmi hne, Mine.new htk oc 1, Mine.ne_new hmi, by rw [List.map_append]; rfl⟩, by omega⟩
      cases c4 : decide ((i : Int) < (l.length : Int)) with
      | true =>
        have hltl : i < l.length := by simpa using c4
        have gl := getD_map qU l i hltl
        simp -implicitDefEqProofs only [↓slp, slb, ↓reduceIte, reduceCtorEq, jA, jB, jC, jD, jE, jF, jG, jH, jI, jJ, jK, tfNeL, c4]; try simp only [Ex.fold, Ex.foldcs, ← Va.pv.eq_1]
        (repeat (first | refine aSeq fun X hX => ?_ | refine aBlk ?_ | refine aSkip ?_ | (first | refine aExit ?_ | refine aRet ?_); try simp only [slx, ↓reduceIte, Nat.reduceEqDiff, reduceCtorEq] | (first | refine aReg ?_ | refine aIf ?_); simp -implicitDefEqProofs only [forall_eq, ↓slp, slb, ↓reduceIte, reduceCtorEq, jA, jB, jC, jD, jE, jF, jG, jH, jI, jJ, jK, tfNeL, c4, f2, f9, pI, gl, hltl]; try simp only [Ex.fold, Ex.foldcs, ← Va.pv.eq_1] | refine hX _ _ ?_; clear hX X | clear hX X; refine hX _ _ ?_; clear hX X | clear hX X; clear hX X; refine hX _ _ ?_; clear hX X | intro hlen; unfold maxLen at hlen | apply And.intro; focus (first | omega | assumption | (repeat' apply And.intro) <;> first | omega | assumption)))
        exact join _ _ f0 f1 f2 f7 f8 f9 rfl
      | false =>
        simp -implicitDefEqProofs only [↓slp, slb, ↓reduceIte, reduceCtorEq, jA, jB, jC, jD, jE, jF, jG, jH, jI, jJ, jK, tfNeL, c4]; try simp only [Ex.fold, Ex.foldcs, ← Va.pv.eq_1]
        (repeat (first | refine aSeq fun X hX => ?_ | refine aBlk ?_ | refine aSkip ?_ | (first | refine aExit ?_ | refine aRet ?_); try simp only [slx, ↓reduceIte, Nat.reduceEqDiff, reduceCtorEq] | (first | refine aReg ?_ | refine aIf ?_); simp -implicitDefEqProofs only [forall_eq, ↓slp, slb, ↓reduceIte, reduceCtorEq, jA, jB, jC, jD, jE, jF, jG, jH, jI, jJ, jK, tfNeL, c4]; try simp only [Ex.fold, Ex.foldcs, ← Va.pv.eq_1] | refine hX _ _ ?_; clear hX X | clear hX X; refine hX _ _ ?_; clear hX X | clear hX X; clear hX X; refine hX _ _ ?_; clear hX X | intro hlen; unfold maxLen at hlen | apply And.intro; focus (first | omega | assumption | (repeat' apply And.intro) <;> first | omega | assumption)))
        exact join _ 1 f0 f1 f2 f7 f8 f9 rfl
end Go.Proofs.YteiaedmipkcfeaaDoor
