/-
 Texts that belong together: NwA, NwI, NmI, NwV, NwB, NwC, NmO.
-/
-- halved
import Derived.Test.YthhhnfjcaicjnaaGreatDoorAbMac
import Derived.Test.YthhhnfjcaicjnaaGreatDoorTaA
import Derived.Test.YthhhnfjcaicjnaaGreatDoorExA
import Derived.Test.YthhhnfjcaicjnaaGreatDoorQA
import Derived.Test.YthhhnfjcaicjnaaGreatDoorSlcX
import Derived.Test.YthhhnfjcaicjnaaGreatDoorAbKit
import Derived.Test.YthhhnfjcaicjnaaGreatDoorNvA
set_option linter.unusedVariables false
set_option linter.unusedSimpArgs false
namespace Go.Proofs.YthhhnfjcaicjnaaGreatDoor
open Nat renaming reduceEqDiff → jA, reduceAdd → jB, reduceMul → jC, reduceLT → jD, reduceLeDiff → jE, reduceBEq → jF, reduceBNe → jG
open Int renaming reduceLE → jH, reduceLT → jI, reduceToNat → jJ, reduceEq → jK
open Go
set_option maxRecDepth 20000
set_option linter.defProp false
def tfNwA := tfTeA

abbrev nStop (k l c : Int) : PV := .ifc 80 (.ag [pA l c k])
abbrev ZN (m : M) : PV → M → Prop := fun v m' => (∃ k l c, v = nStop k l c) ∧ m' = m
abbrev unitP (m : M) : PV → M → Prop := fun v m' => v = .tp [] ∧ m' = m
def scN (V : List Va) (O : List Str) : PV := .ag [.sl .no (V.map Va.pv), .sl .no (O.map pS)]
set_option maxHeartbeats 1000000 in
theorem nfail_any (k l c : Int) (hk : (k == 0) = false) (m : M) : ACallsZ Tryz.prog 23 [.v (.int .i64 k), pP l c] m (fun _ _ => False) (ZN m) := by
 have hn : ∀ m, ACalls Tryz.prog 46 [.v (.int .i64 k), pP l c] m (fun v m' => v = pA l c k ∧ m' = m) := fun m => by
  refine eN [] Tryz.func46 ?_
  (repeat revert X); refine wW (And.intro tfNwA hk) ?_; repeat intro X hX
  refine aIf ?_; simp -implicitDefEqProofs only [↓slp, slb, ↓reduceIte, reduceCtorEq, jA, jB, jC, jD, jE, jF, jG, jH, jI, jJ, jK, hk]
  (repeat revert X); refine wW (And.intro tfNwA hk) ?_; repeat intro X hX
  refine wR Tryz.results46 ?_
  exact leave_same rfl ⟨rfl, rfl⟩
 refine eZ [] Tryz.func23 ?_
 (repeat revert X); refine wW tfNwA ?_; repeat intro X hX
 refine callE (hn _) ?_
 refine wS tfNwA ?_
 (repeat (first | refine aSeq fun X hX => ?_ | apply aBlk | refine aSkip ?_ | (first | refine aExit ?_ | refine aRet ?_); try simp only [slx, ↓reduceIte, jA, reduceCtorEq] | (first | apply aReg | refine aDrE ?_); simp -implicitDefEqProofs only [forall_eq, ↓slp, slb, ↓reduceIte, reduceCtorEq, jA, jB, jC, jD, jE, jF, jG, jH, jI, jJ, jK, tfNwA]; try simp only [fo] | apply hX; clear hX X | clear hX X; apply hX; clear hX X | clear hX X; clear hX X; apply hX; clear hX X | intro hlen; unfold maxLen at hlen | apply And.intro; · first | assumption | and_intros <;> first | omega | assumption))
 have hu := Tryz.underlying80
 simp -implicitDefEqProofs only [↓slp, slb, ↓reduceIte, reduceCtorEq, jA, jB, jC, jD, jE, jF, jG, jH, jI, jJ, jK, tfNwA, hu]
 refine leave_same ?_ ?_
 ·rfl
 ·exact ⟨⟨k, l, c, rfl⟩, rfl⟩
set_option maxHeartbeats 1000000 in
theorem nctor_any (ns : List No) (E : List En) (s : Str) (m : M) : ACalls Tryz.prog 85 [lkE E ns, pS s] m (fun v m' => (∃ b, v = pB b) ∧ m' = m) := by
 unfold lkE
 cases c1 : (s.toList == (⟨#[116, 114, 117, 101]⟩ : Str).toList) with
 | true =>
  refine eN [] Tryz.func85 ?_
  (repeat revert X); refine wD (And.intro tfNwA (And.intro @pS.eq_1 c1)) ?_; repeat intro X hX
  refine wR Tryz.results85 ?_
  exact leave_same rfl ⟨⟨_, rfl⟩, rfl⟩
 | false =>
 cases c2 : (s.toList == (⟨#[102, 97, 108, 115, 101]⟩ : Str).toList) with
 | true =>
  refine eN [] Tryz.func85 ?_
  (repeat revert X); refine wD (And.intro tfNwA (And.intro @pS.eq_1 (And.intro c1 c2))) ?_; repeat intro X hX
  refine wR Tryz.results85 ?_
  exact leave_same rfl ⟨⟨_, rfl⟩, rfl⟩
 | false =>
  have hce := fun m => ctorEn_any .no E s m
  refine eN [] Tryz.func85 ?_
  (repeat revert X); refine wD (And.intro tfNwA (And.intro @pS.eq_1 (And.intro c1 c2))) ?_; repeat intro X hX
  refine callE (hce _) ?_
  refine wS (And.intro tfNwA @pI.eq_1) ?_
  (repeat revert X); refine wD aEQ_t ?_; repeat intro X hX
  refine wR Tryz.results85 ?_
  exact leave_same rfl ⟨⟨_, rfl⟩, rfl⟩
theorem zn_leave {m : M} (v : PV) (m' : M) (h : ZN m v m') : LeaveZ m (ZN m) v m' := by
 obtain ⟨⟨k, l, c, rfl⟩, rfl⟩ := h
 exact leave_same rfl ⟨⟨k, l, c, rfl⟩, rfl⟩
def WX (ns : List No) (E : List En) (V : List Va) (O : List Str) (e : Ex) : Prop := ∀ m : M, ACallsZ Tryz.prog 82 [lkE E ns, scN V O, e.pv] m (unitP m) (ZN m)
set_option maxHeartbeats 8000000 in
theorem nex_step (ns : List No) (E : List En) (V : List Va) (O : List Str) (e : Ex) (IH : ∀ i (h : i < e.kids.length), WX ns E V O e.kids[i]) : WX ns E V O e := by
 intro m
 have hfv := fun m => findVar_any .no V e.name m
 have hce := fun m => ctorEn_any .no E e.name m
 have hct := fun (s : Str) m => nctor_any ns E s m
 have hfl := fun m => nfail_any 5 e.line e.col rfl m
 have hfb : findVar V e.name < (V.length : Int) := idxF_lt V
 unfold WX at IH
 unfold lkE scN at *
 refine eZ [] Tryz.func82 ?_
 (repeat (first | refine aSeq fun X hX => ?_ | refine aBlk ?_ | refine aReg ?_; simp -implicitDefEqProofs only [forall_eq, ↓slp, slb, ↓reduceIte, reduceCtorEq, jA, jB, jC, jD, jE, jF, jG, jH, jI, jJ, jK, tfNwA]; try simp only [fo] | apply hX; clear hX X | intro hlen; unfold maxLen at hlen))
 obtain ⟨I, hI⟩ : ∃ I : F → M → Prop, ∀ f m', I f m' = (∃ k : Nat, k ≤ e.kids.length ∧ f 0 = .ep [.sl .no (E.map En.pv), .sl .no (ns.map No.pv)] ∧ f 4 = .ep [.sl .no (V.map Va.pv), .sl .no (O.map pS)] ∧ f 5 = .ep e.cs ∧ f 13 = .sl .no (e.kids.map Ex.pv) ∧ f 14 = pI e.kids.length ∧ f 15 = pI k ∧ m = m') := ⟨_, fun _ _ => rfl⟩
 refine aLoop I (fun f m => e.kids.length - numOf (f 15)) ?_ ?_
 ·rw [hI]; exact ⟨0, by omega, rfl, rfl, rfl, rfl, rfl, rfl, rfl⟩
 intro f m' hrel
 rw [hI] at hrel
 obtain ⟨k, hk, f0, f4, f5, f13, f14, f15, rfl⟩ := hrel
 cases c0 : decide ((k : Int) < (e.kids.length : Int)) with
 | true =>
  have hlt : k < e.kids.length := by simpa using c0
  have g0 := getD_map Ex.pv e.kids k hlt
  have hi : IntKind.i64.wrap ((k : Int) + 1) = ((k + 1 : Nat) : Int) := by rw [wrap64 (by omega)]; omega
  have hme : numOf (f 15) = k := by rw [f15]; exact Int.toNat_natCast k
  have hx := IH k hlt
  generalize e.kids[k] = x at *
  (repeat (first | refine aSeq fun X hX => ?_ | refine aSkip ?_ | (first | apply aReg | apply aIf); simp -implicitDefEqProofs only [forall_eq, ↓slp, slb, ↓reduceIte, reduceCtorEq, jA, jB, jC, jD, jE, jF, jG, jH, jI, jJ, jK, tfNwA, f0, f4, f5, f13, f14, f15, pI, c0, g0]; try simp only [fo] | apply hX; clear hX X | apply And.intro; focus omega))
  refine callP (hx _) zn_leave ?_
  rintro v m' ⟨rfl, rfl⟩
  refine wS (And.intro tfNwA (And.intro f15 (And.intro @pI.eq_1 hi))) ?_
  (repeat (first | refine aReg ?_; simp -implicitDefEqProofs only [forall_eq, ↓slp, slb, ↓reduceIte, reduceCtorEq, jA, jB, jC, jD, jE, jF, jG, jH, jI, jJ, jK, tfNwA, f15, pI, hi]; try simp only [fo] | apply hX; clear hX X))
  rw [hI]
  exact ⟨⟨k + 1, hlt, f0, f4, f5, f13, f14, rfl, rfl⟩, by omega⟩
 | false =>
  clear hI IH
  cases c1 : (e.kind == 4) with
  | true =>
   cases hb : decide (findVar V e.name ≥ 0)
   all_goals
    (repeat revert X); refine wD (And.intro tfNwA (And.intro f0 (And.intro f4 (And.intro f5 (And.intro f13 (And.intro f14 (And.intro f15 (And.intro @pI.eq_1 c0)))))))) ?_; repeat intro X hX
    refine callE (hfv _) ?_
    refine wS (And.intro tfNwA (And.intro f0 (And.intro f4 (And.intro f5 @pI.eq_1)))) ?_
    (repeat revert X); refine wD (And.intro tfNwA (And.intro f0 (And.intro f4 (And.intro f5 (And.intro @pI.eq_1 (And.intro c1 hb)))))) ?_; repeat intro X hX
    first
     | exact callP (hfl _) zn_leave (fun v m' h => h.elim)
     | simp only [aPost, Tryz.results82, aRes_n, aRes_t, aRes_c, pack_one, pack_two]
       exact leave_same rfl ⟨rfl, rfl⟩
  | false =>
  cases c2 : (e.kind == 5) with
  | true =>
   cases b2 : decide (findVar V e.name ≥ 0) with
   | true =>
    have h0 : 0 ≤ findVar V e.name := by simpa using b2
    obtain ⟨j, hj⟩ : ∃ j : Nat, findVar V e.name = (j : Int) := ⟨(findVar V e.name).toNat, by omega⟩
    have hlj : j < V.length := by omega
    have gj := getD_map Va.pv V j hlj
    rw [hj] at hfv b2
    cases hb : V[j].last
    all_goals
     (repeat revert X); refine wD (And.intro tfNwA (And.intro f0 (And.intro f4 (And.intro f5 (And.intro f13 (And.intro f14 (And.intro f15 (And.intro @pI.eq_1 c0)))))))) ?_; repeat intro X hX
     refine callE (hfv _) ?_
     refine wS (And.intro tfNwA (And.intro f0 (And.intro f4 (And.intro f5 @pI.eq_1)))) ?_
     (repeat revert X); refine wD (And.intro tfNwA (And.intro f0 (And.intro f4 (And.intro f5 (And.intro @pI.eq_1 (And.intro c1 (And.intro c2 (And.intro b2 (And.intro gj (And.intro hlj hb)))))))))) ?_; repeat intro X hX
     first
      | exact callP (hfl _) zn_leave (fun v m' h => h.elim)
      | simp only [aPost, Tryz.results82, aRes_n, aRes_t, aRes_c, pack_one, pack_two]
        exact leave_same rfl ⟨rfl, rfl⟩
   | false =>
    (repeat revert X); refine wD (And.intro tfNwA (And.intro f0 (And.intro f4 (And.intro f5 (And.intro f13 (And.intro f14 (And.intro f15 (And.intro @pI.eq_1 c0)))))))) ?_; repeat intro X hX
    refine callE (hfv _) ?_
    refine wS (And.intro tfNwA (And.intro f0 (And.intro f4 (And.intro f5 @pI.eq_1)))) ?_
    (repeat revert X); refine wD (And.intro tfNwA (And.intro f0 (And.intro f4 (And.intro f5 (And.intro @pI.eq_1 (And.intro c1 (And.intro c2 b2))))))) ?_; repeat intro X hX
    first
     | exact callP (hfl _) zn_leave (fun v m' h => h.elim)
     | simp only [aPost, Tryz.results82, aRes_n, aRes_t, aRes_c, pack_one, pack_two]
       exact leave_same rfl ⟨rfl, rfl⟩
  | false =>
  cases c3 : (e.kind == 3) with
  | true =>
   cases hb : decide (ctorEn E e.name ≥ 0)
   all_goals
    (repeat revert X); refine wD (And.intro tfNwA (And.intro f0 (And.intro f4 (And.intro f5 (And.intro f13 (And.intro f14 (And.intro f15 (And.intro @pI.eq_1 c0)))))))) ?_; repeat intro X hX
    refine callE (hfv _) ?_
    refine wS (And.intro tfNwA (And.intro f0 (And.intro f4 (And.intro f5 @pI.eq_1)))) ?_
    (repeat revert X); refine wD (And.intro tfNwA (And.intro f0 (And.intro f4 (And.intro f5 (And.intro @pI.eq_1 (And.intro c1 (And.intro c2 c3))))))) ?_; repeat intro X hX
    refine callE (hce _) ?_
    refine wS (And.intro tfNwA (And.intro f0 (And.intro f4 (And.intro f5 (And.intro @pI.eq_1 hb))))) ?_
    (repeat revert X); refine wD (And.intro tfNwA (And.intro f0 (And.intro f4 (And.intro f5 (And.intro @pI.eq_1 hb))))) ?_; repeat intro X hX
    first
     | exact callP (hfl _) zn_leave (fun v m' h => h.elim)
     | simp only [aPost, Tryz.results82, aRes_n, aRes_t, aRes_c, pack_one, pack_two]
       exact leave_same rfl ⟨rfl, rfl⟩
  | false =>
  cases c4 : (e.kind == 12 || e.kind == 13) with
  | false =>
   obtain ⟨c5, c6⟩ : (e.kind == 12) = false ∧ (e.kind == 13) = false := by revert c4; cases (e.kind == 12) <;> cases (e.kind == 13) <;> simp
   (repeat revert X); refine wD (And.intro tfNwA (And.intro f0 (And.intro f4 (And.intro f5 (And.intro f13 (And.intro f14 (And.intro f15 (And.intro @pI.eq_1 c0)))))))) ?_; repeat intro X hX
   refine callE (hfv _) ?_
   refine wS (And.intro tfNwA (And.intro f0 (And.intro f4 (And.intro f5 @pI.eq_1)))) ?_
   (repeat revert X); refine wD (And.intro tfNwA (And.intro f0 (And.intro f4 (And.intro f5 (And.intro @pI.eq_1 (And.intro c1 (And.intro c2 (And.intro c3 (And.intro c5 c6))))))))) ?_; repeat intro X hX
   first
    | exact callP (hfl _) zn_leave (fun v m' h => h.elim)
    | simp only [aPost, Tryz.results82, aRes_n, aRes_t, aRes_c, pack_one, pack_two]
      exact leave_same rfl ⟨rfl, rfl⟩
  | true =>
   cases c5 : (e.kind == 12) <;> cases c6 : (e.kind == 13)
   ·rw [c5, c6] at c4; cases c4
   all_goals
    generalize hb0 : decide (findVar V e.name ≥ 0) = b0
    (repeat revert X); refine wD (And.intro tfNwA (And.intro f0 (And.intro f4 (And.intro f5 (And.intro f13 (And.intro f14 (And.intro f15 (And.intro @pI.eq_1 c0)))))))) ?_; repeat intro X hX
    refine callE (hfv _) ?_
    refine wS (And.intro tfNwA (And.intro f0 (And.intro f4 (And.intro f5 @pI.eq_1)))) ?_
    (repeat (first | refine aSeq fun X hX => ?_ | refine aBlk ?_ | refine aSkip ?_ | (first | apply aReg | apply aIf); simp -implicitDefEqProofs only [forall_eq, ↓slp, slb, ↓reduceIte, reduceCtorEq, jA, jB, jC, jD, jE, jF, jG, jH, jI, jJ, jK, tfNwA, f0, f4, f5, pI, c1, c2, c3, c5, c6, hb0]; try simp only [fo] | apply hX; clear hX X | intro hlen; unfold maxLen at hlen))
    obtain ⟨J, hJ⟩ : ∃ J : F → M → Prop, ∀ f m', J f m' = (∃ (j : Nat) (b : Bool), j ≤ e.names.length ∧ f 0 = .ep [.sl .no (E.map En.pv), .sl .no (ns.map No.pv)] ∧ f 5 = .ep e.cs ∧ f 9 = pB b ∧ f 64 = .sl .no (e.names.map pS) ∧ f 65 = pI e.names.length ∧ f 66 = pI j ∧ m = m') := ⟨_, fun _ _ => rfl⟩
    refine aLoop J (fun f m => e.names.length - numOf (f 66)) ?_ ?_
    ·rw [hJ]; exact ⟨0, b0, by omega, f0, f5, rfl, rfl, rfl, rfl, rfl⟩
    clear f0 f4 f5 f13 f14 f15
    intro f m' hrel
    rw [hJ] at hrel
    obtain ⟨j, b, hj, f0, f5, f9, f64, f65, f66, rfl⟩ := hrel
    cases c7 : decide ((j : Int) < (e.names.length : Int)) with
    | true =>
     have hlt : j < e.names.length := by simpa using c7
     have g0 := getD_map pS e.names j hlt
     have hi : IntKind.i64.wrap ((j : Int) + 1) = ((j + 1 : Nat) : Int) := by rw [wrap64 (by omega)]; omega
     have hme : numOf (f 66) = j := by rw [f66]; exact Int.toNat_natCast j
     have hc := hct e.names[j]
     generalize e.names[j] = s at *
     cases b with
     | true =>
      (repeat (first | refine aSeq fun X hX => ?_ | refine aSkip ?_ | (first | apply aReg | apply aIf); simp -implicitDefEqProofs only [forall_eq, ↓slp, slb, ↓reduceIte, reduceCtorEq, jA, jB, jC, jD, jE, jF, jG, jH, jI, jJ, jK, tfNwA, f0, f5, f9, f64, f65, f66, pI, pB, pS, c7, g0] | apply hX; clear hX X | apply And.intro; focus omega))
      refine callM (hc _) ?_
      rintro v m' ⟨⟨b, rfl⟩, rfl⟩
      refine wS (And.intro tfNwA (And.intro f66 (And.intro @pI.eq_1 (And.intro @pB.eq_1 hi)))) ?_
      (repeat (first | refine aReg ?_; simp -implicitDefEqProofs only [forall_eq, ↓slp, slb, ↓reduceIte, reduceCtorEq, jA, jB, jC, jD, jE, jF, jG, jH, jI, jJ, jK, tfNwA, f66, pI, pB, hi] | apply hX; clear hX X))
      rw [hJ]
      exact ⟨⟨j + 1, b, hlt, f0, f5, rfl, f64, f65, rfl, rfl⟩, by omega⟩
     | false =>
      (repeat (first | refine aSeq fun X hX => ?_ | refine aSkip ?_ | (first | apply aReg | apply aIf); simp -implicitDefEqProofs only [forall_eq, ↓slp, slb, ↓reduceIte, reduceCtorEq, jA, jB, jC, jD, jE, jF, jG, jH, jI, jJ, jK, tfNwA, f0, f5, f9, f64, f65, f66, pI, pB, pS, c7, g0, hi] | apply hX; clear hX X | apply And.intro; focus omega))
      rw [hJ]
      exact ⟨⟨j + 1, false, hlt, f0, f5, rfl, f64, f65, rfl, rfl⟩, by omega⟩
    | false =>
     cases b
     all_goals
      (repeat revert X); refine wD (And.intro tfNwA (And.intro f0 (And.intro f5 (And.intro f9 (And.intro f64 (And.intro f65 (And.intro f66 (And.intro @pI.eq_1 (And.intro @pB.eq_1 c7))))))))) ?_; repeat intro X hX
      first
       | exact callP (hfl _) zn_leave (fun v m' h => h.elim)
       | simp only [aPost, Tryz.results82, aRes_n, aRes_t, aRes_c, pack_one, pack_two]
         exact leave_same rfl ⟨rfl, rfl⟩
theorem nex_any (ns : List No) (E : List En) (V : List Va) (O : List Str) (e : Ex) : WX ns E V O e := Ex.ind (motive := WX ns E V O) (fun e IH => nex_step ns E V O e IH) e

def tfNwI := And.intro @tfA (And.intro @Ex.settle_pv (And.intro @Ex.pure_pv (And.intro @Ex.cells_pv (And.intro @Ex.cs.eq_1 (And.intro @On.pv.eq_1 (And.intro @Ty.pv.eq_1 (And.intro @Va.settle_pv (And.intro @Va.pure_pv (And.intro @Va.cells_pv (And.intro @Va.cs.eq_1 (And.intro @Qu.settle_pv (And.intro @Qu.pure_pv (And.intro @Qu.cells_pv (And.intro @Qu.cs.eq_1 (And.intro @Am.settle_pv (And.intro @Am.pure_pv (And.intro @Am.cells_pv (And.intro @Am.cs.eq_1 (And.intro @Tr.settle_pv (And.intro @Tr.pure_pv (And.intro @Tr.cells_pv (And.intro @Tr.cs.eq_1 (And.intro @No.settle_pv (And.intro @No.pure_pv (And.intro @No.cells_pv (And.intro @No.cs.eq_1 @No.pv.eq_1))))))))))))))))))))))))))

set_option maxRecDepth 20000 in
set_option maxHeartbeats 1000000 in
theorem idxAm_any (o : Own) (l : List Am) (p : Am → Bool) (g : FuncId) (c : PV) (m : M) (hf : ∀ k (hk : k < l.length) (m : M), ACalls Tryz.prog g [Am.pv l[k], c] m (fun v m' => v = pB (p l[k]) ∧ m' = m)) :
    ACalls Tryz.prog 113 [.sl o (l.map (Am.pv)), .fn (.func g) [] [c]] m (fun v m' => v = pI (idxF p l 0) ∧ m' = m) := by
 have hf' := hf
 simp only [Am.pv_eq, Am.cs] at hf'
 refine eN [] Tryz.func113 ?_
 (repeat (first | refine aSeq fun X hX => ?_ | refine aBlk ?_ | refine aReg ?_; simp -implicitDefEqProofs only [↓slp, slb, ↓reduceIte, reduceCtorEq, tfNwI] | apply hX; clear hX X | intro hlen; unfold maxLen at hlen))
 obtain ⟨I, hI⟩ : ∃ I : F → M → Prop, ∀ f m', I f m' = (∃ k : Nat, k ≤ l.length ∧ f 0 = .sl o (l.map (Am.pv)) ∧ f 1 = .fn (.func g) [] [c] ∧ f 7 = pI l.length ∧ f 8 = pI k ∧ idxF p l 0 = idxF p (l.drop k) k ∧ m' = m) := ⟨_, fun _ _ => rfl⟩
 refine aLoop I (fun f m => l.length - numOf (f 8)) ?_ ?_
 ·rw [hI]; exact ⟨0, by omega, rfl, rfl, rfl, rfl, rfl, rfl⟩
 intro f m' hrel
 rw [hI] at hrel
 obtain ⟨k, hk, h0, h1, h7, h8, hs, rfl⟩ := hrel
 (repeat (first | refine aSeq fun X hX => ?_ | refine aReg ?_; simp -implicitDefEqProofs only [↓slp, slb, ↓reduceIte, h7, h8, pI] | apply hX; clear hX X))
 refine aIf ?_; simp -implicitDefEqProofs only [slb, ↓reduceIte]; refine ⟨fun hb => ?_, fun hb => ?_⟩
 ·have hlt : k < l.length := by simpa using hb
  have g0 := getD_map (Am.pv) l k hlt
  have hi : IntKind.i64.wrap ((k : Int) + 1) = ((k + 1 : Nat) : Int) := by rw [wrap64 (by omega)]; omega
  have hd := idxF_drop (p := p) hlt
  (repeat (first | refine aSeq fun X hX => ?_ | refine aSkip ?_ | refine aReg ?_; simp -implicitDefEqProofs only [↓slp, slb, ↓reduceIte, reduceCtorEq, jA, jB, jE, tfNwI, h0, h1, h8, pI, g0] | apply hX; clear hX X | apply And.intro; focus omega))
  refine callE (hf' k hlt _) ?_
  simp -implicitDefEqProofs only [slb, h8, pI, pB]
  cases c1 : p l[k] with
  | true =>
   (repeat (apply hX; clear hX X))
   refine aIf ?_; simp -implicitDefEqProofs only [slb, ↓reduceIte, reduceCtorEq]
   (repeat revert X); refine wW aEQ_t ?_; repeat intro X hX
   refine wR Tryz.results113 ?_
   refine leave_same rfl ⟨?_, rfl⟩
   have hv : idxF p l 0 = (k : Int) := by rw [hs, hd]; simp [c1]
   rw [hv]; rfl
  | false =>
   (repeat (apply hX; clear hX X))
   refine aIf ?_; simp -implicitDefEqProofs only [slb, ↓reduceIte]
   (repeat (first | refine aSkip ?_ | refine aReg ?_; simp -implicitDefEqProofs only [↓slp, slb, ↓reduceIte, jA, h8, pI, hi] | apply hX; clear hX X))
   rw [hI]
   refine ⟨⟨k + 1, hlt, h0, h1, h7, rfl, by rw [hs, hd]; simp [c1], rfl⟩, ?_⟩
   first | omega | (simp only [↓slp, slb, ↓reduceIte, reduceCtorEq, jA, jB, jC, jD, jE, jF, jG, jH, jI, jJ, jK, h8, pI]; omega)
 ·have hlt : k = l.length := by simp at hb; omega
  subst hlt
  (repeat revert X); refine wW aEQ_t ?_; repeat intro X hX
  refine wR Tryz.results113 ?_
  refine leave_same rfl ⟨?_, rfl⟩
  have hv : idxF p l 0 = -1 := by rw [hs]; simp [idxF]
  rw [hv]; rfl

set_option maxHeartbeats 1000000 in
theorem conAm_any (o : Own) (l : List Am) (p : Am → Bool) (g : FuncId) (c : PV) (m : M) (hf : ∀ k (hk : k < l.length) (m : M), ACalls Tryz.prog g [Am.pv l[k], c] m (fun v m' => v = pB (p l[k]) ∧ m' = m)) :
    ACalls Tryz.prog 109 [.sl o (l.map Am.pv), .fn (.func g) [] [c]] m (fun v m' => v = pB (decide (idxF p l 0 ≥ 0)) ∧ m' = m) := by
 have hx := fun (o : Own) m => idxAm_any o l p g c m hf
 refine eN [] Tryz.func109 ?_
 (repeat revert X); refine wW aEQ_t ?_; repeat intro X hX
 refine callE (hx _ _) ?_
 refine wS @pI.eq_1 ?_
 (repeat revert X); refine wW aEQ_t ?_; repeat intro X hX
 refine wR Tryz.results109 ?_
 exact leave_same rfl ⟨rfl, rfl⟩
set_option maxHeartbeats 1000000 in
theorem wayC (b : Am) (t : Tr) (m : M) : ACalls Tryz.prog 114 [b.pv, .ep t.cs] m (fun v m' => v = pB (eqS b.name t.to) ∧ m' = m) := by
 refine eN [] Tryz.func114 ?_
 (repeat revert X); refine wW tfNwI ?_; repeat intro X hX
 refine wR Tryz.results114 ?_
 exact leave_same rfl ⟨rfl, rfl⟩
set_option maxHeartbeats 1000000 in
theorem armC (b a : Am) (m : M) : ACalls Tryz.prog 110 [b.pv, .ep a.cs] m (fun v m' => v = pB (eqS b.name a.name) ∧ m' = m) := by
 refine eN [] Tryz.func110 ?_
 (repeat revert X); refine wW tfNwI ?_; repeat intro X hX
 refine wR Tryz.results110 ?_
 exact leave_same rfl ⟨rfl, rfl⟩

def isB (m : M) (bs : List (Option (List PV))) (m2 : M) : Prop := ∃ ts, m2 = (⟨m.boxes, ts⟩ : M).ext bs
theorem isB_all {m : M} {bs : List (Option (List PV))} {Q : M → Prop} : (∀ m2, isB m bs m2 → Q m2) = ∀ ts, Q ((⟨m.boxes, ts⟩ : M).ext bs) :=
 propext ⟨fun h ts => h _ ⟨ts, rfl⟩, fun h m2 ⟨ts, e⟩ => e ▸ h ts⟩
theorem bt_nb {m : M} {ts : List (Option Nat)} : (⟨m.boxes, ts⟩ : M).nb = m.nb := rfl
theorem within2 {n k t : Nat} {xs ys : List PV} {o2 : Own} (h : t < k) (ho : o2 = .no ∨ o2 = .full) : (PV.ag [.sl (.tok t) xs, .sl o2 ys]).within n k = true := by
 rcases ho with rfl | rfl <;> simp [PV.within, PV.withins, h]
theorem leave_tok2 {m m1 : M} {bs : List (Option (List PV))} {v : PV} {R : PV → M → Prop} (h : Toks m m1) (hv : v.within m1.nb m1.nt = true) (hR : R v m1) : ∃ v' m', Leave m (m1.ext bs) v v' m' ∧ R v' m' :=
 ⟨v, m1, .gen v v m1 (.inl rfl) (by rw [h.nb]; exact Nat.le_refl _) h.nt (by simp [M.ext, M.nb]) (by simp [M.ext, M.nt]) (fun id c hc => .inl (by unfold M.get at hc ⊢; rw [← h.boxes]; exact hc)) hv, hR⟩

def tfNwV := tfAbFv

theorem va_lenC (l : List Va) : ∀ x ∈ l.map Va.pv, x.cells.length = 15 := fun x hx => by
 obtain ⟨s, _, rfl⟩ := List.mem_map.1 hx; rfl
def pLV (l : List Va) : PV := .sl .no (l.map Va.pv)
theorem lists_lenV {α : Type} (l : List (List α)) (k : Nat) : (l.take k).flatten.length ≤ l.flatten.length := by
 conv => rhs; rw [← List.take_append_drop k l, List.flatten_append, List.length_append]
 omega
set_option maxHeartbeats 2000000 in
theorem concatV_any (o : Own) (ls : List (List Va)) (m : M) (hb : ls.flatten.length < 2 ^ 32) : ACalls Tryz.prog 47 [.sl o (ls.map pLV)] m (fun v m' => v = .sl .no (ls.flatten.map Va.pv) ∧ m' = m) := by
 obtain ⟨d, hd, hd1, hd2⟩ : ∃ d : TD, tdat Tryz.prog 106 = some d ∧ d.sz = 15 ∧ d.by_ ≤ 400 := ⟨(tdat Tryz.prog 106).get (by kernel_rfl), (Option.some_get _).symm, by kernel_rfl, of_decide_eq_true (by kernel_rfl)⟩
 refine eN [] Tryz.func47 ?_
 (repeat (first | refine aSeq fun X hX => ?_ | refine aBlk ?_ | refine aReg ?_; simp -implicitDefEqProofs only [↓slp, slb, ↓reduceIte, reduceCtorEq, tfNwV] | apply hX; clear hX X | intro hlen; unfold maxLen at hlen))
 obtain ⟨I, hI⟩ : ∃ I : F → M → Prop, ∀ f m', I f m' = (∃ k : Nat, k ≤ ls.length ∧ f 0 = .sl o (ls.map pLV) ∧ f 3 = pI (ls.take k).flatten.length ∧ f 9 = .sl o (ls.map pLV) ∧ f 10 = pI ls.length ∧ f 11 = pI k ∧ m = m') := ⟨_, fun _ _ => rfl⟩
 refine aLoop I (fun f m => ls.length - numOf (f 11)) ?_ ?_
 ·rw [hI]; exact ⟨0, by omega, rfl, rfl, rfl, rfl, rfl, rfl⟩
 intro f m' hrel
 rw [hI] at hrel
 obtain ⟨k, hk, h0, h3, h9, h10, h11, rfl⟩ := hrel
 cases c1 : decide ((k : Int) < (ls.length : Int)) with
 | true =>
  have hlt : k < ls.length := by simpa using c1
  have hg := getD_map pLV ls k hlt
  have hi : IntKind.i64.wrap ((k : Int) + 1) = ((k + 1 : Nat) : Int) := by rw [wrap64 (by omega)]; omega
  have hme : numOf (f 11) = k := by rw [h11]; exact Int.toNat_natCast k
  have hst : (ls.take (k + 1)).flatten.length = (ls.take k).flatten.length + ls[k].length := by rw [List.take_succ_eq_append_getElem hlt, List.flatten_append, List.length_append]; simp
  have hl2 := lists_lenV ls (k + 1)
  have hw : IntKind.i64.wrap (((ls.take k).flatten.length : Int) + (ls[k].length : Int)) = (((ls.take (k + 1)).flatten.length : Nat) : Int) := by rw [wrap64 (by omega), hst]; omega
  have c2 : decide ((((ls.take (k + 1)).flatten.length : Nat) : Int) < 0) = false := by simp
  (repeat revert X); refine wW (And.intro h10 (And.intro h11 (And.intro @pI.eq_1 c1))) ?_; repeat intro X hX
  refine aIf ?_; simp -implicitDefEqProofs only [slb, ↓reduceIte, reduceCtorEq]
  (repeat (first | refine aSeq fun X hX => ?_ | refine aSkip ?_ | refine aReg ?_; simp -implicitDefEqProofs only [↓slp, slb, ↓reduceIte, jA, jB, tfNwV, h3, h9, h11, pI, hg, pLV, hw, c2] | apply hX; clear hX X | intro hlen; unfold maxLen at hlen | apply And.intro; focus omega))
  refine aIf ?_; simp -implicitDefEqProofs only [slb, ↓reduceIte]
  (repeat (first | refine aSkip ?_ | refine aReg ?_; simp -implicitDefEqProofs only [↓slp, slb, ↓reduceIte, jA, h11, pI, hi] | apply hX; clear hX X))
  rw [hI]
  exact ⟨⟨k + 1, hlt, h0, rfl, h9, h10, rfl, rfl⟩, by omega⟩
 | false =>
 obtain rfl : k = ls.length := by simp at c1; omega
 rw [List.take_length] at h3
 have hgr := grow_81 ls.flatten.length m d hd (by omega) (by omega) (by have := Nat.mul_le_mul (Nat.le_of_lt hb) hd2; omega)
 rw [hd1] at hgr
 (repeat revert X); refine wW (And.intro h10 (And.intro h11 (And.intro @pI.eq_1 c1))) ?_; repeat intro X hX
 refine aIf ?_; simp -implicitDefEqProofs only [slb, ↓reduceIte]
 (repeat revert X); refine wW (And.intro tfNwV (And.intro h3 @pI.eq_1)) ?_; repeat intro X hX
 refine callM hgr ?_
 rintro v m' ⟨rfl, rfl⟩
 refine wS aEQ_t ?_
 (repeat (first | refine aSeq fun X hX => ?_ | refine aBlk ?_ | refine aReg ?_; simp -implicitDefEqProofs only [↓slp, slb, ↓reduceIte, reduceCtorEq, tfNwV, h0] | apply hX; clear hX X | intro hlen; unfold maxLen at hlen))
 clear I hI h3 h9 h10 h11
 obtain ⟨I, hI⟩ : ∃ I : F → M → Prop, ∀ f m', I f m' = (∃ (k : Nat) (o2 : Own), k ≤ ls.length ∧ f 6 = .sl o2 ((ls.take k).flatten.map Va.pv) ∧ f 25 = .sl o (ls.map pLV) ∧ f 26 = pI ls.length ∧ f 27 = pI k ∧ Toks m m' ∧ Mine m m' o2 15) := ⟨_, fun _ _ => rfl⟩
 refine aLoop I (fun f m => ls.length - numOf (f 27)) ?_ ?_
 ·rw [hI]; exact ⟨0, .tok m.nt, by omega, rfl, rfl, rfl, rfl, (Toks.refl m).use (o := .full) (s := 15) (s' := 15) Mine.full, Mine.new (o := .full) (Toks.refl m) 15⟩
 intro f m' hrel
 rw [hI] at hrel
 obtain ⟨k, o2, hk, h6, h25, h26, h27, ht, hm⟩ := hrel
 cases c1 : decide ((k : Int) < (ls.length : Int)) with
 | true =>
  have hlt : k < ls.length := by simpa using c1
  have hg := getD_map pLV ls k hlt
  have hi : IntKind.i64.wrap ((k : Int) + 1) = ((k + 1 : Nat) : Int) := by rw [wrap64 (by omega)]; omega
  have hme : numOf (f 27) = k := by rw [h27]; exact Int.toNat_natCast k
  have hst : (ls.take (k + 1)).flatten = (ls.take k).flatten ++ ls[k] := by rw [List.take_succ_eq_append_getElem hlt, List.flatten_append]; simp
  have hl2 := lists_lenV ls (k + 1)
  have hl3 : (ls.take (k + 1)).flatten.length = (ls.take k).flatten.length + ls[k].length := by rw [hst, List.length_append]
  have hfree := hm.free
  have q1 : (ls.take k).flatten.length + ls[k].length ≤ maxLen := by unfold maxLen; omega
  have q3 := va_lenC (ls.take k).flatten
  have q4 := va_lenC ls[k]
  (repeat revert X); refine wW (And.intro h26 (And.intro h27 (And.intro @pI.eq_1 c1))) ?_; repeat intro X hX
  refine aIf ?_; simp -implicitDefEqProofs only [slb, ↓reduceIte, reduceCtorEq]
  (repeat (first | refine aSeq fun X hX => ?_ | refine aSkip ?_ | refine aReg ?_; simp -implicitDefEqProofs only [↓slp, slb, ↓reduceIte, jA, jB, tfNwV, h6, h25, h27, pI, hg, pLV, hi] | apply hX; clear hX X | apply And.intro; focus (first | omega | (repeat' apply And.intro) <;> first | omega | assumption)))
  rw [hI]
  exact ⟨⟨k + 1, .tok m'.nt, hlt, by rw [hst, List.map_append]; rfl, h25, h26, rfl, ht.use hm, Mine.new ht o2 15⟩, by omega⟩
 | false =>
  obtain rfl : k = ls.length := by simp at c1; omega
  rw [List.take_length] at h6
  (repeat revert X); refine wW (And.intro h26 (And.intro h27 (And.intro @pI.eq_1 c1))) ?_; repeat intro X hX
  refine aIf ?_; simp -implicitDefEqProofs only [slb, ↓reduceIte]
  (repeat revert X); refine wW h6 ?_; repeat intro X hX
  refine wR Tryz.results47 ?_
  exact leave_toks0 ht rfl ⟨rfl, rfl⟩

def tfNwB := And.intro @tfA (And.intro @Ex.settle_pv (And.intro @Ex.pure_pv (And.intro @Ex.cells_pv (And.intro @Ex.cs.eq_1 (And.intro @On.pv.eq_1 (And.intro @Ty.pv.eq_1 (And.intro @Va.settle_pv (And.intro @Va.pure_pv (And.intro @Va.cells_pv (And.intro @Va.cs.eq_1 (And.intro @En.settle_pv (And.intro @En.pure_pv (And.intro @En.cells_pv (And.intro @En.cs.eq_1 (And.intro @Qu.settle_pv (And.intro @Qu.pure_pv (And.intro @Qu.cells_pv (And.intro @Qu.cs.eq_1 (And.intro @Am.settle_pv (And.intro @Am.pure_pv (And.intro @Am.cells_pv (And.intro @Am.cs.eq_1 (And.intro @Tr.settle_pv (And.intro @Tr.pure_pv (And.intro @Tr.cells_pv (And.intro @Tr.cs.eq_1 (And.intro @No.settle_pv (And.intro @No.pure_pv (And.intro @No.cells_pv (And.intro @No.cs.eq_1 @No.pv.eq_1))))))))))))))))))))))))))))))

set_option maxHeartbeats 8000000 in
theorem nvar_any (ns : List No) (E : List En) {V : List Va} {O : List Str} (v : Va) (o1 o2 : Own) (ho2 : o2 = .no ∨ o2 = .full) (hlen : V.length < 2 ^ 31) (m : M) :
    ACallsZ Tryz.prog 48 [lkE E ns, .ag [.sl o1 (V.map Va.pv), .sl o2 (O.map pS)], v.pv] m (fun x m' => ∃ t, x = .ag [.sl (.tok t) ((V ++ [v]).map Va.pv), .sl o2 (O.map pS)] ∧ Toks m m' ∧ t < m'.nt) (ZN m) := by
 have hx := nex_any ns E V O v.first
 have hfv := fun (m : M) => findVar_any o1 V v.name m
 have hfe := fun (m : M) => findEn_any .no E v.t.name m
 have hf4 := fun m => nfail_any 4 v.line v.col rfl m
 have hf5 := fun m => nfail_any 5 v.line v.col rfl m
 obtain ⟨d, hd, hd1, hd2⟩ : ∃ d : TD, tdat Tryz.prog 106 = some d ∧ d.sz = 15 ∧ d.by_ ≤ 400 := ⟨(tdat Tryz.prog 106).get (by kernel_rfl), (Option.some_get _).symm, by kernel_rfl, of_decide_eq_true (by kernel_rfl)⟩
 have hcl := fun m => clone_83 o1 (V.map Va.pv) m d hd (by rw [hd1]; exact va_lenC V) (by simp; unfold maxLen; omega) (by simp; have := Nat.mul_le_mul (Nat.le_of_lt hlen) hd2; omega)
 rw [hd1] at hcl
 unfold WX at hx
 unfold lkE scN at *
 have hmx : V.length + 1 ≤ maxLen := by unfold maxLen; omega
 have hvl := va_lenC V
 have t1 : Toks m (m.fresh 15) := (Toks.refl m).use (o := .full) (s := 15) (s' := 15) .full
 have m1 : Mine m (m.fresh 15) (.tok m.nt) 15 := Mine.new (o := .full) (Toks.refl m) 15
 have hal := m1.free
 have t2 := t1.use (s := 15) m1
 have hlt : (m.fresh 15).nt < (((Own.tok m.nt).use (m.fresh 15)).fresh 15).nt := by simp [M.fresh, M.nt, Own.use, M.kill]
 cases b1 : decide (findVar V v.name ≥ 0) with
 | true =>
  refine eZ [4, 6] Tryz.func48 ?_
  (repeat revert X); refine wE tfNwB ?_; repeat intro X hX
  refine callE (hfv _) ?_
  refine wS (And.intro tfNwB @pI.eq_1) ?_
  (repeat revert X); refine wD (And.intro tfNwB b1) ?_; repeat intro X hX
  refine callP (hf4 _) ?_ (fun v m' h => h.elim)
  rintro v m' ⟨⟨k, l, c, rfl⟩, rfl⟩
  exact leave_ext rfl ⟨⟨k, l, c, rfl⟩, rfl⟩
 | false =>
 cases b2 : (v.t.kind == 3 && decide (findEn E v.t.name < 0)) with
 | true =>
  obtain ⟨dt, b3⟩ : (v.t.kind == 3) = true ∧ decide (findEn E v.t.name < 0) = true := by simpa using b2
  refine eZ [4, 6] Tryz.func48 ?_
  (repeat revert X); refine wE tfNwB ?_; repeat intro X hX
  refine callE (hfv _) ?_
  refine wS (And.intro tfNwB @pI.eq_1) ?_
  (repeat revert X); refine wD (And.intro tfNwB (And.intro b1 dt)) ?_; repeat intro X hX
  refine callE (hfe _) ?_
  refine wS (And.intro tfNwB (And.intro @pI.eq_1 (And.intro b3 dt))) ?_
  (repeat (first | (first | apply aReg | apply aIf); simp -implicitDefEqProofs only [forall_eq, ↓slp, slb, ↓reduceIte, reduceCtorEq, jA, jB, jC, jD, jE, jF, jG, jH, jI, jJ, jK, tfNwB, b3] | apply hX; clear hX X))
  refine callP (hf5 _) ?_ (fun v m' h => h.elim)
  rintro v m' ⟨⟨k, l, c, rfl⟩, rfl⟩
  exact leave_ext rfl ⟨⟨k, l, c, rfl⟩, rfl⟩
 | false =>
  cases dt : (v.t.kind == 3) <;> cases b3 : decide (findEn E v.t.name < 0) <;> cases hl : v.last
  all_goals
   first
    | (rw [dt, b3] at b2; cases b2; done)
    | (refine ACallsZ.enter (mu := [4, 6]) ok_mix Tryz.func48 rfl (by kernel_rfl) (by kernel_rfl) (by simp only [List.length_cons, List.length_nil, Tryz.ntmps48]; omega) ?_
       (repeat revert X); refine wE tfNwB ?_; repeat intro X hX
       refine callE (hfv _) ?_
       refine wS (And.intro tfNwB @pI.eq_1) ?_
       (repeat revert X); refine wE (And.intro tfNwB b1) ?_; repeat intro X hX
       first
        | (repeat (first | refine aSeq fun X hX => ?_ | refine aSkip ?_ | (first | apply aReg | refine aDrE ?_ | apply aIf); simp -implicitDefEqProofs only [forall_eq, ↓slp, slb, ↓reduceIte, reduceCtorEq, jA, jB, jC, jD, jE, jF, jG, jH, jI, jJ, jK, tfNwB, dt, hl]; try simp only [fo] | apply hX; clear hX X))
          refine callE (hfe _) ?_
          refine wS (And.intro tfNwB (And.intro @pI.eq_1 (And.intro b3 (And.intro dt hl)))) ?_
        | refine aDrw (fun _ => True) (by kernel_rfl) trivial ?_; simp -implicitDefEqProofs only [forall_eq, eq_self, ↓slp, slb, ↓reduceIte, reduceCtorEq, jA, jB, jC, jD, jE, jF, jG, jH, jI, jJ, jK, tfNwB, dt]
       (repeat revert X); refine wE (And.intro tfNwB (And.intro dt hl)) ?_; repeat intro X hX
       try (
        refine callPS (hx _) (by simp only [List.map_cons, List.map_nil, PV.settle, PV.settles, Ex.settle_pv]) (by
         rintro v m' ⟨⟨k, l, c, rfl⟩, rfl⟩
         exact leave_ext rfl ⟨⟨k, l, c, rfl⟩, rfl⟩) ?_
        rintro vv mv ⟨rfl, rfl⟩
        (repeat (first | refine aSeq fun X hX => ?_ | apply hX; clear hX X)))
       refine aDrwE (isB m [some [PV.sl o1 (V.map Va.pv), PV.sl o2 (O.map pS)], some [PV.sl .full [], PV.sl .full []]]) (hne := List.cons_ne_nil _ _) rfl (by kernel_rfl) (by kernel_rfl) ⟨m.toks, rfl⟩ ?_
       simp -implicitDefEqProofs only [↓slp, slb, ↓reduceIte, reduceCtorEq, jA, jB, jC, jD, jE, jF, jG, jH, jI, jJ, jK, tfNwB, hl, isB_all, bt_nb, forall_const, List.dropLast_cons_cons, List.dropLast_singleton, List.getLast_cons_cons, List.getLast_singleton, List.set_cons_succ, List.set_cons_zero, List.getElem?_cons_succ, List.getElem?_cons_zero]
       refine callM (hcl _) ?_
       rintro w mw ⟨rfl, rfl⟩
       refine ⟨⟨m.toks ++ [some 15], rfl⟩, ?_⟩
       simp -implicitDefEqProofs only [↓slp, slb, ↓reduceIte, reduceCtorEq, jA, jB, jC, jD, jE, jF, jG, jH, jI, jJ, jK, tfNwB, hl, isB_all, bt_nb, forall_const, List.dropLast_cons_cons, List.dropLast_singleton, List.getLast_cons_cons, List.getLast_singleton, List.set_cons_succ, List.set_cons_zero, List.getElem?_cons_succ, List.getElem?_cons_zero]; try simp only [fo]
       refine ⟨⟨hal, hvl, hmx, by omega⟩, ⟨_, rfl⟩, ?_⟩
       (repeat (first | refine aSeq fun X hX => ?_ | refine aRet ?_ | refine aReg ?_; simp -implicitDefEqProofs only [forall_eq, ↓slp, slb, ↓reduceIte, reduceCtorEq, jA, jB, jC, jD, jE, jF, jG, jH, jI, jJ, jK, tfNwB, hl, List.set_cons_succ, List.set_cons_zero] | apply hX; clear hX X))
       refine wR Tryz.results48 ?_
       simp -implicitDefEqProofs only [↓slp, slb, ↓reduceIte, reduceCtorEq, jA, jB, jC, jD, jE, jF, jG, jH, jI, jJ, jK, tfNwB, List.set_cons_succ, List.set_cons_zero]
       refine leave_tok2 t2 (within2 hlt ho2) ⟨_, ?_, t2, hlt⟩
       simp only [List.map_append, List.map_cons, List.map_nil, Va.pv, Va.cs, hl])

def tfNwC := tfNwB

set_option maxHeartbeats 4000000 in
theorem nways_any (ns : List No) (E : List En) (V : List Va) (O : List Str) (q : Qu) (l : List Tr) (m : M) : ACallsZ Tryz.prog 111 [lkE E ns, scN V O, q.pv, .sl .no (l.map Tr.pv)] m (unitP m) (ZN m) := by
 have hx := fun (k : Nat) (h : k < l.length) => nex_any ns E V O l[k].e
 have hc := fun (k : Nat) (h : k < l.length) (m : M) => conAm_any .no q.arms (fun b => eqS b.name l[k].to) 114 (.ep l[k].cs) m (fun j hj m => wayC q.arms[j] l[k] m)
 have hfl := fun (k : Nat) (h : k < l.length) m => nfail_any 5 l[k].line l[k].col rfl m
 unfold WX at hx
 simp only [Tr.cs] at hc
 unfold lkE scN at *
 refine eZ [] Tryz.func111 ?_
 (repeat (first | refine aSeq fun X hX => ?_ | refine aBlk ?_ | refine aReg ?_; simp -implicitDefEqProofs only [↓slp, slb, ↓reduceIte, jA, tfNwC] | apply hX; clear hX X | intro hlen; unfold maxLen at hlen))
 obtain ⟨I, hI⟩ : ∃ I : F → M → Prop, ∀ f m', I f m' = (∃ k : Nat, k ≤ l.length ∧ f 0 = .ep [.sl .no (E.map En.pv), .sl .no (ns.map No.pv)] ∧ f 5 = .ep [.sl .no (V.map Va.pv), .sl .no (O.map pS)] ∧ f 6 = .ep q.cs ∧ f 10 = .sl .no (l.map Tr.pv) ∧ f 11 = pI l.length ∧ f 12 = pI k ∧ m = m') := ⟨_, fun _ _ => rfl⟩
 refine aLoop I (fun f m => l.length - numOf (f 12)) ?_ ?_
 ·rw [hI]; exact ⟨0, by omega, rfl, rfl, rfl, rfl, rfl, rfl, rfl⟩
 intro f m' hrel
 rw [hI] at hrel
 obtain ⟨k, hk, f0, f5, f6, f10, f11, f12, rfl⟩ := hrel
 cases c1 : decide ((k : Int) < (l.length : Int)) with
 | true =>
  have hlt : k < l.length := by simpa using c1
  have g0 := getD_map Tr.pv l k hlt
  have hi : IntKind.i64.wrap ((k : Int) + 1) = ((k + 1 : Nat) : Int) := by rw [wrap64 (by omega)]; omega
  have hme : numOf (f 12) = k := by rw [f12]; exact Int.toNat_natCast k
  have hx1 := hx k hlt
  have hc1 := hc k hlt
  have hf1 := hfl k hlt
  generalize l[k] = t at *
  (repeat (first | refine aSeq fun X hX => ?_ | refine aSkip ?_ | (first | apply aReg | apply aIf); simp -implicitDefEqProofs only [↓slp, slb, ↓reduceIte, reduceCtorEq, jA, jB, jE, jF, tfNwC, f0, f5, f10, f11, f12, pI, c1, g0]; try simp only [fo] | apply hX; clear hX X | apply And.intro; focus omega))
  refine callPS (hx1 _) (by simp only [List.map_cons, List.map_nil, PV.settle, PV.settles, Ex.settle_pv]) zn_leave ?_
  rintro v m' ⟨rfl, rfl⟩
  refine wS (And.intro f12 @pI.eq_1) ?_
  (repeat revert X); refine wE (And.intro tfNwC f6) ?_; repeat intro X hX
  refine callE (hc1 _) ?_
  cases b1 : decide (idxF (fun b : Am => eqS b.name t.to) q.arms 0 ≥ 0) with
  | true =>
   refine wS (And.intro @pB.eq_1 (And.intro f12 @pI.eq_1)) ?_
   (repeat (first | refine aSkip ?_ | (first | apply aReg | apply aIf); simp -implicitDefEqProofs only [↓slp, slb, ↓reduceIte, jA, f12, pI, hi] | apply hX; clear hX X))
   rw [hI]
   exact ⟨⟨k + 1, hlt, f0, f5, f6, f10, f11, rfl, rfl⟩, by omega⟩
  | false =>
   refine wS (And.intro @pB.eq_1 (And.intro f12 @pI.eq_1)) ?_
   (repeat revert X); refine wD (And.intro tfNwC (And.intro f12 @pI.eq_1)) ?_; repeat intro X hX
   exact callP (hf1 _) zn_leave (fun v m' h => h.elim)
 | false =>
  (repeat revert X); refine wE (And.intro f11 (And.intro f12 (And.intro @pI.eq_1 c1))) ?_; repeat intro X hX
  refine wR Tryz.results111 ?_
  exact leave_same rfl ⟨rfl, rfl⟩

def tfNmO := tfNwI

set_option maxRecDepth 20000 in
set_option maxHeartbeats 1000000 in
theorem idxNo_any (o : Own) (l : List No) (p : No → Bool) (g : FuncId) (c : PV) (m : M) (hf : ∀ k (hk : k < l.length) (m : M), ACalls Tryz.prog g [No.pv l[k], c] m (fun v m' => v = pB (p l[k]) ∧ m' = m)) :
    ACalls Tryz.prog 44 [.sl o (l.map (No.pv)), .fn (.func g) [] [c]] m (fun v m' => v = pI (idxF p l 0) ∧ m' = m) := by
 refine eN [] Tryz.func44 ?_
 (repeat (first | refine aSeq fun X hX => ?_ | refine aBlk ?_ | refine aReg ?_; simp -implicitDefEqProofs only [↓slp, slb, ↓reduceIte, reduceCtorEq, tfNmO] | apply hX; clear hX X | intro hlen; unfold maxLen at hlen))
 obtain ⟨I, hI⟩ : ∃ I : F → M → Prop, ∀ f m', I f m' = (∃ k : Nat, k ≤ l.length ∧ f 0 = .sl o (l.map (No.pv)) ∧ f 1 = .fn (.func g) [] [c] ∧ f 7 = pI l.length ∧ f 8 = pI k ∧ idxF p l 0 = idxF p (l.drop k) k ∧ m' = m) := ⟨_, fun _ _ => rfl⟩
 refine aLoop I (fun f m => l.length - numOf (f 8)) ?_ ?_
 ·rw [hI]; exact ⟨0, by omega, rfl, rfl, rfl, rfl, rfl, rfl⟩
 intro f m' hrel
 rw [hI] at hrel
 obtain ⟨k, hk, h0, h1, h7, h8, hs, rfl⟩ := hrel
 (repeat (first | refine aSeq fun X hX => ?_ | refine aReg ?_; simp -implicitDefEqProofs only [↓slp, slb, ↓reduceIte, h7, h8, pI] | apply hX; clear hX X))
 refine aIf ?_; simp -implicitDefEqProofs only [slb, ↓reduceIte]; refine ⟨fun hb => ?_, fun hb => ?_⟩
 ·have hlt : k < l.length := by simpa using hb
  have g0 := getD_map (No.pv) l k hlt
  have hi : IntKind.i64.wrap ((k : Int) + 1) = ((k + 1 : Nat) : Int) := by rw [wrap64 (by omega)]; omega
  have hd := idxF_drop (p := p) hlt
  (repeat (first | refine aSeq fun X hX => ?_ | refine aSkip ?_ | refine aReg ?_; simp -implicitDefEqProofs only [↓slp, slb, ↓reduceIte, reduceCtorEq, jA, jB, jE, tfNmO, h0, h1, h8, pI, g0] | apply hX; clear hX X | apply And.intro; focus omega))
  refine callE (hf k hlt _) ?_
  simp -implicitDefEqProofs only [slb, h8, pI, pB]
  cases c1 : p l[k] with
  | true =>
   (repeat (apply hX; clear hX X))
   refine aIf ?_; simp -implicitDefEqProofs only [slb, ↓reduceIte, reduceCtorEq]
   (repeat revert X); refine wW aEQ_t ?_; repeat intro X hX
   refine wR Tryz.results44 ?_
   refine leave_same rfl ⟨?_, rfl⟩
   have hv : idxF p l 0 = (k : Int) := by rw [hs, hd]; simp [c1]
   rw [hv]; rfl
  | false =>
   (repeat (apply hX; clear hX X))
   refine aIf ?_; simp -implicitDefEqProofs only [slb, ↓reduceIte]
   (repeat (first | refine aSkip ?_ | refine aReg ?_; simp -implicitDefEqProofs only [↓slp, slb, ↓reduceIte, jA, h8, pI, hi] | apply hX; clear hX X))
   rw [hI]
   refine ⟨⟨k + 1, hlt, h0, h1, h7, rfl, by rw [hs, hd]; simp [c1], rfl⟩, ?_⟩
   first | omega | (simp only [↓slp, slb, ↓reduceIte, reduceCtorEq, jA, jB, jC, jD, jE, jF, jG, jH, jI, jJ, jK, h8, pI]; omega)
 ·have hlt : k = l.length := by simp at hb; omega
  subst hlt
  (repeat revert X); refine wW aEQ_t ?_; repeat intro X hX
  refine wR Tryz.results44 ?_
  refine leave_same rfl ⟨?_, rfl⟩
  have hv : idxF p l 0 = -1 := by rw [hs]; simp [idxF]
  rw [hv]; rfl

set_option maxHeartbeats 1000000 in
theorem findNodeC (n : No) (s : Str) (m : M) : ACalls Tryz.prog 45 [n.pv, .ep [pS s]] m (fun v m' => v = pB (eqS n.name s) ∧ m' = m) := by
 refine eN [] Tryz.func45 ?_
 (repeat revert X); refine wW (And.intro tfNmO @pS.eq_1) ?_; repeat intro X hX
 refine wR Tryz.results45 ?_
 exact leave_same rfl ⟨rfl, rfl⟩
theorem findNode_any (o : Own) (es : List PV) (ns : List No) (s : Str) (m : M) : ACalls Tryz.prog 22 [.ag [.sl .no es, .sl .no (ns.map No.pv)], pS s] m (fun v m' => v = pI (idxF (fun n : No => eqS n.name s) ns 0) ∧ m' = m) := by
 have hx := fun (o : Own) m => idxNo_any o ns (fun n : No => eqS n.name s) 45 (.ep [pS s]) m (fun j hj m => findNodeC ns[j] _ m)
 refine eN [] Tryz.func22 ?_
 (repeat revert X); refine wW (And.intro tfNmO @pS.eq_1) ?_; repeat intro X hX
 refine callE (hx _ _) ?_
 refine wS @pI.eq_1 ?_
 (repeat revert X); refine wW aEQ_t ?_; repeat intro X hX
 refine wR Tryz.results22 ?_
 exact leave_same rfl ⟨rfl, rfl⟩
end Go.Proofs.YthhhnfjcaicjnaaGreatDoor
