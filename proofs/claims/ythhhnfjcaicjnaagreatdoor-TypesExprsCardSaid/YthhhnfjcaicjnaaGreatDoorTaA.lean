/-
 Texts that belong together: TeA, TeB, TeM.
-/
-- halved
import Derived.Test.YthhhnfjcaicjnaaGreatDoorAbMac
import Derived.Test.YthhhnfjcaicjnaaGreatDoorTeD
import Derived.Test.YthhhnfjcaicjnaaGreatDoorTrS
import Derived.Test.YthhhnfjcaicjnaaGreatDoorQA
set_option linter.unusedVariables false
set_option linter.unusedSimpArgs false
namespace Go.Proofs.YthhhnfjcaicjnaaGreatDoor
open Nat renaming reduceEqDiff → jA, reduceAdd → jB, reduceMul → jC, reduceLT → jD, reduceLeDiff → jE, reduceBEq → jF, reduceBNe → jG
open Int renaming reduceLE → jH, reduceLT → jI, reduceToNat → jJ, reduceEq → jK
open Go
set_option maxRecDepth 20000
set_option linter.defProp false
def tfTeA := And.intro @tfA (And.intro @Ex.settle_pv (And.intro @Ex.pure_pv (And.intro @Ex.cells_pv (And.intro @Ex.cs.eq_1 (And.intro @On.pv.eq_1 (And.intro @Ty.pv.eq_1 (And.intro @Va.settle_pv (And.intro @Va.pure_pv (And.intro @Va.cells_pv (And.intro @Va.cs.eq_1 (And.intro @En.settle_pv (And.intro @En.pure_pv (And.intro @En.cells_pv @En.cs.eq_1)))))))))))))

set_option maxHeartbeats 1000000 in
theorem idxEn_any (o : Own) (l : List En) (p : En → Bool) (g : FuncId) (c : PV) (m : M) (hf : ∀ k (hk : k < l.length) (m : M), ACalls Tryz.prog g [En.pv l[k], c] m (fun v m' => v = pB (p l[k]) ∧ m' = m)) :
    ACalls Tryz.prog 79 [.sl o (l.map En.pv), .fn (.func g) [] [c]] m (fun v m' => v = pI (idxF p l 0) ∧ m' = m) := by
 refine eN [] Tryz.func79 ?_
 (repeat (first | refine aSeq fun X hX => ?_ | refine aBlk ?_ | refine aReg ?_; simp -implicitDefEqProofs only [↓slp, slb, ↓reduceIte, reduceCtorEq, tfTeA] | apply hX; clear hX X | intro hlen; unfold maxLen at hlen))
 obtain ⟨I, hI⟩ : ∃ I : F → M → Prop, ∀ f m', I f m' = (∃ k : Nat, k ≤ l.length ∧ f 0 = .sl o (l.map En.pv) ∧ f 1 = .fn (.func g) [] [c] ∧ f 7 = pI l.length ∧ f 8 = pI k ∧ idxF p l 0 = idxF p (l.drop k) k ∧ m' = m) := ⟨_, fun _ _ => rfl⟩
 refine aLoop I (fun f m => l.length - numOf (f 8)) ?_ ?_
 ·rw [hI]; exact ⟨0, by omega, rfl, rfl, rfl, rfl, rfl, rfl⟩
 intro f m' hrel
 rw [hI] at hrel
 obtain ⟨k, hk, h0, h1, h7, h8, hs, rfl⟩ := hrel
 cases c1 : decide ((k : Int) < (l.length : Int)) with
 | true =>
  have hlt : k < l.length := by simpa using c1
  have g0 := getD_map En.pv l k hlt
  have hi : IntKind.i64.wrap ((k : Int) + 1) = ((k + 1 : Nat) : Int) := by rw [wrap64 (by omega)]; omega
  have hme : numOf (f 8) = k := by rw [h8]; exact Int.toNat_natCast k
  have hd := idxF_drop (p := p) hlt
  (repeat (first | refine aSeq fun X hX => ?_ | refine aSkip ?_ | (first | apply aReg | apply aIf); simp -implicitDefEqProofs only [↓slp, slb, ↓reduceIte, reduceCtorEq, jA, jB, jE, tfTeA, h0, h1, h7, h8, pI, c1, g0] | apply hX; clear hX X | apply And.intro; focus omega))
  refine callE (hf k hlt _) ?_
  cases c2 : p l[k] with
  | true =>
   simp -implicitDefEqProofs only [slb, pB, h8, pI]
   (repeat revert X); refine wE (And.intro h8 @pI.eq_1) ?_; repeat intro X hX
   refine wR Tryz.results79 ?_
   exact leave_same rfl ⟨by rw [hs, hd, c2]; rfl, rfl⟩
  | false =>
   refine wS @pB.eq_1 ?_
   (repeat (first | refine aSkip ?_ | (first | apply aReg | apply aIf); simp -implicitDefEqProofs only [↓slp, slb, ↓reduceIte, jA, h8, pI, hi] | apply hX; clear hX X))
   rw [hI]
   exact ⟨⟨k + 1, hlt, h0, h1, h7, rfl, by rw [hs, hd, c2]; rfl, rfl⟩, by omega⟩
 | false =>
  have hkk : k = l.length := by simp at c1; omega
  subst hkk
  (repeat revert X); refine wE (And.intro h7 (And.intro h8 (And.intro @pI.eq_1 c1))) ?_; repeat intro X hX
  refine wR Tryz.results79 ?_
  exact leave_same rfl ⟨by rw [hs, List.drop_length]; rfl, rfl⟩
theorem findEnC_any (e : En) (s : Str) (m : M) : ACalls Tryz.prog 80 [e.pv, .ep [pS s]] m (fun v m' => v = pB (eqS e.name s) ∧ m' = m) := by
 refine eN [] Tryz.func80 ?_
 (repeat revert X); refine wW (And.intro tfTeA @pS.eq_1) ?_; repeat intro X hX
 refine wR Tryz.results80 ?_
 exact leave_same rfl ⟨rfl, rfl⟩
theorem findEn_any (o : Own) (l : List En) (s : Str) (m : M) : ACalls Tryz.prog 43 [.sl o (l.map En.pv), pS s] m (fun v m' => v = pI (findEn l s) ∧ m' = m) := by
 refine eN [] Tryz.func43 ?_
 (repeat revert X); refine wW @pS.eq_1 ?_; repeat intro X hX
 refine callE (idxEn_any o l (fun e => eqS e.name s) _ _ _ (fun k hk m => findEnC_any _ s m)) ?_
 refine wS @pI.eq_1 ?_
 (repeat revert X); refine wW aEQ_t ?_; repeat intro X hX
 refine wR Tryz.results43 ?_
 exact leave_same rfl ⟨rfl, rfl⟩
theorem ctorEnC_any (e : En) (s : Str) (m : M) : ACalls Tryz.prog 90 [e.pv, .ep [pS s]] m (fun v m' => v = pB (hasS e.ctors s) ∧ m' = m) := by
 refine eN [] Tryz.func90 ?_
 (repeat revert X); refine wW (And.intro tfTeA @pS.eq_1) ?_; repeat intro X hX
 refine callE (contains_any _ _ _ _) ?_
 refine wS @pB.eq_1 ?_
 (repeat revert X); refine wW aEQ_t ?_; repeat intro X hX
 refine wR Tryz.results90 ?_
 exact leave_same rfl ⟨rfl, rfl⟩
theorem ctorEn_any (o : Own) (l : List En) (s : Str) (m : M) : ACalls Tryz.prog 54 [.sl o (l.map En.pv), pS s] m (fun v m' => v = pI (ctorEn l s) ∧ m' = m) := by
 refine eN [] Tryz.func54 ?_
 (repeat revert X); refine wW @pS.eq_1 ?_; repeat intro X hX
 refine callE (idxEn_any o l (fun e => hasS e.ctors s) _ _ _ (fun k hk m => ctorEnC_any _ s m)) ?_
 refine wS @pI.eq_1 ?_
 (repeat revert X); refine wW aEQ_t ?_; repeat intro X hX
 refine wR Tryz.results54 ?_
 exact leave_same rfl ⟨rfl, rfl⟩
theorem ctors_any (E : List En) (t : Ty) (m : M) : ACalls Tryz.prog 57 [.sl .no (E.map En.pv), t.pv] m (fun v m' => v = .sl .no ((ctorsF E t).map pS) ∧ m' = m) := by
 simp only [Ty.pv]
 refine eN [] Tryz.func57 ?_
 unfold ctorsF
 cases c1 : (t.kind == 1) with
 | true =>
  (repeat revert X); refine wD (And.intro tfTeA c1) ?_; repeat intro X hX
  refine wR Tryz.results57 ?_
  exact leave_same rfl ⟨rfl, rfl⟩
 | false =>
 cases c3 : (t.kind == 3) with
 | false =>
  (repeat revert X); refine wD (And.intro tfTeA (And.intro c1 c3)) ?_; repeat intro X hX
  refine wR Tryz.results57 ?_
  exact leave_same rfl ⟨rfl, rfl⟩
 | true =>
  (repeat revert X); refine wD (And.intro tfTeA (And.intro c1 c3)) ?_; repeat intro X hX
  refine callE (findEn_any _ _ _ _) ?_
  cases c0 : decide (findEn E t.name ≥ 0) with
  | false =>
   refine wS @pI.eq_1 ?_
   (repeat revert X); refine wD (And.intro tfTeA c0) ?_; repeat intro X hX
   refine wQ Tryz.results57 aEQ_t ?_
   exact leave_same rfl ⟨by rw [if_neg (by rw [c0]; simp)]; rfl, rfl⟩
  | true =>
   have h0 : 0 ≤ findEn E t.name := by simpa using c0
   have h1 : findEn E t.name < (E.length : Int) := idxF_lt E
   have hlt : (findEn E t.name).toNat < E.length := by omega
   have g0 := getD_map En.pv E _ hlt
   have g1 : E.getD (findEn E t.name).toNat enZ = E[(findEn E t.name).toNat] := by rw [List.getD_eq_getElem?_getD, List.getElem?_eq_getElem hlt]; rfl
   refine wS @pI.eq_1 ?_
   (repeat (first | refine aSeq fun X hX => ?_ | refine aRet ?_; try simp only [slx, ↓reduceIte, jA, reduceCtorEq] | (first | apply aReg | apply aIf); simp -implicitDefEqProofs only [↓slp, slb, ↓reduceIte, reduceCtorEq, jA, jB, jE, tfTeA, c0, g0] | apply hX; clear hX X | apply And.intro; focus omega))
   simp only [aPost, Tryz.results57, aRes_n, aRes_t, aRes_c, pack_one, pack_two]
   simp -implicitDefEqProofs only [slb, ↓reduceIte]
   refine leave_same rfl ⟨?_, rfl⟩
   rw [g1]
   rfl
theorem idxSt_any (o : Own) (l : List Ex) (p : Ex → Bool) (g : FuncId) (m : M) (hf : ∀ k (hk : k < l.length) (m : M), ACalls Tryz.prog g [l[k].pv] m (fun v m' => v = pB (p l[k]) ∧ m' = m)) :
    ACalls Tryz.prog 102 [.sl o (l.map Ex.pv), .fn (.func g) [] []] m (fun v m' => v = pI (idxF p l 0) ∧ m' = m) := by
 refine eN [] Tryz.func102 ?_
 (repeat (first | refine aSeq fun X hX => ?_ | refine aBlk ?_ | refine aReg ?_; simp -implicitDefEqProofs only [↓slp, slb, ↓reduceIte, reduceCtorEq, tfTeA] | apply hX; clear hX X | intro hlen; unfold maxLen at hlen))
 obtain ⟨I, hI⟩ : ∃ I : F → M → Prop, ∀ f m', I f m' = (∃ k : Nat, k ≤ l.length ∧ f 0 = .sl o (l.map Ex.pv) ∧ f 1 = .fn (.func g) [] [] ∧ f 7 = pI l.length ∧ f 8 = pI k ∧ idxF p l 0 = idxF p (l.drop k) k ∧ m' = m) := ⟨_, fun _ _ => rfl⟩
 refine aLoop I (fun f m => l.length - numOf (f 8)) ?_ ?_
 ·rw [hI]; exact ⟨0, by omega, rfl, rfl, rfl, rfl, rfl, rfl⟩
 intro f m' hrel
 rw [hI] at hrel
 obtain ⟨k, hk, h0, h1, h7, h8, hs, rfl⟩ := hrel
 cases c1 : decide ((k : Int) < (l.length : Int)) with
 | true =>
  have hlt : k < l.length := by simpa using c1
  have g0 := getD_map Ex.pv l k hlt
  have hi : IntKind.i64.wrap ((k : Int) + 1) = ((k + 1 : Nat) : Int) := by rw [wrap64 (by omega)]; omega
  have hme : numOf (f 8) = k := by rw [h8]; exact Int.toNat_natCast k
  have hd := idxF_drop (p := p) hlt
  (repeat (first | refine aSeq fun X hX => ?_ | refine aSkip ?_ | (first | apply aReg | apply aIf); simp -implicitDefEqProofs only [↓slp, slb, ↓reduceIte, reduceCtorEq, jA, jB, jE, tfTeA, h0, h1, h7, h8, pI, c1, g0]; try simp only [fo] | apply hX; clear hX X | apply And.intro; focus omega))
  refine callE (hf k hlt _) ?_
  cases c2 : p l[k] with
  | true =>
   refine wS (And.intro @pB.eq_1 (And.intro h8 @pI.eq_1)) ?_
   (repeat revert X); refine wE (And.intro tfTeA (And.intro h8 @pI.eq_1)) ?_; repeat intro X hX
   refine wR Tryz.results102 ?_
   exact leave_same rfl ⟨by rw [hs, hd, c2]; rfl, rfl⟩
  | false =>
   refine wS @pB.eq_1 ?_
   (repeat (first | refine aSkip ?_ | (first | apply aReg | apply aIf); simp -implicitDefEqProofs only [↓slp, slb, ↓reduceIte, jA, tfTeA, h8, pI, hi]; try simp only [fo] | apply hX; clear hX X))
   rw [hI]
   exact ⟨⟨k + 1, hlt, h0, h1, h7, rfl, by rw [hs, hd, c2]; rfl, rfl⟩, by omega⟩
 | false =>
  have hkk : k = l.length := by simp at c1; omega
  subst hkk
  (repeat revert X); refine wE (And.intro h7 (And.intro h8 (And.intro @pI.eq_1 c1))) ?_; repeat intro X hX
  refine wR Tryz.results102 ?_
  exact leave_same rfl ⟨by rw [hs, List.drop_length]; rfl, rfl⟩
theorem idx_sts : ∀ (l : List Ex) (n : Nat), decide (idxF (fun e => !stF e) l n ≥ 0) = !stsF l
 | [], n => rfl
 | e :: r, n => by
  rw [idxF, stsF]
  cases h : stF e with
  | false => simp
  | true => simpa using idx_sts r (n + 1)
def StC (e : Ex) : Prop := ∀ m : M, ACalls Tryz.prog 58 [e.pv] m (fun v m' => v = pB (stF e) ∧ m' = m)
theorem stC_clo {e : Ex} (h : StC e) (m : M) : ACalls Tryz.prog 93 [e.pv] m (fun v m' => v = pB (!stF e) ∧ m' = m) := by
 refine eN [] Tryz.func93 ?_
 (repeat revert X); refine wE tfTeA ?_; repeat intro X hX
 refine callE (h _) ?_
 refine wS (And.intro tfTeA @pB.eq_1) ?_
 (repeat revert X); refine wE aEQ_t ?_; repeat intro X hX
 refine wR Tryz.results93 ?_
 exact leave_same rfl ⟨rfl, rfl⟩
theorem conSt_any (o : Own) (l : List Ex) (g : FuncId) (m : M) (hf : ∀ k (hk : k < l.length) (m : M), ACalls Tryz.prog g [l[k].pv] m (fun v m' => v = pB (!stF l[k]) ∧ m' = m)) :
    ACalls Tryz.prog 92 [.sl o (l.map Ex.pv), .fn (.func g) [] []] m (fun v m' => v = pB (!stsF l) ∧ m' = m) := by
 have hi := idx_sts l 0
 refine eN [] Tryz.func92 ?_
 (repeat revert X); refine wW aEQ_t ?_; repeat intro X hX
 refine callE (idxSt_any _ l (fun e => !stF e) g _ hf) ?_
 refine wS @pI.eq_1 ?_
 (repeat revert X); refine wW aEQ_t ?_; repeat intro X hX
 refine wQ Tryz.results92 hi ?_
 exact leave_same rfl ⟨rfl, rfl⟩
set_option maxHeartbeats 1000000 in
theorem st_any (e : Ex) : StC e := by
 refine Ex.ind (motive := StC) (fun e IH => ?_) e
 intro m
 have hst : stF e = (!(e.kind == 9 || e.kind == 10 || e.kind == 11) && stsF e.kids) := by cases e; rw [stF]; rfl
 have hx := fun (o : Own) (m : M) => conSt_any o e.kids 93 m (fun k hk m => stC_clo (IH k hk) m)
 clear IH
 rw [hst]
 refine eN [] Tryz.func58 ?_
 cases c9 : (e.kind == 9) with
 | true =>
  (repeat revert X); refine wD (And.intro tfTeA c9) ?_; repeat intro X hX
  refine wR Tryz.results58 ?_
  exact leave_same rfl ⟨rfl, rfl⟩
 | false =>
 cases c10 : (e.kind == 10) with
 | true =>
  (repeat revert X); refine wD (And.intro tfTeA (And.intro c9 c10)) ?_; repeat intro X hX
  refine wR Tryz.results58 ?_
  exact leave_same rfl ⟨rfl, rfl⟩
 | false =>
 cases c11 : (e.kind == 11) with
 | true =>
  (repeat revert X); refine wD (And.intro tfTeA (And.intro c9 (And.intro c10 c11))) ?_; repeat intro X hX
  refine wR Tryz.results58 ?_
  exact leave_same rfl ⟨rfl, rfl⟩
 | false =>
  (repeat revert X); refine wD (And.intro tfTeA (And.intro c9 (And.intro c10 c11))) ?_; repeat intro X hX
  refine callE (hx _ _) ?_
  refine wS (And.intro tfTeA @pB.eq_1) ?_
  (repeat revert X); refine wD aEQ_t ?_; repeat intro X hX
  refine wQ Tryz.results58 tfTeA ?_
  exact leave_same rfl ⟨by rw [Bool.not_not]; rfl, rfl⟩

def tfTeB := tfTeA

theorem callPS {P : Program} {g : FuncId} {args args' : List PV} {m : M} {R Q K Z : PV → M → Prop} (h : ACallsZ P g args' m R Q) (he : args.map PV.settle = args') (hz : ∀ v m', Q v m' → Z v m') (hk : ∀ v m', R v m' → K v m') : @ACallsI P g args m ⟨K, Z⟩ := by
 subst he
 refine ACallsZ.mono ⟨h.cc, fun G w vs hI hl hr => h.run G w vs hI (by simpa using hl) (fun j h1 h2 => ?_)⟩ hk hz
 simpa using (hr j (by simpa using h1) h2).settle
abbrev pK (k : Int) : PV := .ifc 58 (.v (.int .i64 k))
abbrev pA (l c : Int) (k : Int) : PV := .ifc 98 (.ep [.v (.int .i64 l), .v (.int .i64 c), .v (.string ⟨#[]⟩), .v (.bool false), pK k])
abbrev pP (l c : Int) : PV := .ag [.v (.int .i64 l), .v (.int .i64 c)]
abbrev pStop (l c : Int) : PV := .ifc 132 (.ag [pA l c 7])
set_option maxHeartbeats 1000000 in
theorem new7_any (l c : Int) (m : M) : ACalls Tryz.prog 46 [.v (.int .i64 7), pP l c] m (fun v m' => v = pA l c 7 ∧ m' = m) := by
 have hk : ((7 : Int) == 0) = false := rfl
 refine eN [] Tryz.func46 ?_
 (repeat revert X); refine wW (And.intro tfTeB hk) ?_; repeat intro X hX
 refine aIf ?_; simp -implicitDefEqProofs only [↓slp, slb, ↓reduceIte, reduceCtorEq, jA, jB, jC, jD, jE, jF, jG, jH, jI, jJ, jK, hk]
 (repeat revert X); refine wW (And.intro tfTeB hk) ?_; repeat intro X hX
 refine wR Tryz.results46 ?_
 exact leave_same rfl ⟨rfl, rfl⟩
set_option maxHeartbeats 1000000 in
theorem tfail_any (l c : Int) (m : M) : ACallsZ Tryz.prog 53 [pP l c] m (fun _ _ => False) (fun v m' => v = pStop l c ∧ m' = m) := by
 refine eZ [] Tryz.func53 ?_
 (repeat revert X); refine wW tfTeB ?_; repeat intro X hX
 refine callE (new7_any _ _ _) ?_
 refine wS tfTeB ?_
 (repeat (first | refine aSeq fun X hX => ?_ | apply aBlk | refine aSkip ?_ | (first | refine aExit ?_ | refine aRet ?_); try simp only [slx, ↓reduceIte, jA, reduceCtorEq] | (first | apply aReg | refine aDrE ?_); simp -implicitDefEqProofs only [forall_eq, ↓slp, slb, ↓reduceIte, reduceCtorEq, jA, jB, jC, jD, jE, jF, jG, jH, jI, jJ, jK, tfTeB]; try simp only [fo] | apply hX; clear hX X | clear hX X; apply hX; clear hX X | clear hX X; clear hX X; apply hX; clear hX X | intro hlen; unfold maxLen at hlen | apply And.intro; · first | assumption | and_intros <;> first | omega | assumption))
 have hu := Tryz.underlying132
 simp -implicitDefEqProofs only [↓slp, slb, ↓reduceIte, reduceCtorEq, jA, jB, jC, jD, jE, jF, jG, jH, jI, jJ, jK, tfTeB, hu]
 refine leave_same ?_ ?_
 ·rfl
 ·exact ⟨rfl, rfl⟩
set_option maxHeartbeats 4000000 in
theorem types_any {o : Int} (h1 : 1 ≤ o) (h2 : o ≤ 16) (m : M) : ACalls Tryz.prog 91 [.v (.int .u8 o)] m (fun v m' => v = .tp [.v (.int .u8 (opIn o)), .v (.int .u8 (opOut o))] ∧ m' = m) := by
 have : o = 1 ∨ o = 2 ∨ o = 3 ∨ o = 4 ∨ o = 5 ∨ o = 6 ∨ o = 7 ∨ o = 8 ∨ o = 9 ∨ o = 10 ∨ o = 11 ∨ o = 12 ∨ o = 13 ∨ o = 14 ∨ o = 15 ∨ o = 16 := by omega
 rcases this with rfl | rfl | rfl | rfl | rfl | rfl | rfl | rfl | rfl | rfl | rfl | rfl | rfl | rfl | rfl | rfl <;> (
  refine eN [] Tryz.func91 ?_
  (repeat (first | refine aSeq fun X hX => ?_ | refine aSkip ?_ | refine aRet ?_; try simp only [slx, ↓reduceIte, jA, reduceCtorEq] | (first | apply aReg | apply aIf); simp -implicitDefEqProofs only [forall_eq, ↓slp, slb, ↓reduceIte, reduceCtorEq, jA, jB, jC, jD, jE, jF, jG, jH, jI, jJ, jK, tfTeB, Int.reduceBEq] | apply hX; clear hX X))
  refine wR Tryz.results91 ?_
  exact leave_same rfl ⟨rfl, rfl⟩)
theorem ty_len (l : List Ty) : ∀ x ∈ l.map Ty.pv, x.cells.length = 2 := fun x hx => by
 obtain ⟨s, _, rfl⟩ := List.mem_map.1 hx; rfl
theorem opOk_drop {i : Int} {u : Ty} {ts : List Ty} {k : Nat} (h : k < ts.length) : opOk i u (ts.drop k) = ((i == 0 || ts[k].kind == i) && Ty.eq ts[k] u && opOk i u (ts.drop (k + 1))) := by
 rw [List.drop_eq_getElem_cons h, opOk]
theorem getD_cons0 {α : Type} (l : List α) (h : 0 < l.length) (d : α) : l.getD 0 d = l[0] := by
 rw [List.getD_eq_getElem?_getD, List.getElem?_eq_getElem h]; rfl
set_option maxHeartbeats 4000000 in
theorem toperator_any (e : Ex) (ts : List Ty) (h1 : 1 ≤ e.op) (h2 : e.op ≤ 16) (hlen : ts.length ≤ 1000) (m : M) :
    ACallsZ Tryz.prog 56 [e.pv, .sl .no (ts.map Ty.pv)] m (fun v m' => opOk (opIn e.op) (ts.getD 0 tyZ) ts = true ∧ v = Ty.pv ⟨opOut e.op, ⟨#[]⟩⟩ ∧ m' = m) (fun v m' => opOk (opIn e.op) (ts.getD 0 tyZ) ts = false ∧ v = pStop e.line e.col ∧ m' = m) := by
 have ht := fun m => types_any h1 h2 m
 generalize opIn e.op = i at *
 generalize opOut e.op = o at *
 obtain ⟨R, hR⟩ : ∃ R, opOk i (ts.getD 0 tyZ) ts = R := ⟨_, rfl⟩
 rw [hR]
 refine eZ [4] Tryz.func56 ?_
 (repeat revert X); refine wE tfTeB ?_; repeat intro X hX
 refine callE (ht _) ?_
 refine wS tfTeB ?_
 (repeat revert X); refine wE tfTeB ?_; repeat intro X hX
 obtain ⟨mc, hmc⟩ : ∃ mc, m.ext [some [PV.v (.int .u8 0), PV.v (.string ⟨#[]⟩)]] = mc := ⟨_, rfl⟩
 obtain ⟨I, hI⟩ : ∃ I : F → M → Prop, ∀ f m', I f m' = (∃ k : Nat, k ≤ ts.length ∧ f 1 = .sl .no (ts.map Ty.pv) ∧ f 2 = .ep e.cs ∧ f 4 = .bp m.nb 0 ∧ f 5 = .v (.int .u8 i) ∧ f 6 = .v (.int .u8 o) ∧ f 15 = .sl .no (ts.map Ty.pv) ∧ f 16 = pI ts.length ∧ f 17 = pI k ∧ opOk i (ts.getD 0 tyZ) (ts.drop k) = R ∧ m' = mc) := ⟨_, fun _ _ => rfl⟩
 refine aLoop I (fun f m => ts.length - numOf (f 17)) ?_ ?_
 ·rw [hI]; exact ⟨0, by omega, rfl, rfl, rfl, rfl, rfl, rfl, rfl, rfl, hR, hmc⟩
 clear hR
 intro f m' hrel
 rw [hI] at hrel
 obtain ⟨k, hk, f1, f2, f4, f5, f6, f15, f16, f17, hR, rfl⟩ := hrel
 cases c1 : decide ((k : Int) < (ts.length : Int)) with
 | true =>
  have hlt : k < ts.length := by simpa using c1
  have hl0 : 0 < ts.length := by omega
  have g0 := getD_map Ty.pv ts k hlt
  have g1 := getD_map Ty.pv ts 0 hl0
  have hin : IntKind.i64.wrap ((k : Int) + 1) = ((k + 1 : Nat) : Int) := by rw [wrap64 (by omega)]; omega
  have hme : numOf (f 17) = k := by rw [f17]; exact Int.toNat_natCast k
  have hd := opOk_drop (i := i) (u := ts.getD 0 tyZ) hlt
  rw [hd] at hR
  clear hd
  have hg := getD_cons0 ts hl0 tyZ
  rw [hg] at hR
  unfold Ty.eq eqS at hR
  have hfl := fun m => tfail_any e.line e.col m
  generalize ts[k] = x at *
  generalize ts[0] = u at *
  cases b1 : (i == 0) <;> cases b2 : (x.kind == i) <;> cases b3 : (x.kind == u.kind) <;> cases b4 : (x.name.toList == u.name.toList)
  all_goals
   rw [b1, b2, b3, b4] at hR
   (repeat (first | refine aSeq fun X hX => ?_ | refine aSkip ?_ | (first | apply aReg | apply aIf); simp -implicitDefEqProofs only [forall_eq, ↓slp, slb, ↓reduceIte, reduceCtorEq, jA, jB, jC, jD, jE, jF, jG, jH, jI, jJ, jK, tfTeB, f1, f2, f4, f5, f6, f15, f16, f17, pI, c1, g0, g1] | apply hX; clear hX X | apply And.intro; focus omega))
   (repeat (first | refine aSkip ?_ | (first | apply aReg | refine aDrE ?_ | apply aIf); simp -implicitDefEqProofs only [forall_eq, ↓slp, slb, ↓reduceIte, reduceCtorEq, jA, jB, jC, jD, jE, jF, jG, jH, jI, jJ, jK, tfTeB, f1, f2, f4, f5, f6, f15, f16, f17, pI, c1, g0, g1, b1, b2, b3, b4, hl0, hin] | apply hX; clear hX X))
   first
    | refine callP (hfl _) ?_ (fun v m' h => h.elim)
      rintro v m2 ⟨rfl, hm2⟩
      rw [← hmc] at hm2
      subst hm2
      exact leave_ext rfl ⟨by rw [← hR]; rfl, rfl, rfl⟩
    | rw [hI]
      exact ⟨⟨k + 1, hlt, f1, f2, f4, f5, f6, f15, f16, rfl, by rw [hg, ← hR]; simp only [Bool.true_and, Bool.or_true, Bool.true_or, Bool.and_self], rfl⟩, by omega⟩
 | false =>
  have hkk : k = ts.length := by simp at c1; omega
  subst hkk
  rw [List.drop_length] at hR
  rw [← hmc]
  (repeat revert X); refine wE (And.intro tfTeB (And.intro f1 (And.intro f2 (And.intro f4 (And.intro f5 (And.intro f6 (And.intro f15 (And.intro f16 (And.intro f17 (And.intro @pI.eq_1 c1)))))))))) ?_; repeat intro X hX
  refine wQ Tryz.results56 (And.intro tfTeB f4) ?_
  exact leave_ext rfl ⟨hR.symm, rfl, rfl⟩

def tfTeM := tfTeA

def lkE (E : List En) (ns : List No) : PV := .ep [.sl .no (E.map En.pv), .sl .no (ns.map No.pv)]
set_option maxHeartbeats 1000000 in
theorem tof_any (V : List Va) (s : Str) (h : ¬ findVar V s < 0) (m : M) : ACalls Tryz.prog 55 [.sl .no (V.map Va.pv), pS s] m (fun v m' => v = (tyOf V s).pv ∧ m' = m) := by
 have h1 : findVar V s < (V.length : Int) := idxF_lt V
 obtain ⟨k, hk⟩ : ∃ k : Nat, findVar V s = (k : Int) := ⟨(findVar V s).toNat, by omega⟩
 have hlt : k < V.length := by omega
 have g0 := getD_map Va.pv V k hlt
 have hx := fun m => findVar_any .no V s m
 rw [hk] at hx
 have ht : tyOf V s = V[k].t := by
  unfold tyOf
  rw [hk, Int.toNat_natCast, List.getD_eq_getElem?_getD, List.getElem?_eq_getElem hlt]; rfl
 rw [ht]
 refine eN [4] Tryz.func55 ?_
 (repeat revert X); refine wD tfTeM ?_; repeat intro X hX
 refine callE (hx _) ?_
 refine wS (And.intro tfTeM (And.intro @pI.eq_1 (And.intro g0 hlt))) ?_
 (repeat revert X); refine wD aEQ_t ?_; repeat intro X hX
 refine wQ Tryz.results55 tfTeM ?_
 exact leave_ext rfl ⟨rfl, rfl⟩
theorem str_one (l : List Str) : ∀ x ∈ l.map pS, x.cells.length = 1 := fun x hx => by
 obtain ⟨s, _, rfl⟩ := List.mem_map.1 hx; rfl
theorem mgOk_drop {all : List Str} {u : Ty} {ns : List Str} {ts : List Ty} {k : Nat} (h : k < ns.length) (h2 : k < ts.length) :
    mgOk all u (ns.take k) (ns.drop k) (ts.drop k) = (hasS all ns[k] && !hasS (ns.take k) ns[k] && Ty.eq ts[k] u && mgOk all u (ns.take (k + 1)) (ns.drop (k + 1)) (ts.drop (k + 1))) := by
 rw [List.drop_eq_getElem_cons h, List.drop_eq_getElem_cons h2, mgOk, List.take_succ_eq_append_getElem h]
 rfl
set_option maxHeartbeats 4000000 in
theorem merge_any (ns : List No) (E : List En) (V : List Va) (e : Ex) (ts : List Ty) (hv : ¬ findVar V e.name < 0) (hl : e.names.length = ts.length) (h0 : 0 < ts.length) (hb : ts.length ≤ 1000) (m : M) :
    ACallsZ Tryz.prog 59 [lkE E ns, .sl .no (V.map Va.pv), e.pv, .sl .no (ts.map Ty.pv)] m
     (fun v m' => (mgOk (ctorsF E (tyOf V e.name)) (ts.getD 0 tyZ) [] e.names ts && e.names.length == (ctorsF E (tyOf V e.name)).length) = true ∧ v = .tp [] ∧ m' = m)
     (fun v m' => (mgOk (ctorsF E (tyOf V e.name)) (ts.getD 0 tyZ) [] e.names ts && e.names.length == (ctorsF E (tyOf V e.name)).length) = false ∧ v = pStop e.line e.col ∧ m' = m) := by
 have hof := fun m => tof_any V e.name hv m
 obtain ⟨T, hT⟩ : ∃ T, tyOf V e.name = T := ⟨_, rfl⟩
 rw [hT] at hof ⊢
 have hct := fun m => ctors_any E T m
 obtain ⟨all, hall⟩ : ∃ all, ctorsF E T = all := ⟨_, rfl⟩
 rw [hall] at hct ⊢
 have hfl := fun m => tfail_any e.line e.col m
 obtain ⟨R, hR⟩ : ∃ R, mgOk all (ts.getD 0 tyZ) [] e.names ts = R := ⟨_, rfl⟩
 rw [hR]
 unfold lkE
 simp only [Ty.pv] at hof hct
 refine eZ [] Tryz.func59 ?_
 (repeat revert X); refine wE tfTeM ?_; repeat intro X hX
 (repeat revert X); refine wD tfTeM ?_; repeat intro X hX
 refine callE (hof _) ?_
 refine wS tfTeM ?_
 refine callE (hct _) ?_
 refine wS tfTeM ?_
 (repeat (first | refine aSeq fun X hX => ?_ | refine aBlk ?_ | refine aReg ?_; simp -implicitDefEqProofs only [forall_eq, ↓slp, slb, ↓reduceIte, reduceCtorEq, jA, jB, jC, jD, jE, jF, jG, jH, jI, jJ, jK, tfTeM]; try simp only [fo] | apply hX; clear hX X | intro hlen; unfold maxLen at hlen))
 clear hlen
 obtain ⟨I, hI⟩ : ∃ I : F → M → Prop, ∀ f m', I f m' = (∃ k : Nat, k ≤ e.names.length ∧ f 3 = .sl .no (ts.map Ty.pv) ∧ f 6 = .ep e.cs ∧ f 8 = .sl .no (all.map pS) ∧ f 22 = .sl .no (e.names.map pS) ∧ f 23 = pI e.names.length ∧ f 24 = pI k ∧ mgOk all (ts.getD 0 tyZ) (e.names.take k) (e.names.drop k) (ts.drop k) = R ∧ m = m') := ⟨_, fun _ _ => rfl⟩
 refine aLoop I (fun f m => e.names.length - numOf (f 24)) ?_ ?_
 ·rw [hI]; exact ⟨0, by omega, rfl, rfl, rfl, rfl, rfl, rfl, hR, rfl⟩
 clear hR
 intro f m' hrel
 rw [hI] at hrel
 obtain ⟨k, hk, f3, f6, f8, f22, f23, f24, hR, rfl⟩ := hrel
 cases c1 : decide ((k : Int) < (e.names.length : Int)) with
 | false =>
  have hkk : k = e.names.length := by simp at c1; omega
  subst hkk
  rw [List.drop_length, mgOk] at hR
  subst hR
  cases c2 : ((e.names.length : Int) == (all.length : Int)) with
  | true =>
   have c3 : (e.names.length == all.length) = true := by simp at c2 ⊢; omega
   (repeat revert X); refine wD (And.intro tfTeM (And.intro f3 (And.intro f6 (And.intro f8 (And.intro f22 (And.intro f23 (And.intro f24 (And.intro @pI.eq_1 (And.intro c1 c2))))))))) ?_; repeat intro X hX
   refine wR Tryz.results59 ?_
   exact leave_same rfl ⟨by rw [c3], rfl, rfl⟩
  | false =>
   have c3 : (e.names.length == all.length) = false := by simp at c2 ⊢; omega
   (repeat revert X); refine wD (And.intro tfTeM (And.intro f3 (And.intro f6 (And.intro f8 (And.intro f22 (And.intro f23 (And.intro f24 (And.intro @pI.eq_1 (And.intro c1 c2))))))))) ?_; repeat intro X hX
   refine callP (hfl _) ?_ (fun v m' h => h.elim)
   rintro v m2 ⟨rfl, rfl⟩
   exact leave_same rfl ⟨by rw [c3], rfl, rfl⟩
 | true =>
  have hlt : k < e.names.length := by simpa using c1
  have hlt2 : k < ts.length := by omega
  have gn := getD_map pS e.names k hlt
  have g0 := getD_map Ty.pv ts k hlt2
  have g1 := getD_map Ty.pv ts 0 h0
  have hi : IntKind.i64.wrap ((k : Int) + 1) = ((k + 1 : Nat) : Int) := by rw [wrap64 (by omega)]; omega
  have hme : numOf (f 24) = k := by rw [f24]; exact Int.toNat_natCast k
  rw [mgOk_drop hlt hlt2] at hR
  have hg := getD_cons0 ts h0 tyZ
  have hc1 := fun m => contains_any .no all e.names[k] m
  have hc2 := fun m => contains_any .no (e.names.take k) e.names[k] m
  have htk : (List.map pS e.names).take k = (e.names.take k).map pS := by rw [List.map_take]
  unfold Ty.eq eqS at hR
  rw [hg] at hR
  generalize e.names[k] = c at *
  generalize ts[k] = x at *
  generalize ts[0] = u at *
  cases a1 : hasS all c with
  | false =>
   rw [a1] at hR
   (repeat (first | refine aSeq fun X hX => ?_ | refine aSkip ?_ | (first | apply aReg | apply aIf); simp -implicitDefEqProofs only [forall_eq, ↓slp, slb, ↓reduceIte, reduceCtorEq, jA, jB, jC, jD, jE, jF, jG, jH, jI, jJ, jK, tfTeM, f3, f6, f8, f22, f23, f24, pI, pS, c1, gn] | apply hX; clear hX X | apply And.intro; focus omega))
   (repeat (refine aDrE ?_; simp -implicitDefEqProofs only [forall_eq, ↓slp, slb, ↓reduceIte, reduceCtorEq, jA, jB, jC, jD, jE, jF, jG, jH, jI, jJ, jK, tfTeM, f3, f6, f8, f22, f23, f24, pI, pS, c1, gn]))
   refine callE (hc1 _) ?_
   simp -implicitDefEqProofs only [↓slp, slb, ↓reduceIte, reduceCtorEq, jA, jB, jC, jD, jE, jF, jG, jH, jI, jJ, jK, tfTeM, pB, a1, f3, f6, f8, f22, f23, f24, pI, pS]
   (repeat revert X); refine wD (And.intro tfTeM (And.intro @pB.eq_1 (And.intro a1 (And.intro f3 (And.intro f6 (And.intro f8 (And.intro f22 (And.intro f23 (And.intro f24 (And.intro @pI.eq_1 @pS.eq_1)))))))))) ?_; repeat intro X hX
   refine callP (hfl _) ?_ (fun v m' h => h.elim)
   rintro v m2 ⟨rfl, rfl⟩
   exact leave_same rfl ⟨by rw [← hR]; rfl, rfl, rfl⟩
  | true =>
  cases a2 : hasS (e.names.take k) c with
  | true =>
   rw [a1, a2] at hR
   (repeat (first | refine aSeq fun X hX => ?_ | refine aSkip ?_ | (first | apply aReg | apply aIf); simp -implicitDefEqProofs only [forall_eq, ↓slp, slb, ↓reduceIte, reduceCtorEq, jA, jB, jC, jD, jE, jF, jG, jH, jI, jJ, jK, tfTeM, f3, f6, f8, f22, f23, f24, pI, pS, c1, gn] | apply hX; clear hX X | apply And.intro; focus omega))
   (repeat (refine aDrE ?_; simp -implicitDefEqProofs only [forall_eq, ↓slp, slb, ↓reduceIte, reduceCtorEq, jA, jB, jC, jD, jE, jF, jG, jH, jI, jJ, jK, tfTeM, f3, f6, f8, f22, f23, f24, pI, pS, c1, gn]))
   refine callE (hc1 _) ?_
   simp -implicitDefEqProofs only [↓slp, slb, ↓reduceIte, reduceCtorEq, jA, jB, jC, jD, jE, jF, jG, jH, jI, jJ, jK, tfTeM, pB, a1, f3, f6, f8, f22, f23, f24, pI, pS]
   refine ⟨⟨by omega, _, rfl, str_one _⟩, ?_⟩
   rw [htk]
   refine callE (hc2 _) ?_
   simp -implicitDefEqProofs only [↓slp, slb, ↓reduceIte, reduceCtorEq, jA, jB, jC, jD, jE, jF, jG, jH, jI, jJ, jK, tfTeM, pB, a2, f3, f6, f8, f22, f23, f24, pI, pS]
   (repeat revert X); refine wD (And.intro tfTeM (And.intro @pB.eq_1 (And.intro a2 (And.intro f3 (And.intro f6 (And.intro f8 (And.intro f22 (And.intro f23 (And.intro f24 (And.intro @pI.eq_1 @pS.eq_1)))))))))) ?_; repeat intro X hX
   refine callP (hfl _) ?_ (fun v m' h => h.elim)
   rintro v m2 ⟨rfl, rfl⟩
   exact leave_same rfl ⟨by rw [← hR]; rfl, rfl, rfl⟩
  | false =>
   rw [a1, a2] at hR
   cases b3 : (x.kind == u.kind) <;> cases b4 : (x.name.toList == u.name.toList)
   all_goals
    rw [b3, b4] at hR
    (repeat (first | refine aSeq fun X hX => ?_ | refine aSkip ?_ | (first | apply aReg | apply aIf); simp -implicitDefEqProofs only [forall_eq, ↓slp, slb, ↓reduceIte, reduceCtorEq, jA, jB, jC, jD, jE, jF, jG, jH, jI, jJ, jK, tfTeM, f3, f6, f8, f22, f23, f24, pI, pS, c1, gn] | apply hX; clear hX X | apply And.intro; focus omega))
    (repeat (refine aDrE ?_; simp -implicitDefEqProofs only [forall_eq, ↓slp, slb, ↓reduceIte, reduceCtorEq, jA, jB, jC, jD, jE, jF, jG, jH, jI, jJ, jK, tfTeM, f3, f6, f8, f22, f23, f24, pI, pS, c1, gn]))
    refine callE (hc1 _) ?_
    simp -implicitDefEqProofs only [↓slp, slb, ↓reduceIte, reduceCtorEq, jA, jB, jC, jD, jE, jF, jG, jH, jI, jJ, jK, tfTeM, pB, a1, f3, f6, f8, f22, f23, f24, pI, pS]
    refine ⟨⟨by omega, _, rfl, str_one _⟩, ?_⟩
    rw [htk]
    refine callE (hc2 _) ?_
    simp -implicitDefEqProofs only [↓slp, slb, ↓reduceIte, reduceCtorEq, jA, jB, jC, jD, jE, jF, jG, jH, jI, jJ, jK, tfTeM, pB, a2, f3, f6, f8, f22, f23, f24, pI, pS, g0, g1, b3, b4, hlt2, h0]
    (repeat (first | refine aSkip ?_ | (first | apply aReg | apply aIf); simp -implicitDefEqProofs only [forall_eq, ↓slp, slb, ↓reduceIte, reduceCtorEq, jA, jB, jC, jD, jE, jF, jG, jH, jI, jJ, jK, tfTeM, pB, a2, f3, f6, f8, f22, f23, f24, pI, pS, g0, g1, b3, b4, hlt2, h0, hi] | apply hX; clear hX X))
    first
     | refine callP (hfl _) ?_ (fun v m' h => h.elim)
       rintro v m2 ⟨rfl, rfl⟩
       exact leave_same rfl ⟨by rw [← hR]; rfl, rfl, rfl⟩
     | rw [hI]
       exact ⟨⟨k + 1, hlt, f3, f6, f8, f22, f23, rfl, by rw [hg, ← hR]; simp only [Bool.true_and, Bool.not_false, Bool.and_self], rfl⟩, by omega⟩
end Go.Proofs.YthhhnfjcaicjnaaGreatDoor
