/-
 Texts that belong together: NmW, NmI, NmV, NmA.
-/
-- halved
import Derived.Test.YteiaedmipkcfeaaDoorNmZ
import Derived.Test.YteiaedmipkcfeaaDoorSlcX
import Derived.Test.YteiaedmipkcfeaaDoorAbToks
import Derived.Test.YteiaedmipkcfeaaDoorLvA
/-
 names: constructors, expressions, variables, ways.
-/
set_option linter.unusedVariables false
set_option linter.unusedSimpArgs false
namespace Go.Proofs.YteiaedmipkcfeaaDoor
open Nat renaming reduceEqDiff → jA, reduceAdd → jB, reduceMul → jC, reduceLT → jD, reduceLeDiff → jE, reduceBEq → jF, reduceBNe → jG
open Int renaming reduceLE → jH, reduceLT → jI, reduceToNat → jJ, reduceEq → jK
open Go
set_option maxRecDepth 20000
set_option linter.defProp false
def Ya := And.intro @slb (And.intro @tfA (And.intro @Ex.settle_pv (And.intro @Ex.pure_pv (And.intro @Ex.cells_pv (And.intro @Ex.cs.eq_1 (And.intro @On.pv.eq_1 (And.intro @Ty.pv.eq_1 (And.intro @Va.settle_pv (And.intro @Va.pure_pv (And.intro @Va.cells_pv (And.intro @Va.cs.eq_1 (And.intro @Qu.settle_pv (And.intro @Qu.pure_pv (And.intro @Qu.cells_pv (And.intro @Qu.cs.eq_1 (And.intro @Am.settle_pv (And.intro @Am.pure_pv (And.intro @Am.cells_pv (And.intro @Am.cs.eq_1 (And.intro @Tr.settle_pv (And.intro @Tr.pure_pv (And.intro @Tr.cells_pv (And.intro @Tr.cs.eq_1 (And.intro @No.settle_pv (And.intro @No.pure_pv (And.intro @No.cells_pv (And.intro @No.cs.eq_1 @No.pv.eq_1)))))))))))))))))))))))))))

abbrev unit (m : M) : PV → M → Prop := fun v m' => v = .tp [] ∧ m' = m
def lkP (ns : List No) : PV := .ep [.sl .no [.ag colC], .sl .no (ns.map No.pv)]
def scN (E : List Va) (O : List Str) : PV := .ag [.sl .no (E.map Va.pv), .sl .no (O.map pS)]
set_option maxHeartbeats 1000000 in
theorem idxEn_any (g : FuncId) (c : PV) (m : M) (hf : ∀ m : M, ACalls Tryd.prog g [.ag colC, c] m (fun v m' => v = pB true ∧ m' = m)) :
    ACalls Tryd.prog 68 [.sl .no [.ag colC], .fn (.func g) [] [c]] m (fun v m' => v = pI 0 ∧ m' = m) := by
 unfold colC at hf ⊢
 refine ACalls.enter (mu := []) ok_mix Tryd.func68 rfl (by kernel_rfl) (by kernel_rfl) (by simp only [List.length_cons, List.length_nil, Tryd.ntmps68]; omega) ?_
 (repeat (first | refine aSeq fun X hX => ?_ | apply aBlk | refine aSkip ?_ | (first | refine aExit ?_ | refine aRet ?_); try simp only [slx, ↓reduceIte, jA, reduceCtorEq] | (first | apply aReg | refine aDrE ?_); simp -implicitDefEqProofs only [↓slp, ↓reduceIte, reduceCtorEq, jA, jF, jJ, Ya]; try simp only [fo] | apply hX; clear hX X | clear hX X; apply hX; clear hX X | intro hlen; unfold maxLen at hlen | apply And.intro; · first | assumption | and_intros <;> first | omega | assumption))
 obtain ⟨I, hI⟩ : ∃ I : F → M → Prop, ∀ f m', I f m' = (f 0 = .sl .no [.ag [.v (.string sCol), .sl .no [pS sRed, pS sGreen, pS sBlue], .v (.int .i64 0), .v (.int .i64 0)]] ∧ f 1 = .fn (.func g) [] [c] ∧ f 7 = pI 1 ∧ f 8 = pI 0 ∧ m' = m) := ⟨_, fun _ _ => rfl⟩
 refine aLoop I (fun f m => 0) ?_ ?_
 ·rw [hI]; exact ⟨rfl, rfl, rfl, rfl, rfl⟩
 intro f m' hrel
 rw [hI] at hrel
 obtain ⟨h0, h1, h7, h8, rfl⟩ := hrel
 have c1 : decide ((0 : Int) < 1) = true := rfl
 (repeat (first | refine aSeq fun X hX => ?_ | apply aBlk | refine aSkip ?_ | (first | refine aExit ?_ | refine aRet ?_); try simp only [slx, ↓reduceIte, jA, reduceCtorEq] | (first | apply aReg | apply aIf); simp -implicitDefEqProofs only [↓slp, ↓reduceIte, reduceCtorEq, jA, jF, jJ, Ya, h0, h1, h7, h8, pI, c1]; try simp only [fo] | apply hX; clear hX X | clear hX X; apply hX; clear hX X | intro hlen; unfold maxLen at hlen | apply And.intro; · first | assumption | and_intros <;> first | omega | assumption))
 refine callE (hf _) ?_
 simp -implicitDefEqProofs only [↓slp, ↓reduceIte, reduceCtorEq, jA, jF, jJ, Ya, h0, h1, h7, h8, pI, pB]; try simp only [fo]
 (repeat (first | refine aSeq fun X hX => ?_ | apply aBlk | refine aSkip ?_ | (first | refine aExit ?_ | refine aRet ?_); try simp only [slx, ↓reduceIte, jA, reduceCtorEq] | (first | apply aReg | apply aIf); simp -implicitDefEqProofs only [↓slp, ↓reduceIte, reduceCtorEq, jA, jF, jJ, Ya, h0, h1, h7, h8, pI]; try simp only [fo] | apply hX; clear hX X | clear hX X; apply hX; clear hX X | intro hlen; unfold maxLen at hlen | apply And.intro; · first | assumption | and_intros <;> first | omega | assumption))
 simp only [aPost, Tryd.results68, aRes_n, aRes_t, aRes_c, pack_one, pack_two]
 exact leave_same rfl ⟨rfl, rfl⟩
set_option maxHeartbeats 1000000 in
theorem findEnumC (m : M) : ACalls Tryd.prog 69 [.ag colC, .ep [pS sCol]] m (fun v m' => v = pB true ∧ m' = m) := by
 have e1 : (sCol.toList == sCol.toList) = true := by simp
 unfold colC
 refine ACalls.enter (mu := []) ok_mix Tryd.func69 rfl (by kernel_rfl) (by kernel_rfl) (by simp only [List.length_cons, List.length_nil, Tryd.ntmps69]; omega) ?_
 (repeat (first | refine aSeq fun X hX => ?_ | apply aBlk | refine aSkip ?_ | (first | refine aExit ?_ | refine aRet ?_); try simp only [slx, ↓reduceIte, jA, reduceCtorEq] | (first | apply aReg | refine aDrE ?_); simp -implicitDefEqProofs only [↓slp, ↓reduceIte, reduceCtorEq, jA, jF, jJ, Ya, pS, e1]; try simp only [fo] | apply hX; clear hX X | clear hX X; apply hX; clear hX X | intro hlen; unfold maxLen at hlen | apply And.intro; · first | assumption | and_intros <;> first | omega | assumption))
 simp only [aPost, Tryd.results69, aRes_n, aRes_t, aRes_c, pack_one, pack_two]
 exact leave_same rfl ⟨rfl, rfl⟩
set_option maxHeartbeats 1000000 in
theorem ctorEnumC {s : Str} (hs : s ∈ cols) (m : M) : ACalls Tryd.prog 99 [.ag colC, .ep [pS s]] m (fun v m' => v = pB true ∧ m' = m) := by
 have hx := fun m => contains_any .no cols s m
 rw [(hasS_iff s cols).2 hs] at hx
 simp only [cols, List.map_cons, List.map_nil] at hx
 unfold colC
 refine ACalls.enter (mu := []) ok_mix Tryd.func99 rfl (by kernel_rfl) (by kernel_rfl) (by simp only [List.length_cons, List.length_nil, Tryd.ntmps99]; omega) ?_
 (repeat (first | refine aSeq fun X hX => ?_ | apply aBlk | refine aSkip ?_ | (first | refine aExit ?_ | refine aRet ?_); try simp only [slx, ↓reduceIte, jA, reduceCtorEq] | (first | apply aReg | refine aDrE ?_); simp -implicitDefEqProofs only [↓slp, ↓reduceIte, reduceCtorEq, jA, jF, jJ, Ya, pS]; try simp only [fo] | apply hX; clear hX X | clear hX X; apply hX; clear hX X | intro hlen; unfold maxLen at hlen | apply And.intro; · first | assumption | and_intros <;> first | omega | assumption))
 refine callE (hx _) ?_
 simp -implicitDefEqProofs only [↓slp, ↓reduceIte, reduceCtorEq, jA, jF, jJ, Ya, pB]; try simp only [fo]
 (repeat (first | refine aSeq fun X hX => ?_ | apply aBlk | refine aSkip ?_ | (first | refine aExit ?_ | refine aRet ?_); try simp only [slx, ↓reduceIte, jA, reduceCtorEq] | (first | apply aReg | refine aDrE ?_); simp -implicitDefEqProofs only [↓slp, ↓reduceIte, reduceCtorEq, jA, jF, jJ, Ya]; try simp only [fo] | apply hX; clear hX X | clear hX X; apply hX; clear hX X | intro hlen; unfold maxLen at hlen | apply And.intro; · first | assumption | and_intros <;> first | omega | assumption))
 simp only [aPost, Tryd.results99, aRes_n, aRes_t, aRes_c, pack_one, pack_two]
 exact leave_same rfl ⟨rfl, rfl⟩
set_option maxHeartbeats 1000000 in
theorem findEnum_C (m : M) : ACalls Tryd.prog 41 [.sl .no [.ag colC], pS sCol] m (fun v m' => v = pI 0 ∧ m' = m) := by
 have hx := fun m => idxEn_any 69 (.ep [pS sCol]) m findEnumC
 unfold colC at hx ⊢
 refine ACalls.enter (mu := []) ok_mix Tryd.func41 rfl (by kernel_rfl) (by kernel_rfl) (by simp only [List.length_cons, List.length_nil, Tryd.ntmps41]; omega) ?_
 (repeat (first | refine aSeq fun X hX => ?_ | apply aBlk | refine aSkip ?_ | (first | refine aExit ?_ | refine aRet ?_); try simp only [slx, ↓reduceIte, jA, reduceCtorEq] | (first | apply aReg | refine aDrE ?_); simp -implicitDefEqProofs only [↓slp, ↓reduceIte, reduceCtorEq, jA, jF, jJ, Ya, pS]; try simp only [fo] | apply hX; clear hX X | clear hX X; apply hX; clear hX X | intro hlen; unfold maxLen at hlen | apply And.intro; · first | assumption | and_intros <;> first | omega | assumption))
 refine callE (hx _) ?_
 simp -implicitDefEqProofs only [↓slp, ↓reduceIte, reduceCtorEq, jA, jF, jJ, Ya, pI]; try simp only [fo]
 (repeat (first | refine aSeq fun X hX => ?_ | apply aBlk | refine aSkip ?_ | (first | refine aExit ?_ | refine aRet ?_); try simp only [slx, ↓reduceIte, jA, reduceCtorEq] | (first | apply aReg | refine aDrE ?_); simp -implicitDefEqProofs only [↓slp, ↓reduceIte, reduceCtorEq, jA, jF, jJ, Ya]; try simp only [fo] | apply hX; clear hX X | clear hX X; apply hX; clear hX X | intro hlen; unfold maxLen at hlen | apply And.intro; · first | assumption | and_intros <;> first | omega | assumption))
 simp only [aPost, Tryd.results41, aRes_n, aRes_t, aRes_c, pack_one, pack_two]
 exact leave_same rfl ⟨rfl, rfl⟩
set_option maxHeartbeats 1000000 in
theorem ctorEnum_C {s : Str} (hs : s ∈ cols) (m : M) : ACalls Tryd.prog 91 [.sl .no [.ag colC], pS s] m (fun v m' => v = pI 0 ∧ m' = m) := by
 have hx := fun m => idxEn_any 99 (.ep [pS s]) m (ctorEnumC hs)
 unfold colC at hx ⊢
 refine ACalls.enter (mu := []) ok_mix Tryd.func91 rfl (by kernel_rfl) (by kernel_rfl) (by simp only [List.length_cons, List.length_nil, Tryd.ntmps91]; omega) ?_
 (repeat (first | refine aSeq fun X hX => ?_ | apply aBlk | refine aSkip ?_ | (first | refine aExit ?_ | refine aRet ?_); try simp only [slx, ↓reduceIte, jA, reduceCtorEq] | (first | apply aReg | refine aDrE ?_); simp -implicitDefEqProofs only [↓slp, ↓reduceIte, reduceCtorEq, jA, jF, jJ, Ya, pS]; try simp only [fo] | apply hX; clear hX X | clear hX X; apply hX; clear hX X | intro hlen; unfold maxLen at hlen | apply And.intro; · first | assumption | and_intros <;> first | omega | assumption))
 refine callE (hx _) ?_
 simp -implicitDefEqProofs only [↓slp, ↓reduceIte, reduceCtorEq, jA, jF, jJ, Ya, pI]; try simp only [fo]
 (repeat (first | refine aSeq fun X hX => ?_ | apply aBlk | refine aSkip ?_ | (first | refine aExit ?_ | refine aRet ?_); try simp only [slx, ↓reduceIte, jA, reduceCtorEq] | (first | apply aReg | refine aDrE ?_); simp -implicitDefEqProofs only [↓slp, ↓reduceIte, reduceCtorEq, jA, jF, jJ, Ya]; try simp only [fo] | apply hX; clear hX X | clear hX X; apply hX; clear hX X | intro hlen; unfold maxLen at hlen | apply And.intro; · first | assumption | and_intros <;> first | omega | assumption))
 simp only [aPost, Tryd.results91, aRes_n, aRes_t, aRes_c, pack_one, pack_two]
 exact leave_same rfl ⟨rfl, rfl⟩
set_option maxHeartbeats 1000000 in
theorem ctorN_any (ns : List No) {c : Str} (hc : c ∈ cols) (m : M) : ACalls Tryd.prog 75 [lkP ns, pS c] m (fun v m' => v = pB true ∧ m' = m) := by
 have hx := fun m => ctorEnum_C hc m
 have c1 : (c.toList == (⟨#[116, 114, 117, 101]⟩ : Str).toList) = false := by
  simp only [List.mem_cons, List.not_mem_nil, or_false] at hc
  rcases hc with rfl | rfl | rfl <;> decide +kernel
 have c2 : (c.toList == (⟨#[102, 97, 108, 115, 101]⟩ : Str).toList) = false := by
  simp only [List.mem_cons, List.not_mem_nil, or_false] at hc
  rcases hc with rfl | rfl | rfl <;> decide +kernel
 have c0 : decide ((0 : Int) ≥ 0) = true := rfl
 unfold lkP colC at *
 refine ACalls.enter (mu := []) ok_mix Tryd.func75 rfl (by kernel_rfl) (by kernel_rfl) (by simp only [List.length_cons, List.length_nil, Tryd.ntmps75]; omega) ?_
 (repeat (first | refine aSeq fun X hX => ?_ | apply aBlk | refine aSkip ?_ | (first | refine aExit ?_ | refine aRet ?_); try simp only [slx, ↓reduceIte, jA, reduceCtorEq] | (first | apply aReg | refine aDrE ?_ | apply aIf); simp -implicitDefEqProofs only [↓slp, ↓reduceIte, reduceCtorEq, jA, jF, jJ, Ya, pS, c1, c2]; try simp only [fo] | apply hX; clear hX X | clear hX X; apply hX; clear hX X | intro hlen; unfold maxLen at hlen | apply And.intro; · first | assumption | and_intros <;> first | omega | assumption))
 refine callE (hx _) ?_
 simp -implicitDefEqProofs only [↓slp, ↓reduceIte, reduceCtorEq, jA, jF, jJ, Ya, pI, c0, pS, c1, c2]; try simp only [fo]
 (repeat (first | refine aSeq fun X hX => ?_ | apply aBlk | refine aSkip ?_ | (first | refine aExit ?_ | refine aRet ?_); try simp only [slx, ↓reduceIte, jA, reduceCtorEq] | (first | apply aReg | refine aDrE ?_ | apply aIf); simp -implicitDefEqProofs only [↓slp, ↓reduceIte, reduceCtorEq, jA, jF, jJ, Ya, pS, c1, c2, c0]; try simp only [fo] | apply hX; clear hX X | clear hX X; apply hX; clear hX X | intro hlen; unfold maxLen at hlen | apply And.intro; · first | assumption | and_intros <;> first | omega | assumption))
 simp only [aPost, Tryd.results75, aRes_n, aRes_t, aRes_c, pack_one, pack_two]
 exact leave_same rfl ⟨rfl, rfl⟩
/-- The look at an expression ends well. -/
def ExN (ns : List No) (E : List Va) (e : Ex) : Prop := ∀ (O : List Str) (m : M), ACalls Tryd.prog 72 [lkP ns, scN E O, e.pv] m (unit m)
set_option maxHeartbeats 8000000 in
theorem exN_step (ns : List No) (E : List Va) {e : Ex} (hks : ∀ i (h : i < e.kids.length), ExN ns E e.kids[i]) (hf : NmK E e) : ExN ns E e := by
 intro O m
 have hcn := fun (c : Str) (hc : c ∈ cols) (m : M) => ctorN_any ns hc m
 have hce := fun (c : Str) (hc : c ∈ cols) (m : M) => ctorEnum_C hc m
 have hfv := fun (s : Str) (m : M) => findVar_any .no E s m
 unfold ExN at hks
 unfold lkP scN colC at *
 refine ACalls.enter (mu := []) ok_mix Tryd.func72 rfl (by kernel_rfl) (by kernel_rfl) (by simp only [List.length_cons, List.length_nil, Tryd.ntmps72]; omega) ?_
 (repeat (first | refine aSeq fun X hX => ?_ | apply aBlk | refine aSkip ?_ | (first | refine aExit ?_ | refine aRet ?_); try simp only [slx, ↓reduceIte, jA, reduceCtorEq] | (first | apply aReg | apply aIf); simp -implicitDefEqProofs only [↓slp, ↓reduceIte, reduceCtorEq, jA, jF, jJ, Ya]; try simp only [fo] | apply hX; clear hX X | clear hX X; apply hX; clear hX X | intro hlen; unfold maxLen at hlen | apply And.intro; · first | assumption | and_intros <;> first | omega | assumption))
 obtain ⟨I, hI⟩ : ∃ I : F → M → Prop, ∀ f m', I f m' = (∃ k : Nat, k ≤ e.kids.length ∧ f 0 = .ep [.sl .no [.ag [.v (.string sCol), .sl .no [pS sRed, pS sGreen, pS sBlue], .v (.int .i64 0), .v (.int .i64 0)]], .sl .no (ns.map No.pv)] ∧ f 4 = .ep [.sl .no (E.map Va.pv), .sl .no (O.map pS)] ∧ f 5 = .ep e.cs ∧ f 13 = .sl .no (e.kids.map Ex.pv) ∧ f 14 = pI e.kids.length ∧ f 15 = pI k ∧ m = m') := ⟨_, fun _ _ => rfl⟩
 refine aLoop I (fun f m => e.kids.length - numOf (f 15)) ?_ ?_
 ·rw [hI]; exact ⟨0, by omega, rfl, rfl, rfl, rfl, rfl, rfl, rfl⟩
 intro f m' hrel
 rw [hI] at hrel
 obtain ⟨k, hk, f0, f4, f5, f13, f14, f15, rfl⟩ := hrel
 cases c1 : decide ((k : Int) < (e.kids.length : Int)) with
 | true =>
  have hlt : k < e.kids.length := by simpa using c1
  have g0 := getD_map Ex.pv e.kids k hlt
  have hi : IntKind.i64.wrap ((k : Int) + 1) = ((k + 1 : Nat) : Int) := by rw [wrap64 (by omega)]; omega
  have hme : numOf (f 15) = k := by rw [f15]; exact Int.toNat_natCast k
  (repeat (first | refine aSeq fun X hX => ?_ | apply aBlk | refine aSkip ?_ | (first | refine aExit ?_ | refine aRet ?_); try simp only [slx, ↓reduceIte, jA, reduceCtorEq] | (first | apply aReg | apply aIf); simp -implicitDefEqProofs only [↓slp, ↓reduceIte, reduceCtorEq, jA, jF, jJ, Ya, f0, f4, f5, f13, f14, f15, pI, c1, g0]; try simp only [fo] | apply hX; clear hX X | clear hX X; apply hX; clear hX X | intro hlen; unfold maxLen at hlen | apply And.intro; · first | assumption | and_intros <;> first | omega | assumption))
  refine callE (hks k hlt O _) ?_
  simp -implicitDefEqProofs only [↓slp, ↓reduceIte, reduceCtorEq, jA, jF, jJ, Ya]; try simp only [fo]
  (repeat (first | refine aSeq fun X hX => ?_ | apply aBlk | refine aSkip ?_ | (first | refine aExit ?_ | refine aRet ?_); try simp only [slx, ↓reduceIte, jA, reduceCtorEq] | (first | apply aReg | apply aIf); simp -implicitDefEqProofs only [↓slp, ↓reduceIte, reduceCtorEq, jA, jF, jJ, Ya, f15, pI, hi]; try simp only [fo] | apply hX; clear hX X | clear hX X; apply hX; clear hX X | intro hlen; unfold maxLen at hlen | apply And.intro; · first | assumption | and_intros <;> first | omega | assumption))
  rw [hI]
  exact ⟨⟨k + 1, hlt, f0, f4, f5, f13, f14, rfl, rfl⟩, by omega⟩
 | false =>
  have hk' : k = e.kids.length := by simp at c1; omega
  subst hk'
  have c0 : decide ((e.kids.length : Int) < (e.kids.length : Int)) = false := by simp
  clear c1
  rcases hf with ⟨k3, k4, k5, k12, k13⟩ | ⟨hk, hc⟩ | ⟨hk, j, hj, hfj⟩ | ⟨hk, j, hj, hfj, hla⟩ | ⟨hk, ⟨j, hj, hfj⟩, hcc⟩
  ·have c4 : (e.kind == 4) = false := by simp [k4]
   have c5 : (e.kind == 5) = false := by simp [k5]
   have c3 : (e.kind == 3) = false := by simp [k3]
   have c12 : (e.kind == 12) = false := by simp [k12]
   have c13 : (e.kind == 13) = false := by simp [k13]
   (repeat (first | refine aSeq fun X hX => ?_ | apply aBlk | refine aSkip ?_ | (first | refine aExit ?_ | refine aRet ?_); try simp only [slx, ↓reduceIte, jA, reduceCtorEq] | (first | apply aReg | refine aDrE ?_ | apply aIf); simp -implicitDefEqProofs only [↓slp, ↓reduceIte, reduceCtorEq, jA, jF, jJ, Ya, f0, f4, f5, f13, f14, f15, pI, c0, c4, c5, c3, c12, c13]; try simp only [fo] | apply hX; clear hX X | clear hX X; apply hX; clear hX X | intro hlen; unfold maxLen at hlen | apply And.intro; · first | assumption | and_intros <;> first | omega | assumption))
   refine callE (hfv _ _) ?_
   simp -implicitDefEqProofs only [↓slp, ↓reduceIte, reduceCtorEq, jA, jF, jJ, Ya, f0, f4, f5, f13, f14, f15, pI, c0, c4, c5, c3, c12, c13]; try simp only [fo]
   (repeat (first | refine aSeq fun X hX => ?_ | apply aBlk | refine aSkip ?_ | (first | refine aExit ?_ | refine aRet ?_); try simp only [slx, ↓reduceIte, jA, reduceCtorEq] | (first | apply aReg | refine aDrE ?_ | apply aIf); simp -implicitDefEqProofs only [↓slp, ↓reduceIte, reduceCtorEq, jA, jF, jJ, Ya, f0, f4, f5, f13, f14, f15, pI, c0, c4, c5, c3, c12, c13]; try simp only [fo] | apply hX; clear hX X | clear hX X; apply hX; clear hX X | intro hlen; unfold maxLen at hlen | apply And.intro; · first | assumption | and_intros <;> first | omega | assumption))
   simp only [aPost, Tryd.results72, aRes_n, aRes_t, aRes_c, pack_one, pack_two]
   exact leave_same rfl ⟨rfl, rfl⟩
  ·
   have c4 : (e.kind == 4) = false := by simp [hk]
   have c5 : (e.kind == 5) = false := by simp [hk]
   have c3 : (e.kind == 3) = true := by simp [hk]
   have c12 : (e.kind == 12) = false := by simp [hk]
   have c13 : (e.kind == 13) = false := by simp [hk]
   have d0 : decide ((0 : Int) ≥ 0) = true := rfl
   (repeat (first | refine aSeq fun X hX => ?_ | apply aBlk | refine aSkip ?_ | (first | refine aExit ?_ | refine aRet ?_); try simp only [slx, ↓reduceIte, jA, reduceCtorEq] | (first | apply aReg | refine aDrE ?_ | apply aIf); simp -implicitDefEqProofs only [↓slp, ↓reduceIte, reduceCtorEq, jA, jF, jJ, Ya, f0, f4, f5, f13, f14, f15, pI, c0, c4, c5, c3, c12, c13]; try simp only [fo] | apply hX; clear hX X | clear hX X; apply hX; clear hX X | intro hlen; unfold maxLen at hlen | apply And.intro; · first | assumption | and_intros <;> first | omega | assumption))
   refine callE (hfv _ _) ?_
   simp -implicitDefEqProofs only [↓slp, ↓reduceIte, reduceCtorEq, jA, jF, jJ, Ya, f0, f4, f5, f13, f14, f15, pI, c0, c4, c5, c3, c12, c13]; try simp only [fo]
   (repeat (first | refine aSeq fun X hX => ?_ | apply aBlk | refine aSkip ?_ | (first | refine aExit ?_ | refine aRet ?_); try simp only [slx, ↓reduceIte, jA, reduceCtorEq] | (first | apply aReg | refine aDrE ?_ | apply aIf); simp -implicitDefEqProofs only [↓slp, ↓reduceIte, reduceCtorEq, jA, jF, jJ, Ya, f0, f4, f5, f13, f14, f15, pI, c0, c4, c5, c3, c12, c13]; try simp only [fo] | apply hX; clear hX X | clear hX X; apply hX; clear hX X | intro hlen; unfold maxLen at hlen | apply And.intro; · first | assumption | and_intros <;> first | omega | assumption))
   refine callE (hce _ hc _) ?_
   simp -implicitDefEqProofs only [↓slp, ↓reduceIte, reduceCtorEq, jA, jF, jJ, Ya, f0, f4, f5, f13, f14, f15, pI, c0, c4, c5, c3, c12, c13, d0]; try simp only [fo]
   (repeat (first | refine aSeq fun X hX => ?_ | apply aBlk | refine aSkip ?_ | (first | refine aExit ?_ | refine aRet ?_); try simp only [slx, ↓reduceIte, jA, reduceCtorEq] | (first | apply aReg | refine aDrE ?_ | apply aIf); simp -implicitDefEqProofs only [↓slp, ↓reduceIte, reduceCtorEq, jA, jF, jJ, Ya, f0, f4, f5, f13, f14, f15, pI, c0, c4, c5, c3, c12, c13, d0]; try simp only [fo] | apply hX; clear hX X | clear hX X; apply hX; clear hX X | intro hlen; unfold maxLen at hlen | apply And.intro; · first | assumption | and_intros <;> first | omega | assumption))
   simp only [aPost, Tryd.results72, aRes_n, aRes_t, aRes_c, pack_one, pack_two]
   exact leave_same rfl ⟨rfl, rfl⟩
  ·
   have c4 : (e.kind == 4) = true := by simp [hk]
   have c5 : (e.kind == 5) = false := by simp [hk]
   have c3 : (e.kind == 3) = false := by simp [hk]
   have c12 : (e.kind == 12) = false := by simp [hk]
   have c13 : (e.kind == 13) = false := by simp [hk]
   have d0 : decide ((j : Int) ≥ 0) = true := by simp
   have hfv2 := hfv e.name
   rw [hfj] at hfv2
   (repeat (first | refine aSeq fun X hX => ?_ | apply aBlk | refine aSkip ?_ | (first | refine aExit ?_ | refine aRet ?_); try simp only [slx, ↓reduceIte, jA, reduceCtorEq] | (first | apply aReg | refine aDrE ?_ | apply aIf); simp -implicitDefEqProofs only [↓slp, ↓reduceIte, reduceCtorEq, jA, jF, jJ, Ya, f0, f4, f5, f13, f14, f15, pI, c0, c4, c5, c3, c12, c13]; try simp only [fo] | apply hX; clear hX X | clear hX X; apply hX; clear hX X | intro hlen; unfold maxLen at hlen | apply And.intro; · first | assumption | and_intros <;> first | omega | assumption))
   refine callE (hfv2 _) ?_
   simp -implicitDefEqProofs only [↓slp, ↓reduceIte, reduceCtorEq, jA, jF, jJ, Ya, f0, f4, f5, f13, f14, f15, pI, c0, c4, c5, c3, c12, c13, d0]; try simp only [fo]
   (repeat (first | refine aSeq fun X hX => ?_ | apply aBlk | refine aSkip ?_ | (first | refine aExit ?_ | refine aRet ?_); try simp only [slx, ↓reduceIte, jA, reduceCtorEq] | (first | apply aReg | refine aDrE ?_ | apply aIf); simp -implicitDefEqProofs only [↓slp, ↓reduceIte, reduceCtorEq, jA, jF, jJ, Ya, f0, f4, f5, f13, f14, f15, pI, c0, c4, c5, c3, c12, c13, d0]; try simp only [fo] | apply hX; clear hX X | clear hX X; apply hX; clear hX X | intro hlen; unfold maxLen at hlen | apply And.intro; · first | assumption | and_intros <;> first | omega | assumption))
   simp only [aPost, Tryd.results72, aRes_n, aRes_t, aRes_c, pack_one, pack_two]
   exact leave_same rfl ⟨rfl, rfl⟩
  ·
   have c4 : (e.kind == 4) = false := by simp [hk]
   have c5 : (e.kind == 5) = true := by simp [hk]
   have c3 : (e.kind == 3) = false := by simp [hk]
   have c12 : (e.kind == 12) = false := by simp [hk]
   have c13 : (e.kind == 13) = false := by simp [hk]
   have d0 : decide ((j : Int) ≥ 0) = true := by simp
   have hfv2 := hfv e.name
   rw [hfj] at hfv2
   have gj := getD_map Va.pv E j hj
   (repeat (first | refine aSeq fun X hX => ?_ | apply aBlk | refine aSkip ?_ | (first | refine aExit ?_ | refine aRet ?_); try simp only [slx, ↓reduceIte, jA, reduceCtorEq] | (first | apply aReg | refine aDrE ?_ | apply aIf); simp -implicitDefEqProofs only [↓slp, ↓reduceIte, reduceCtorEq, jA, jF, jJ, Ya, f0, f4, f5, f13, f14, f15, pI, c0, c4, c5, c3, c12, c13]; try simp only [fo] | apply hX; clear hX X | clear hX X; apply hX; clear hX X | intro hlen; unfold maxLen at hlen | apply And.intro; · first | assumption | and_intros <;> first | omega | assumption))
   refine callE (hfv2 _) ?_
   simp -implicitDefEqProofs only [↓slp, ↓reduceIte, reduceCtorEq, jA, jF, jJ, Ya, f0, f4, f5, f13, f14, f15, pI, c0, c4, c5, c3, c12, c13, d0]; try simp only [fo]
   (repeat (first | refine aSeq fun X hX => ?_ | apply aBlk | refine aSkip ?_ | (first | refine aExit ?_ | refine aRet ?_); try simp only [slx, ↓reduceIte, jA, reduceCtorEq] | (first | apply aReg | refine aDrE ?_ | apply aIf); simp -implicitDefEqProofs only [↓slp, ↓reduceIte, reduceCtorEq, jA, jF, jJ, Ya, f0, f4, f5, f13, f14, f15, pI, c0, c4, c5, c3, c12, c13, d0, gj, hj, hla]; try simp only [fo] | apply hX; clear hX X | clear hX X; apply hX; clear hX X | intro hlen; unfold maxLen at hlen | apply And.intro; · first | assumption | and_intros <;> first | omega | assumption))
   simp only [aPost, Tryd.results72, aRes_n, aRes_t, aRes_c, pack_one, pack_two]
   exact leave_same rfl ⟨rfl, rfl⟩
  ·rcases hk with hk | hk
   ·
    have c4 : (e.kind == 4) = false := by simp [hk]
    have c5 : (e.kind == 5) = false := by simp [hk]
    have c3 : (e.kind == 3) = false := by simp [hk]
    have c12 : (e.kind == 12) = true := by simp [hk]
    have c13 : (e.kind == 13) = false := by simp [hk]
    have d0 : decide ((j : Int) ≥ 0) = true := by simp
    have hfv2 := hfv e.name
    rw [hfj] at hfv2
    (repeat (first | refine aSeq fun X hX => ?_ | apply aBlk | refine aSkip ?_ | (first | refine aExit ?_ | refine aRet ?_); try simp only [slx, ↓reduceIte, jA, reduceCtorEq] | (first | apply aReg | refine aDrE ?_ | apply aIf); simp -implicitDefEqProofs only [↓slp, ↓reduceIte, reduceCtorEq, jA, jF, jJ, Ya, f0, f4, f5, f13, f14, f15, pI, c0, c4, c5, c3, c12, c13]; try simp only [fo] | apply hX; clear hX X | clear hX X; apply hX; clear hX X | intro hlen; unfold maxLen at hlen | apply And.intro; · first | assumption | and_intros <;> first | omega | assumption))
    refine callE (hfv2 _) ?_
    simp -implicitDefEqProofs only [↓slp, ↓reduceIte, reduceCtorEq, jA, jF, jJ, Ya, f0, f4, f5, f13, f14, f15, pI, c0, c4, c5, c3, c12, c13, d0]; try simp only [fo]
    (repeat (first | refine aSeq fun X hX => ?_ | apply aBlk | refine aSkip ?_ | (first | refine aExit ?_ | refine aRet ?_); try simp only [slx, ↓reduceIte, jA, reduceCtorEq] | (first | apply aReg | refine aDrE ?_ | apply aIf); simp -implicitDefEqProofs only [↓slp, ↓reduceIte, reduceCtorEq, jA, jF, jJ, Ya, f0, f4, f5, f13, f14, f15, pI, c0, c4, c5, c3, c12, c13, d0]; try simp only [fo] | apply hX; clear hX X | clear hX X; apply hX; clear hX X | intro hlen; unfold maxLen at hlen | apply And.intro; · first | assumption | and_intros <;> first | omega | assumption))
    obtain ⟨J, hJ⟩ : ∃ J : F → M → Prop, ∀ f m', J f m' = (∃ k : Nat, k ≤ e.names.length ∧ f 0 = .ep [.sl .no [.ag [.v (.string sCol), .sl .no [pS sRed, pS sGreen, pS sBlue], .v (.int .i64 0), .v (.int .i64 0)]], .sl .no (ns.map No.pv)] ∧ f 9 = .v (.bool true) ∧ f 64 = .sl .no (e.names.map pS) ∧ f 65 = pI e.names.length ∧ f 66 = pI k ∧ m = m') := ⟨_, fun _ _ => rfl⟩
    refine aLoop J (fun f m => e.names.length - numOf (f 66)) ?_ ?_
    ·rw [hJ]; exact ⟨0, by omega, f0, rfl, rfl, rfl, rfl, rfl⟩
    clear f0 f4 f5 f13 f14 f15
    intro f m' hrel
    rw [hJ] at hrel
    obtain ⟨k, hk', f0, f9, f64, f65, f66, rfl⟩ := hrel
    cases d1 : decide ((k : Int) < (e.names.length : Int)) with
    | true =>
     have hlt : k < e.names.length := by simpa using d1
     have g0 := getD_map pS e.names k hlt
     have hi : IntKind.i64.wrap ((k : Int) + 1) = ((k + 1 : Nat) : Int) := by rw [wrap64 (by omega)]; omega
     have hme : numOf (f 66) = k := by rw [f66]; exact Int.toNat_natCast k
     have hc2 := hcn e.names[k] (hcc _ (List.getElem_mem hlt))
     (repeat (first | refine aSeq fun X hX => ?_ | apply aBlk | refine aSkip ?_ | (first | refine aExit ?_ | refine aRet ?_); try simp only [slx, ↓reduceIte, jA, reduceCtorEq] | (first | apply aReg | refine aDrE ?_ | apply aIf); simp -implicitDefEqProofs only [↓slp, ↓reduceIte, reduceCtorEq, jA, jF, jJ, Ya, f0, f9, f64, f65, f66, pI, d1, g0]; try simp only [fo] | apply hX; clear hX X | clear hX X; apply hX; clear hX X | intro hlen; unfold maxLen at hlen | apply And.intro; · first | assumption | and_intros <;> first | omega | assumption))
     refine callE (hc2 _) ?_
     simp -implicitDefEqProofs only [↓slp, ↓reduceIte, reduceCtorEq, jA, jF, jJ, Ya, f0, f9, f64, f65, f66, pI, pB]; try simp only [fo]
     (repeat (first | refine aSeq fun X hX => ?_ | apply aBlk | refine aSkip ?_ | (first | refine aExit ?_ | refine aRet ?_); try simp only [slx, ↓reduceIte, jA, reduceCtorEq] | (first | apply aReg | refine aDrE ?_ | apply aIf); simp -implicitDefEqProofs only [↓slp, ↓reduceIte, reduceCtorEq, jA, jF, jJ, Ya, f66, pI, hi]; try simp only [fo] | apply hX; clear hX X | clear hX X; apply hX; clear hX X | intro hlen; unfold maxLen at hlen | apply And.intro; · first | assumption | and_intros <;> first | omega | assumption))
     rw [hJ]
     exact ⟨⟨k + 1, hlt, f0, rfl, f64, f65, rfl, rfl⟩, by omega⟩
    | false =>
     (repeat (first | refine aSeq fun X hX => ?_ | apply aBlk | refine aSkip ?_ | (first | refine aExit ?_ | refine aRet ?_); try simp only [slx, ↓reduceIte, jA, reduceCtorEq] | (first | apply aReg | refine aDrE ?_ | apply aIf); simp -implicitDefEqProofs only [↓slp, ↓reduceIte, reduceCtorEq, jA, jF, jJ, Ya, f0, f9, f64, f65, f66, pI, d1]; try simp only [fo] | apply hX; clear hX X | clear hX X; apply hX; clear hX X | intro hlen; unfold maxLen at hlen | apply And.intro; · first | assumption | and_intros <;> first | omega | assumption))
     simp only [aPost, Tryd.results72, aRes_n, aRes_t, aRes_c, pack_one, pack_two]
     exact leave_same rfl ⟨rfl, rfl⟩
   ·
    have c4 : (e.kind == 4) = false := by simp [hk]
    have c5 : (e.kind == 5) = false := by simp [hk]
    have c3 : (e.kind == 3) = false := by simp [hk]
    have c12 : (e.kind == 12) = false := by simp [hk]
    have c13 : (e.kind == 13) = true := by simp [hk]
    have d0 : decide ((j : Int) ≥ 0) = true := by simp
    have hfv2 := hfv e.name
    rw [hfj] at hfv2
    (repeat (first | refine aSeq fun X hX => ?_ | apply aBlk | refine aSkip ?_ | (first | refine aExit ?_ | refine aRet ?_); try simp only [slx, ↓reduceIte, jA, reduceCtorEq] | (first | apply aReg | refine aDrE ?_ | apply aIf); simp -implicitDefEqProofs only [↓slp, ↓reduceIte, reduceCtorEq, jA, jF, jJ, Ya, f0, f4, f5, f13, f14, f15, pI, c0, c4, c5, c3, c12, c13]; try simp only [fo] | apply hX; clear hX X | clear hX X; apply hX; clear hX X | intro hlen; unfold maxLen at hlen | apply And.intro; · first | assumption | and_intros <;> first | omega | assumption))
    refine callE (hfv2 _) ?_
    simp -implicitDefEqProofs only [↓slp, ↓reduceIte, reduceCtorEq, jA, jF, jJ, Ya, f0, f4, f5, f13, f14, f15, pI, c0, c4, c5, c3, c12, c13, d0]; try simp only [fo]
    (repeat (first | refine aSeq fun X hX => ?_ | apply aBlk | refine aSkip ?_ | (first | refine aExit ?_ | refine aRet ?_); try simp only [slx, ↓reduceIte, jA, reduceCtorEq] | (first | apply aReg | refine aDrE ?_ | apply aIf); simp -implicitDefEqProofs only [↓slp, ↓reduceIte, reduceCtorEq, jA, jF, jJ, Ya, f0, f4, f5, f13, f14, f15, pI, c0, c4, c5, c3, c12, c13, d0]; try simp only [fo] | apply hX; clear hX X | clear hX X; apply hX; clear hX X | intro hlen; unfold maxLen at hlen | apply And.intro; · first | assumption | and_intros <;> first | omega | assumption))
    obtain ⟨J, hJ⟩ : ∃ J : F → M → Prop, ∀ f m', J f m' = (∃ k : Nat, k ≤ e.names.length ∧ f 0 = .ep [.sl .no [.ag [.v (.string sCol), .sl .no [pS sRed, pS sGreen, pS sBlue], .v (.int .i64 0), .v (.int .i64 0)]], .sl .no (ns.map No.pv)] ∧ f 9 = .v (.bool true) ∧ f 64 = .sl .no (e.names.map pS) ∧ f 65 = pI e.names.length ∧ f 66 = pI k ∧ m = m') := ⟨_, fun _ _ => rfl⟩
    refine aLoop J (fun f m => e.names.length - numOf (f 66)) ?_ ?_
    ·rw [hJ]; exact ⟨0, by omega, f0, rfl, rfl, rfl, rfl, rfl⟩
    clear f0 f4 f5 f13 f14 f15
    intro f m' hrel
    rw [hJ] at hrel
    obtain ⟨k, hk', f0, f9, f64, f65, f66, rfl⟩ := hrel
    cases d1 : decide ((k : Int) < (e.names.length : Int)) with
    | true =>
     have hlt : k < e.names.length := by simpa using d1
     have g0 := getD_map pS e.names k hlt
     have hi : IntKind.i64.wrap ((k : Int) + 1) = ((k + 1 : Nat) : Int) := by rw [wrap64 (by omega)]; omega
     have hme : numOf (f 66) = k := by rw [f66]; exact Int.toNat_natCast k
     have hc2 := hcn e.names[k] (hcc _ (List.getElem_mem hlt))
     (repeat (first | refine aSeq fun X hX => ?_ | apply aBlk | refine aSkip ?_ | (first | refine aExit ?_ | refine aRet ?_); try simp only [slx, ↓reduceIte, jA, reduceCtorEq] | (first | apply aReg | refine aDrE ?_ | apply aIf); simp -implicitDefEqProofs only [↓slp, ↓reduceIte, reduceCtorEq, jA, jF, jJ, Ya, f0, f9, f64, f65, f66, pI, d1, g0]; try simp only [fo] | apply hX; clear hX X | clear hX X; apply hX; clear hX X | intro hlen; unfold maxLen at hlen | apply And.intro; · first | assumption | and_intros <;> first | omega | assumption))
     refine callE (hc2 _) ?_
     simp -implicitDefEqProofs only [↓slp, ↓reduceIte, reduceCtorEq, jA, jF, jJ, Ya, f0, f9, f64, f65, f66, pI, pB]; try simp only [fo]
     (repeat (first | refine aSeq fun X hX => ?_ | apply aBlk | refine aSkip ?_ | (first | refine aExit ?_ | refine aRet ?_); try simp only [slx, ↓reduceIte, jA, reduceCtorEq] | (first | apply aReg | refine aDrE ?_ | apply aIf); simp -implicitDefEqProofs only [↓slp, ↓reduceIte, reduceCtorEq, jA, jF, jJ, Ya, f66, pI, hi]; try simp only [fo] | apply hX; clear hX X | clear hX X; apply hX; clear hX X | intro hlen; unfold maxLen at hlen | apply And.intro; · first | assumption | and_intros <;> first | omega | assumption))
     rw [hJ]
     exact ⟨⟨k + 1, hlt, f0, rfl, f64, f65, rfl, rfl⟩, by omega⟩
    | false =>
     (repeat (first | refine aSeq fun X hX => ?_ | apply aBlk | refine aSkip ?_ | (first | refine aExit ?_ | refine aRet ?_); try simp only [slx, ↓reduceIte, jA, reduceCtorEq] | (first | apply aReg | refine aDrE ?_ | apply aIf); simp -implicitDefEqProofs only [↓slp, ↓reduceIte, reduceCtorEq, jA, jF, jJ, Ya, f0, f9, f64, f65, f66, pI, d1]; try simp only [fo] | apply hX; clear hX X | clear hX X; apply hX; clear hX X | intro hlen; unfold maxLen at hlen | apply And.intro; · first | assumption | and_intros <;> first | omega | assumption))
     simp only [aPost, Tryd.results72, aRes_n, aRes_t, aRes_c, pack_one, pack_two]
     exact leave_same rfl ⟨rfl, rfl⟩
theorem exN_any (ns : List No) {E : List Va} {e : Ex} (h : NmE E e) : ExN ns E e := by
 induction h with
 | mk _ hf ih => exact exN_step ns E ih hf
end Go.Proofs.YteiaedmipkcfeaaDoor

/-
 States with the same boxes; what leaves with tokens within.
-/
set_option linter.unusedVariables false
namespace Go.Proofs.YteiaedmipkcfeaaDoor
open Go

def isB (m : M) (bs : List (Option (List PV))) (m2 : M) : Prop := ∃ ts, m2 = (⟨m.boxes, ts⟩ : M).ext bs
theorem isB_all {m : M} {bs : List (Option (List PV))} {Q : M → Prop} : (∀ m2, isB m bs m2 → Q m2) = ∀ ts, Q ((⟨m.boxes, ts⟩ : M).ext bs) :=
 propext ⟨fun h ts => h _ ⟨ts, rfl⟩, fun h m2 ⟨ts, e⟩ => e ▸ h ts⟩
theorem bt_nb {m : M} {ts : List (Option Nat)} : (⟨m.boxes, ts⟩ : M).nb = m.nb := rfl
theorem within2 {n k t : Nat} {xs ys : List PV} {o2 : Own} (h : t < k) (ho : o2 = .no ∨ o2 = .full) : (PV.ag [.sl (.tok t) xs, .sl o2 ys]).within n k = true := by
 rcases ho with rfl | rfl <;> simp [PV.within, PV.withins, h]
theorem leave_tok2 {m m1 : M} {bs : List (Option (List PV))} {v : PV} {R : PV → M → Prop} (h : Toks m m1) (hv : v.within m1.nb m1.nt = true) (hR : R v m1) : ∃ v' m', Leave m (m1.ext bs) v v' m' ∧ R v' m' :=
 ⟨v, m1, .gen v v m1 (.inl rfl) (by rw [h.nb]; exact Nat.le_refl _) h.nt (by simp [M.ext, M.nb]) (by simp [M.ext, M.nt]) (fun id c hc => .inl (by unfold M.get at hc ⊢; rw [← h.boxes]; exact hc)) hv, hR⟩
end Go.Proofs.YteiaedmipkcfeaaDoor

/-
 names: variables, ways.
-/
set_option linter.unusedVariables false
set_option linter.unusedSimpArgs false
namespace Go.Proofs.YteiaedmipkcfeaaDoor
open Nat renaming reduceEqDiff → jA, reduceAdd → jB, reduceMul → jC, reduceLT → jD, reduceLeDiff → jE, reduceBEq → jF, reduceBNe → jG
open Int renaming reduceLE → jH, reduceLT → jI, reduceToNat → jJ, reduceEq → jK
open Go
set_option maxRecDepth 20000


set_option maxHeartbeats 4000000 in
theorem varO_any (ns : List No) {E : List Va} {O : List Str} {v : Va} (o1 o2 : Own) (ho2 : o2 = .no ∨ o2 = .full) (hlen : E.length < 2 ^ 29) (hno : findVar E v.name = -1) (ht : v.t.kind = 3 → v.t.name = sCol) (hla : v.last = true → ∀ F, NmE F v.first) (m : M) :
    ACalls Tryd.prog 46 [lkP ns, .ag [.sl o1 (E.map Va.pv), .sl o2 (O.map pS)], v.pv] m (fun x m' => ∃ t, x = .ag [.sl (.tok t) ((E ++ [v]).map Va.pv), .sl o2 (O.map pS)] ∧ Toks m m' ∧ t < m'.nt) := by
 have hx := fun (h : v.last = true) => exN_any ns (hla h E) O
 have hfv := fun (m : M) => findVar_any o1 E v.name m
 rw [hno] at hfv
 have hfe := fun (m : M) => findEnum_C m
 obtain ⟨d, hd, hd1, hd2⟩ : ∃ d : TD, tdat Tryd.prog 67 = some d ∧ d.sz = 15 ∧ d.by_ ≤ 400 := ⟨(tdat Tryd.prog 67).get (by kernel_rfl), (Option.some_get _).symm, by kernel_rfl, of_decide_eq_true (by kernel_rfl)⟩
 have hcl := fun m => clone_73 o1 (E.map Va.pv) m d hd (by rw [hd1]; exact va_len E) (by simp; unfold maxLen; omega) (by simp; have := Nat.mul_le_mul (Nat.le_of_lt hlen) hd2; omega)
 rw [hd1] at hcl
 unfold ExN at hx
 unfold lkP scN colC at *
 have cneg : decide ((-1 : Int) ≥ 0) = false := rfl
 have cneg2 : decide ((0 : Int) < 0) = false := rfl
 have hmx : E.length + 1 ≤ maxLen := by unfold maxLen; omega
 have hvl := va_len E
 have t1 : Toks m (m.fresh 15) := (Toks.refl m).use (o := .full) (s := 15) (s' := 15) .full
 have m1 : Mine m (m.fresh 15) (.tok m.nt) 15 := Mine.new (o := .full) (Toks.refl m) 15
 have hal := m1.free
 have t2 := t1.use (s := 15) m1
 have hlt : (m.fresh 15).nt < (((Own.tok m.nt).use (m.fresh 15)).fresh 15).nt := by simp [M.fresh, M.nt, Own.use, M.kill]
 cases dt : (v.t.kind == 3) <;> cases hl : v.last
 all_goals
  try have hn := ht (by simpa using dt)
  refine ACalls.enter (mu := [4, 6]) ok_mix Tryd.func46 rfl (by kernel_rfl) (by kernel_rfl) (by simp only [List.length_cons, List.length_nil, Tryd.ntmps46]; omega) ?_
  (repeat (first | refine aSeq fun X hX => ?_ | apply aBlk | refine aSkip ?_ | (first | refine aExit ?_ | refine aRet ?_); try simp only [slx, ↓reduceIte, jA, reduceCtorEq] | (first | apply aReg | apply aIf); simp -implicitDefEqProofs only [↓slp, ↓reduceIte, reduceCtorEq, jA, jB, jC, jE, jF, Ya]; try simp only [fo] | apply hX; clear hX X | clear hX X; apply hX; clear hX X | apply And.intro; · first | assumption | and_intros <;> first | omega | assumption))
  refine callE (hfv _) ?_
  simp -implicitDefEqProofs only [↓slp, ↓reduceIte, reduceCtorEq, jA, jB, jC, jE, jF, Ya, pI, cneg]; try simp only [fo]
  (repeat (first | refine aSeq fun X hX => ?_ | apply aBlk | refine aSkip ?_ | (first | refine aExit ?_ | refine aRet ?_); try simp only [slx, ↓reduceIte, jA, reduceCtorEq] | (first | apply aReg | apply aIf); simp -implicitDefEqProofs only [↓slp, ↓reduceIte, reduceCtorEq, jA, jB, jC, jE, jF, Ya, cneg]; try simp only [fo] | apply hX; clear hX X | clear hX X; apply hX; clear hX X | apply And.intro; · first | assumption | and_intros <;> first | omega | assumption))
  first
   | (repeat (first | refine aSeq fun X hX => ?_ | apply aBlk | refine aSkip ?_ | (first | refine aExit ?_ | refine aRet ?_); try simp only [slx, ↓reduceIte, jA, reduceCtorEq] | (first | apply aReg | refine aDrE ?_ | apply aIf); simp -implicitDefEqProofs only [↓slp, ↓reduceIte, reduceCtorEq, jA, jB, jC, jE, jF, Ya, dt, hn, hl]; try simp only [fo] | apply hX; clear hX X | clear hX X; apply hX; clear hX X | apply And.intro; · first | assumption | and_intros <;> first | omega | assumption))
     refine callE (hfe _) ?_
     simp -implicitDefEqProofs only [↓slp, ↓reduceIte, reduceCtorEq, jA, jB, jC, jE, jF, Ya, pI, cneg2, dt, hn, hl]; try simp only [fo]
   | refine aDrw (fun _ => True) (by kernel_rfl) trivial ?_; simp -implicitDefEqProofs only [eq_self, ↓slp, ↓reduceIte, reduceCtorEq, jA, jB, jC, jE, jF, Ya, dt]; try simp only [fo]
  (repeat (first | refine aSeq fun X hX => ?_ | apply aBlk | refine aSkip ?_ | (first | refine aExit ?_ | refine aRet ?_); try simp only [slx, ↓reduceIte, jA, reduceCtorEq] | (first | apply aReg | apply aIf); simp -implicitDefEqProofs only [↓slp, ↓reduceIte, reduceCtorEq, jA, jB, jC, jE, jF, Ya, dt, hl]; try simp only [fo] | apply hX; clear hX X | clear hX X; apply hX; clear hX X | apply And.intro; · first | assumption | and_intros <;> first | omega | assumption))
  try (
   refine callMS (hx hl _) (by simp only [List.map_cons, List.map_nil, PV.settle, PV.settles, Ex.settle_pv]) ?_
   rintro vv mv ⟨rfl, rfl⟩
   (repeat (first | refine aSeq fun X hX => ?_ | apply aBlk | refine aSkip ?_ | (first | refine aExit ?_ | refine aRet ?_); try simp only [slx, ↓reduceIte, jA, reduceCtorEq] | (first | apply aReg | apply aIf); simp -implicitDefEqProofs only [↓slp, ↓reduceIte, reduceCtorEq, jA, jB, jC, jE, jF, Ya, hl]; try simp only [fo] | apply hX; clear hX X | clear hX X; apply hX; clear hX X | apply And.intro; · first | assumption | and_intros <;> first | omega | assumption)))
  refine aDrwE (isB m [some [PV.sl o1 (E.map Va.pv), PV.sl o2 (O.map pS)], some [PV.sl .full [], PV.sl .full []]]) (hne := List.cons_ne_nil _ _) rfl (by kernel_rfl) (by kernel_rfl) ⟨m.toks, rfl⟩ ?_
  simp -implicitDefEqProofs only [↓slp, ↓reduceIte, reduceCtorEq, jA, jB, jC, jE, jF, Ya, hl, isB_all, bt_nb, forall_const, List.dropLast_cons_cons, List.dropLast_singleton, List.getLast_cons_cons, List.getLast_singleton, List.set_cons_succ, List.set_cons_zero, List.getElem?_cons_succ, List.getElem?_cons_zero]; try simp only [fo]
  refine callM (hcl _) ?_
  rintro w mw ⟨rfl, rfl⟩
  refine ⟨⟨m.toks ++ [some 15], rfl⟩, ?_⟩
  simp -implicitDefEqProofs only [↓slp, ↓reduceIte, reduceCtorEq, jA, jB, jC, jE, jF, Ya, hl, isB_all, bt_nb, forall_const, List.dropLast_cons_cons, List.dropLast_singleton, List.getLast_cons_cons, List.getLast_singleton, List.set_cons_succ, List.set_cons_zero, List.getElem?_cons_succ, List.getElem?_cons_zero]; try simp only [fo]
  refine ⟨⟨hal, hvl, hmx, by omega⟩, ⟨_, rfl⟩, ?_⟩
  (repeat (first | refine aSeq fun X hX => ?_ | apply aBlk | refine aSkip ?_ | (first | refine aExit ?_ | refine aRet ?_); try simp only [slx, ↓reduceIte, jA, reduceCtorEq] | (first | apply aReg | apply aIf); simp -implicitDefEqProofs only [↓slp, ↓reduceIte, reduceCtorEq, jA, jB, jC, jE, jF, Ya, hl, List.set_cons_succ, List.set_cons_zero]; try simp only [fo] | apply hX; clear hX X | clear hX X; apply hX; clear hX X | apply And.intro; · first | assumption | and_intros <;> first | omega | assumption))
  simp only [aPost, Tryd.results46, aRes_n, aRes_t, aRes_c, pack_one, pack_two]
  simp -implicitDefEqProofs only [↓slp, ↓reduceIte, reduceCtorEq, jA, jB, jC, jE, jF, Ya, List.set_cons_succ, List.set_cons_zero]; try simp only [fo]
  refine leave_tok2 t2 (within2 hlt ho2) ⟨_, ?_, t2, hlt⟩
  first
   | simp only [List.map_append, List.map_cons, List.map_nil, Va.pv, Va.cs, hl, hn]
   | simp only [List.map_append, List.map_cons, List.map_nil, Va.pv, Va.cs, hl]
theorem varN_any (ns : List No) {E : List Va} {O : List Str} {v : Va} (hlen : E.length < 2 ^ 29) (hno : findVar E v.name = -1) (ht : v.t.kind = 3 → v.t.name = sCol) (hla : v.last = true → ∀ F, NmE F v.first) (m : M) :
    ACalls Tryd.prog 46 [lkP ns, scN E O, v.pv] m (fun x m' => x = scN (E ++ [v]) O ∧ m' = m) :=
 ACalls.leave (varO_any ns .no .no (.inl rfl) hlen hno ht hla m) (fun x m' ⟨t, h1, h2, _⟩ => by subst h1; exact leave_toks0 h2 rfl ⟨rfl, rfl⟩)
end Go.Proofs.YteiaedmipkcfeaaDoor

/-
 names: arms by their names, ways.
-/
set_option linter.unusedVariables false
set_option linter.unusedSimpArgs false
namespace Go.Proofs.YteiaedmipkcfeaaDoor
open Nat renaming reduceEqDiff → jA, reduceAdd → jB, reduceMul → jC, reduceLT → jD, reduceLeDiff → jE, reduceBEq → jF, reduceBNe → jG
open Int renaming reduceLE → jH, reduceLT → jI, reduceToNat → jJ, reduceEq → jK
open Go
set_option maxRecDepth 20000



set_option maxRecDepth 20000 in
set_option maxHeartbeats 1000000 in
theorem idxAm_any (o : Own) (l : List Am) (p : Am → Bool) (g : FuncId) (c : PV) (m : M) (hf : ∀ k (hk : k < l.length) (m : M), ACalls Tryd.prog g [Am.pv l[k], c] m (fun v m' => v = pB (p l[k]) ∧ m' = m)) :
    ACalls Tryd.prog 110 [.sl o (l.map (Am.pv)), .fn (.func g) [] [c]] m (fun v m' => v = pI (idxF p l 0) ∧ m' = m) := by
 have hf' := hf
 simp only [Am.pv_eq, Am.cs] at hf'
 refine ACalls.enter (mu := []) ok_mix Tryd.func110 rfl (by kernel_rfl) (by kernel_rfl) (by simp only [List.length_cons, List.length_nil, Tryd.ntmps110]; omega) ?_
 (repeat (first | refine aSeq fun X hX => ?_ | apply aBlk | refine aSkip ?_ | (first | refine aExit ?_ | refine aRet ?_); try simp only [slx, ↓reduceIte, jA, reduceCtorEq] | (first | apply aReg | refine aDrE ?_); simp -implicitDefEqProofs only [↓slp, ↓reduceIte, reduceCtorEq, jA, jF, Ya]; try simp only [fo] | apply hX; clear hX X | clear hX X; apply hX; clear hX X | intro hlen; unfold maxLen at hlen | apply And.intro; · first | assumption | and_intros <;> first | omega | assumption))
 obtain ⟨I, hI⟩ : ∃ I : F → M → Prop, ∀ f m', I f m' = (∃ k : Nat, k ≤ l.length ∧ f 0 = .sl o (l.map (Am.pv)) ∧ f 1 = .fn (.func g) [] [c] ∧ f 7 = pI l.length ∧ f 8 = pI k ∧ idxF p l 0 = idxF p (l.drop k) k ∧ m' = m) := ⟨_, fun _ _ => rfl⟩
 refine aLoop I (fun f m => l.length - numOf (f 8)) ?_ ?_
 ·rw [hI]; exact ⟨0, by omega, rfl, rfl, rfl, rfl, rfl, rfl⟩
 intro f m' hrel
 rw [hI] at hrel
 obtain ⟨k, hk, h0, h1, h7, h8, hs, rfl⟩ := hrel
 (repeat (first | refine aSeq fun X hX => ?_ | apply aBlk | refine aSkip ?_ | (first | refine aExit ?_ | refine aRet ?_); try simp only [slx, ↓reduceIte, jA, reduceCtorEq] | (first | apply aReg | refine aDrE ?_); simp -implicitDefEqProofs only [↓slp, ↓reduceIte, reduceCtorEq, jA, jF, Ya, h0, h1, h7, h8, pI]; try simp only [fo] | apply hX; clear hX X | clear hX X; apply hX; clear hX X | intro hlen; unfold maxLen at hlen | apply And.intro; · first | assumption | and_intros <;> first | omega | assumption))
 refine aIf ?_; simp -implicitDefEqProofs only [↓slp, slb, ↓reduceIte, reduceCtorEq, jA, jF]; refine ⟨fun hb => ?_, fun hb => ?_⟩
 ·have hlt : k < l.length := by simpa using hb
  have g0 := getD_map (Am.pv) l k hlt
  have hi : IntKind.i64.wrap ((k : Int) + 1) = ((k + 1 : Nat) : Int) := by rw [wrap64 (by omega)]; omega
  have hd := idxF_drop (p := p) hlt
  (repeat (first | refine aSeq fun X hX => ?_ | apply aBlk | refine aSkip ?_ | (first | refine aExit ?_ | refine aRet ?_); try simp only [slx, ↓reduceIte, jA, reduceCtorEq] | (first | apply aReg | refine aDrE ?_); simp -implicitDefEqProofs only [↓slp, ↓reduceIte, reduceCtorEq, jA, jF, Ya, h0, h1, h7, h8, pI, g0]; try simp only [fo] | apply hX; clear hX X | clear hX X; apply hX; clear hX X | intro hlen; unfold maxLen at hlen | apply And.intro; · first | assumption | and_intros <;> first | omega | assumption))
  refine callE (hf' k hlt _) ?_
  simp -implicitDefEqProofs only [↓slp, ↓reduceIte, reduceCtorEq, jA, jF, Ya, h0, h1, h7, h8, pI, pB]; try simp only [fo]
  cases c1 : p l[k] with
  | true =>
   (repeat (first | refine aSeq fun X hX => ?_ | apply aBlk | refine aSkip ?_ | (first | refine aExit ?_ | refine aRet ?_); try simp only [slx, ↓reduceIte, jA, reduceCtorEq] | (first | apply aReg | refine aDrE ?_); simp -implicitDefEqProofs only [↓slp, ↓reduceIte, reduceCtorEq, jA, jF, Ya, h0, h1, h7, h8, pI, g0, c1]; try simp only [fo] | apply hX; clear hX X | clear hX X; apply hX; clear hX X | intro hlen; unfold maxLen at hlen | apply And.intro; · first | assumption | and_intros <;> first | omega | assumption))
   refine aIf ?_; simp -implicitDefEqProofs only [↓slp, slb, ↓reduceIte, reduceCtorEq, jA, jF, c1]
   (repeat (first | refine aSeq fun X hX => ?_ | apply aBlk | refine aSkip ?_ | (first | refine aExit ?_ | refine aRet ?_); try simp only [slx, ↓reduceIte, jA, reduceCtorEq] | (first | apply aReg | refine aDrE ?_); simp -implicitDefEqProofs only [↓slp, ↓reduceIte, reduceCtorEq, jA, jF, Ya]; try simp only [fo] | apply hX; clear hX X | clear hX X; apply hX; clear hX X | intro hlen; unfold maxLen at hlen | apply And.intro; · first | assumption | and_intros <;> first | omega | assumption))
   simp only [aPost, Tryd.results110, aRes_n, aRes_t, aRes_c, pack_one, pack_two]
   refine leave_same rfl ⟨?_, rfl⟩
   have hv : idxF p l 0 = (k : Int) := by rw [hs, hd]; simp [c1]
   rw [hv]; rfl
  | false =>
   (repeat (first | refine aSeq fun X hX => ?_ | apply aBlk | refine aSkip ?_ | (first | refine aExit ?_ | refine aRet ?_); try simp only [slx, ↓reduceIte, jA, reduceCtorEq] | (first | apply aReg | refine aDrE ?_); simp -implicitDefEqProofs only [↓slp, ↓reduceIte, reduceCtorEq, jA, jF, Ya, h0, h1, h7, h8, pI, g0, c1]; try simp only [fo] | apply hX; clear hX X | clear hX X; apply hX; clear hX X | intro hlen; unfold maxLen at hlen | apply And.intro; · first | assumption | and_intros <;> first | omega | assumption))
   refine aIf ?_; simp -implicitDefEqProofs only [↓slp, slb, ↓reduceIte, reduceCtorEq, jA, jF, c1]
   (repeat (first | refine aSeq fun X hX => ?_ | apply aBlk | refine aSkip ?_ | (first | refine aExit ?_ | refine aRet ?_); try simp only [slx, ↓reduceIte, jA, reduceCtorEq] | (first | apply aReg | refine aDrE ?_); simp -implicitDefEqProofs only [↓slp, ↓reduceIte, reduceCtorEq, jA, jF, Ya, h0, h1, h7, h8, pI, hi]; try simp only [fo] | apply hX; clear hX X | clear hX X; apply hX; clear hX X | intro hlen; unfold maxLen at hlen | apply And.intro; · first | assumption | and_intros <;> first | omega | assumption))
   rw [hI]
   refine ⟨⟨k + 1, hlt, h0, h1, h7, rfl, by rw [hs, hd]; simp [c1], rfl⟩, ?_⟩
   first | omega | (simp only [↓slp, slb, ↓reduceIte, reduceCtorEq, jA, jF, h8, pI]; omega)
 ·have hlt : k = l.length := by simp at hb; omega
  subst hlt
  (repeat (first | refine aSeq fun X hX => ?_ | apply aBlk | refine aSkip ?_ | (first | refine aExit ?_ | refine aRet ?_); try simp only [slx, ↓reduceIte, jA, reduceCtorEq] | (first | apply aReg | refine aDrE ?_); simp -implicitDefEqProofs only [↓slp, ↓reduceIte, reduceCtorEq, jA, jF, Ya]; try simp only [fo] | apply hX; clear hX X | clear hX X; apply hX; clear hX X | intro hlen; unfold maxLen at hlen | apply And.intro; · first | assumption | and_intros <;> first | omega | assumption))
  simp only [aPost, Tryd.results110, aRes_n, aRes_t, aRes_c, pack_one, pack_two]
  refine leave_same rfl ⟨?_, rfl⟩
  have hv : idxF p l 0 = -1 := by rw [hs]; simp [idxF]
  rw [hv]; rfl

set_option maxHeartbeats 1000000 in
theorem conAm_any (o : Own) (l : List Am) (p : Am → Bool) (g : FuncId) (c : PV) (m : M) (hf : ∀ k (hk : k < l.length) (m : M), ACalls Tryd.prog g [Am.pv l[k], c] m (fun v m' => v = pB (p l[k]) ∧ m' = m)) :
    ACalls Tryd.prog 100 [.sl o (l.map Am.pv), .fn (.func g) [] [c]] m (fun v m' => v = pB (decide (idxF p l 0 ≥ 0)) ∧ m' = m) := by
 have hx := fun (o : Own) m => idxAm_any o l p g c m hf
 refine ACalls.enter (mu := []) ok_mix Tryd.func100 rfl (by kernel_rfl) (by kernel_rfl) (by simp only [List.length_cons, List.length_nil, Tryd.ntmps100]; omega) ?_
 (repeat (first | refine aSeq fun X hX => ?_ | apply aBlk | refine aSkip ?_ | (first | refine aExit ?_ | refine aRet ?_); try simp only [slx, ↓reduceIte, jA, reduceCtorEq] | (first | apply aReg | refine aDrE ?_); simp -implicitDefEqProofs only [↓slp, ↓reduceIte, reduceCtorEq, jA, jF, Ya]; try simp only [fo] | apply hX; clear hX X | clear hX X; apply hX; clear hX X | intro hlen; unfold maxLen at hlen | apply And.intro; · first | assumption | and_intros <;> first | omega | assumption))
 refine callE (hx _ _) ?_
 simp -implicitDefEqProofs only [↓slp, ↓reduceIte, reduceCtorEq, jA, jF, Ya, pI]; try simp only [fo]
 (repeat (first | refine aSeq fun X hX => ?_ | apply aBlk | refine aSkip ?_ | (first | refine aExit ?_ | refine aRet ?_); try simp only [slx, ↓reduceIte, jA, reduceCtorEq] | (first | apply aReg | refine aDrE ?_); simp -implicitDefEqProofs only [↓slp, ↓reduceIte, reduceCtorEq, jA, jF, Ya]; try simp only [fo] | apply hX; clear hX X | clear hX X; apply hX; clear hX X | intro hlen; unfold maxLen at hlen | apply And.intro; · first | assumption | and_intros <;> first | omega | assumption))
 simp only [aPost, Tryd.results100, aRes_n, aRes_t, aRes_c, pack_one, pack_two]
 exact leave_same rfl ⟨rfl, rfl⟩
theorem idxF_yes {α : Type} {p : α → Bool} {l : List α} (h : ∃ x ∈ l, p x = true) : decide (idxF p l 0 ≥ 0) = true := by
 rcases idxF_at (p := p) l 0 with ⟨_, h2⟩ | ⟨k, hk, h1, _⟩
 ·obtain ⟨x, hx, hp⟩ := h
  rw [h2 x hx] at hp; cases hp
 ·rw [h1]; simp
theorem idxF_no {α : Type} {p : α → Bool} {l : List α} (h : ∀ x ∈ l, p x = false) : decide (idxF p l 0 ≥ 0) = false := by
 rcases idxF_at (p := p) l 0 with ⟨h1, _⟩ | ⟨k, hk, _, h2, _⟩
 ·rw [h1]; rfl
 ·rw [h _ (List.getElem_mem hk)] at h2; cases h2
set_option maxHeartbeats 1000000 in
theorem wayC (b : Am) (t : Tr) (m : M) : ACalls Tryd.prog 111 [b.pv, .ep t.cs] m (fun v m' => v = pB (eqS b.name t.to) ∧ m' = m) := by
 refine ACalls.enter (mu := []) ok_mix Tryd.func111 rfl (by kernel_rfl) (by kernel_rfl) (by simp only [List.length_cons, List.length_nil, Tryd.ntmps111]; omega) ?_
 (repeat (first | refine aSeq fun X hX => ?_ | apply aBlk | refine aSkip ?_ | (first | refine aExit ?_ | refine aRet ?_); try simp only [slx, ↓reduceIte, jA, reduceCtorEq] | (first | apply aReg | refine aDrE ?_); simp -implicitDefEqProofs only [↓slp, ↓reduceIte, reduceCtorEq, jA, jF, Ya]; try simp only [fo] | apply hX; clear hX X | clear hX X; apply hX; clear hX X | intro hlen; unfold maxLen at hlen | apply And.intro; · first | assumption | and_intros <;> first | omega | assumption))
 simp only [aPost, Tryd.results111, aRes_n, aRes_t, aRes_c, pack_one, pack_two]
 exact leave_same rfl ⟨rfl, rfl⟩
set_option maxHeartbeats 1000000 in
theorem armC (b a : Am) (m : M) : ACalls Tryd.prog 101 [b.pv, .ep a.cs] m (fun v m' => v = pB (eqS b.name a.name) ∧ m' = m) := by
 refine ACalls.enter (mu := []) ok_mix Tryd.func101 rfl (by kernel_rfl) (by kernel_rfl) (by simp only [List.length_cons, List.length_nil, Tryd.ntmps101]; omega) ?_
 (repeat (first | refine aSeq fun X hX => ?_ | apply aBlk | refine aSkip ?_ | (first | refine aExit ?_ | refine aRet ?_); try simp only [slx, ↓reduceIte, jA, reduceCtorEq] | (first | apply aReg | refine aDrE ?_); simp -implicitDefEqProofs only [↓slp, ↓reduceIte, reduceCtorEq, jA, jF, Ya]; try simp only [fo] | apply hX; clear hX X | clear hX X; apply hX; clear hX X | intro hlen; unfold maxLen at hlen | apply And.intro; · first | assumption | and_intros <;> first | omega | assumption))
 simp only [aPost, Tryd.results101, aRes_n, aRes_t, aRes_c, pack_one, pack_two]
 exact leave_same rfl ⟨rfl, rfl⟩
set_option maxHeartbeats 4000000 in
theorem waysN_any (ns : List No) {E : List Va} (O : List Str) (q : Qu) (l : List Tr) (hl : NmW E (q.arms.map Am.name) l) (m : M) : ACalls Tryd.prog 102 [lkP ns, scN E O, q.pv, .sl .no (l.map Tr.pv)] m (unit m) := by
 have hx := fun (k : Nat) (h : k < l.length) => exN_any ns (hl l[k] (List.getElem_mem h)).1 O
 have hc := fun (k : Nat) (h : k < l.length) (m : M) => (show ACalls Tryd.prog 100 [.sl .no (q.arms.map Am.pv), .fn (.func 111) [] [.ep l[k].cs]] m (fun v m' => v = pB true ∧ m' = m) by
  have := conAm_any .no q.arms (fun b => eqS b.name l[k].to) 111 (.ep l[k].cs) m (fun j hj m => wayC q.arms[j] l[k] m)
  rwa [idxF_yes] at this
  have h2 := (hl l[k] (List.getElem_mem h)).2
  obtain ⟨a, ha, he⟩ := List.mem_map.1 h2
  exact ⟨a, ha, eqS_iff.2 he⟩)
 unfold ExN at hx
 simp only [Tr.cs] at hc
 unfold lkP scN colC at *
 refine ACalls.enter (mu := []) ok_mix Tryd.func102 rfl (by kernel_rfl) (by kernel_rfl) (by simp only [List.length_cons, List.length_nil, Tryd.ntmps102]; omega) ?_
 (repeat (first | refine aSeq fun X hX => ?_ | apply aBlk | refine aSkip ?_ | (first | refine aExit ?_ | refine aRet ?_); try simp only [slx, ↓reduceIte, jA, reduceCtorEq] | (first | apply aReg | apply aIf); simp -implicitDefEqProofs only [↓slp, ↓reduceIte, reduceCtorEq, jA, jF, Ya]; try simp only [fo] | apply hX; clear hX X | clear hX X; apply hX; clear hX X | intro hlen; unfold maxLen at hlen | apply And.intro; · first | assumption | and_intros <;> first | omega | assumption))
 obtain ⟨I, hI⟩ : ∃ I : F → M → Prop, ∀ f m', I f m' = (∃ k : Nat, k ≤ l.length ∧ f 0 = .ep [.sl .no [.ag [.v (.string sCol), .sl .no [pS sRed, pS sGreen, pS sBlue], .v (.int .i64 0), .v (.int .i64 0)]], .sl .no (ns.map No.pv)] ∧ f 5 = .ep [.sl .no (E.map Va.pv), .sl .no (O.map pS)] ∧ f 6 = .ep q.cs ∧ f 10 = .sl .no (l.map Tr.pv) ∧ f 11 = pI l.length ∧ f 12 = pI k ∧ m = m') := ⟨_, fun _ _ => rfl⟩
 refine aLoop I (fun f m => l.length - numOf (f 12)) ?_ ?_
 ·rw [hI]; exact ⟨0, by omega, rfl, rfl, rfl, rfl, rfl, rfl, rfl⟩
 intro f m' hrel
 rw [hI] at hrel
 obtain ⟨k, hk, f0, f5, f6, f10, f11, f12, rfl⟩ := hrel
 cases c1 : decide ((k : Int) < (l.length : Int)) with
 | true =>
  have hlt : k < l.length := by simpa using c1
  have g0 := getD_map Tr.pv l k hlt
  have hi : IntKind.i64.wrap ((k : Int) + 1) = ((k + 1 : Nat) : Int) := by rw [wrap64 (by omega)]; omega
  have hme : numOf (f 12) = k := by rw [f12]; exact Int.toNat_natCast k
  (repeat (first | refine aSeq fun X hX => ?_ | apply aBlk | refine aSkip ?_ | (first | refine aExit ?_ | refine aRet ?_); try simp only [slx, ↓reduceIte, jA, reduceCtorEq] | (first | apply aReg | apply aIf); simp -implicitDefEqProofs only [↓slp, ↓reduceIte, reduceCtorEq, jA, jF, Ya, f0, f5, f6, f10, f11, f12, pI, c1, g0]; try simp only [fo] | apply hX; clear hX X | clear hX X; apply hX; clear hX X | intro hlen; unfold maxLen at hlen | apply And.intro; · first | assumption | and_intros <;> first | omega | assumption))
  refine callMS (hx k hlt _) (by simp only [List.map_cons, List.map_nil, PV.settle, PV.settles, Ex.settle_pv]) ?_
  rintro v m' ⟨rfl, rfl⟩
  simp -implicitDefEqProofs only [↓slp, ↓reduceIte, reduceCtorEq, jA, jF, Ya, f6]; try simp only [fo]
  (repeat (first | refine aSeq fun X hX => ?_ | apply aBlk | refine aSkip ?_ | (first | refine aExit ?_ | refine aRet ?_); try simp only [slx, ↓reduceIte, jA, reduceCtorEq] | (first | apply aReg | apply aIf); simp -implicitDefEqProofs only [↓slp, ↓reduceIte, reduceCtorEq, jA, jF, Ya, f6]; try simp only [fo] | apply hX; clear hX X | clear hX X; apply hX; clear hX X | intro hlen; unfold maxLen at hlen | apply And.intro; · first | assumption | and_intros <;> first | omega | assumption))
  refine callE (hc k hlt _) ?_
  simp -implicitDefEqProofs only [↓slp, ↓reduceIte, reduceCtorEq, jA, jF, Ya, pB]; try simp only [fo]
  (repeat (first | refine aSeq fun X hX => ?_ | apply aBlk | refine aSkip ?_ | (first | refine aExit ?_ | refine aRet ?_); try simp only [slx, ↓reduceIte, jA, reduceCtorEq] | (first | apply aReg | apply aIf); simp -implicitDefEqProofs only [↓slp, ↓reduceIte, reduceCtorEq, jA, jF, Ya, f12, pI, hi]; try simp only [fo] | apply hX; clear hX X | clear hX X; apply hX; clear hX X | intro hlen; unfold maxLen at hlen | apply And.intro; · first | assumption | and_intros <;> first | omega | assumption))
  rw [hI]
  exact ⟨⟨k + 1, hlt, f0, f5, f6, f10, f11, rfl, rfl⟩, by omega⟩
 | false =>
  (repeat (first | refine aSeq fun X hX => ?_ | apply aBlk | refine aSkip ?_ | (first | refine aExit ?_ | refine aRet ?_); try simp only [slx, ↓reduceIte, jA, reduceCtorEq] | (first | apply aReg | apply aIf); simp -implicitDefEqProofs only [↓slp, ↓reduceIte, reduceCtorEq, jA, jF, Ya, f10, f11, f12, pI, c1]; try simp only [fo] | apply hX; clear hX X | clear hX X; apply hX; clear hX X | intro hlen; unfold maxLen at hlen | apply And.intro; · first | assumption | and_intros <;> first | omega | assumption))
  simp only [aPost, Tryd.results102, aRes_n, aRes_t, aRes_c, pack_one, pack_two]
  exact leave_same rfl ⟨rfl, rfl⟩
end Go.Proofs.YteiaedmipkcfeaaDoor
