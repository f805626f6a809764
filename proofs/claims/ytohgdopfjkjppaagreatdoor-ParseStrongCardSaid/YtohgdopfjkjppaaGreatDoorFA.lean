/-
 Texts that belong together: PsT, PsL, PsN.
-/
-- halved
import Derived.Test.YtohgdopfjkjppaaGreatDoorPdA
import Derived.Test.YtohgdopfjkjppaaGreatDoorQA
import Derived.Test.YtohgdopfjkjppaaGreatDoorIsA
/-
 What is one with itself: the reference's Same, SameAt; the law's places.
-/
set_option linter.unusedVariables false
set_option linter.unusedSimpArgs false
namespace Go.Proofs.YtohgdopfjkjppaaGreatDoor
open Nat renaming reduceEqDiff → jA, reduceAdd → jB, reduceMul → jC, reduceLT → jD, reduceLeDiff → jE, reduceBEq → jF, reduceBNe → jG
open Int renaming reduceLE → jH, reduceLT → jI, reduceToNat → jJ, reduceEq → jK
open Go
-- EXX: Va.settle_pv, Va.pure_pv, Va.cells_pv, Va.cs, Qu.settle_pv, Qu.pure_pv, Qu.cells_pv, Qu.cs, Am.settle_pv, Am.pure_pv, Am.cells_pv, Am.cs, Tr.settle_pv, Tr.pure_pv, Tr.cells_pv, Tr.cs, No.settle_pv, No.pure_pv, No.cells_pv, No.cs, No.pv.eq_1, En.settle_pv, En.pure_pv, En.cells_pv, En.cs
set_option maxRecDepth 20000
-- TNAMES: int; uint8; int32; string; bool; []string; []api.Expr; api.Expr; api.Pos; api.Type; api.On; []api.On; api.Var; []api.Var; api.Equation; []api.Equation; api.Block; api.Trans; []api.Trans; api.Arm; []api.Arm; api.Node; []api.Node; api.Enum; []api.Enum; api.Program
set_option linter.defProp false
def J4 := And.intro @slb (And.intro @tfA (And.intro @Ex.settle_pv (And.intro @Ex.pure_pv (And.intro @Ex.cells_pv (And.intro @Ex.cs.eq_1 (And.intro @On.pv.eq_1 (And.intro @Ty.pv.eq_1 (And.intro @Va.settle_pv (And.intro @Va.pure_pv (And.intro @Va.cells_pv (And.intro @Va.cs.eq_1 (And.intro @Qu.settle_pv (And.intro @Qu.pure_pv (And.intro @Qu.cells_pv (And.intro @Qu.cs.eq_1 (And.intro @Am.settle_pv (And.intro @Am.pure_pv (And.intro @Am.cells_pv (And.intro @Am.cs.eq_1 (And.intro @Tr.settle_pv (And.intro @Tr.pure_pv (And.intro @Tr.cells_pv (And.intro @Tr.cs.eq_1 (And.intro @No.settle_pv (And.intro @No.pure_pv (And.intro @No.cells_pv (And.intro @No.cs.eq_1 (And.intro @No.pv.eq_1 (And.intro @En.settle_pv (And.intro @En.pure_pv (And.intro @En.cells_pv @En.cs.eq_1)))))))))))))))))))))))))))))))

set_option maxHeartbeats 4000000 in
theorem sNs_any (l : List Str) (m : M) : ACalls Tryz.prog 53 [.sl .no (l.map pS), .sl .no (l.map pS)] m (fun v m' => v = pB true ∧ m' = m) := by
 refine ACalls.enter (mu := []) ok_mix Tryz.func53 rfl (by kernel_rfl) (by kernel_rfl) (by simp only [List.length_cons, List.length_nil, Tryz.ntmps53]; omega) ?_
 (repeat (first | refine aSeq fun X hX => ?_ | refine aBlk ?_ | refine aSkip ?_ | (first | apply aReg | apply aIf); simp -implicitDefEqProofs only [↓slp, ↓reduceIte, reduceCtorEq, jA, J4] | apply hX; clear hX X | intro hlen; unfold maxLen at hlen))
 obtain ⟨I1, hI1⟩ : ∃ I : F → M → Prop, ∀ f m', I f m' = (∃ k : Nat, k ≤ l.length ∧ f 0 = .sl .no (l.map pS) ∧ f 1 = .sl .no (l.map pS) ∧ f 5 = pI k ∧ m = m') := ⟨_, fun _ _ => rfl⟩
 refine aLoop I1 (fun f m => l.length - numOf (f 5)) ?_ ?_
 ·rw [hI1]; exact ⟨0, by omega, (by first | rfl | assumption), (by first | rfl | assumption), rfl, rfl⟩
 intro f m' hrel
 rw [hI1] at hrel
 obtain ⟨k1, hk1, h1_0, h1_1, z1, hm⟩ := hrel
 subst hm
 (repeat (first | refine aSeq fun X hX => ?_ | refine aReg ?_; simp -implicitDefEqProofs only [↓slp, ↓reduceIte, reduceCtorEq, jA, J4, h1_0, z1, pI] | apply hX; clear hX X | intro hlen; unfold maxLen at hlen))
 refine aIf ?_; simp -implicitDefEqProofs only [slb, ↓reduceIte]; refine ⟨fun hb => ?_, fun hb => ?_⟩
 ·have l1 : k1 < l.length := by simpa using hb
  have g1 := getD_map pS l k1 l1
  have i1 : IntKind.i64.wrap ((k1 : Int) + 1) = ((k1 + 1 : Nat) : Int) := by rw [wrap64 (by omega)]; omega
  have q1 : (0 : Int) ≤ (k1 : Int) := by omega
  (repeat (first | refine aSeq fun X hX => ?_ | refine aSkip ?_ | (first | apply aReg | refine aDrE ?_ | apply aIf); simp -implicitDefEqProofs only [↓slp, ↓reduceIte, reduceCtorEq, jA, jB, J4, h1_0, h1_1, z1, pI, g1, i1, l1, q1] | apply hX; clear hX X))
  skip
  rw [hI1]
  refine ⟨⟨k1 + 1, l1, h1_0, h1_1, rfl, rfl⟩, ?_⟩
  first | omega | (simp only [↓slp, slb, ↓reduceIte, reduceCtorEq, jA, jB, jC, jD, jE, jF, jG, jH, jI, jJ, jK, z1, pI, numOf, Int.toNat_natCast]; omega)
 ·clear hb
  (repeat (first | refine aSeq fun X hX => ?_ | (first | refine aExit ?_ | refine aRet ?_); try simp only [slx, ↓reduceIte, jA, reduceCtorEq] | refine aReg ?_; simp -implicitDefEqProofs only [↓slp, slb] | apply hX; clear hX X | clear hX X; apply hX; clear hX X))
  simp only [aPost, Tryz.results53, aRes_n, aRes_t, aRes_c, pack_one, pack_two]
  exact leave_same rfl ⟨rfl, rfl⟩
set_option maxHeartbeats 4000000 in
theorem sEx_any (a : Ex) : ∀ (m : M), ACalls Tryz.prog 24 [a.pv, a.pv] m (fun v m' => v = pB true ∧ m' = m) := by
 refine Ex.ind (motive := fun a => ∀ (m : M), ACalls Tryz.prog 24 [a.pv, a.pv] m (fun v m' => v = pB true ∧ m' = m)) (fun a IH => ?_) a
 intro m
 refine ACalls.enter (mu := []) ok_mix Tryz.func24 rfl (by kernel_rfl) (by kernel_rfl) (by simp only [List.length_cons, List.length_nil, Tryz.ntmps24]; omega) ?_
 (repeat (first | refine aSeq fun X hX => ?_ | refine aReg ?_; simp -implicitDefEqProofs only [↓slp, ↓reduceIte, reduceCtorEq, jA, jB, jE, J4]; try simp only [fo] | apply hX; clear hX X))
 refine callE (sNs_any a.names _) ?_
 simp -implicitDefEqProofs only [↓slp, ↓reduceIte, reduceCtorEq, jA, jB, jE, J4]; try simp only [fo]
 (repeat (first | refine aSeq fun X hX => ?_ | refine aBlk ?_ | refine aSkip ?_ | (first | apply aReg | apply aIf); simp -implicitDefEqProofs only [↓slp, ↓reduceIte, J4]; try simp only [fo] | apply hX; clear hX X))
 obtain ⟨I3, hI3⟩ : ∃ I : F → M → Prop, ∀ f m', I f m' = (∃ k : Nat, k ≤ a.kids.length ∧ f 2 = .ep a.cs ∧ f 3 = .ep a.cs ∧ f 5 = pI k ∧ m = m') := ⟨_, fun _ _ => rfl⟩
 refine aLoop I3 (fun f m => a.kids.length - numOf (f 5)) ?_ ?_
 ·rw [hI3]; exact ⟨0, by omega, (by first | rfl | assumption), (by first | rfl | assumption), rfl, rfl⟩
 intro f m' hrel
 rw [hI3] at hrel
 obtain ⟨k3, hk3, h3_2, h3_3, z3, hm⟩ := hrel
 subst hm
 (repeat (first | refine aSeq fun X hX => ?_ | refine aReg ?_; simp -implicitDefEqProofs only [↓slp, ↓reduceIte, reduceCtorEq, jA, jB, jE, J4, h3_2, z3, pI] | apply hX; clear hX X | intro hlen; unfold maxLen at hlen))
 refine aIf ?_; simp -implicitDefEqProofs only [slb, ↓reduceIte]; refine ⟨fun hb => ?_, fun hb => ?_⟩
 ·have l3 : k3 < a.kids.length := by simpa using hb
  have g3 := getD_map Ex.pv a.kids k3 l3
  have i3 : IntKind.i64.wrap ((k3 : Int) + 1) = ((k3 + 1 : Nat) : Int) := by rw [wrap64 (by omega)]; omega
  have q3 : (0 : Int) ≤ (k3 : Int) := by omega
  (repeat (first | refine aSeq fun X hX => ?_ | refine aSkip ?_ | refine aDrE ?_; simp -implicitDefEqProofs only [↓slp, ↓reduceIte, reduceCtorEq, jA, jB, jE, J4, h3_2, h3_3, z3, pI, g3, l3, q3]; try simp only [fo] | apply hX; clear hX X))
  refine callE (IH k3 l3 _) ?_
  simp -implicitDefEqProofs only [↓slp, slb, ↓reduceIte, z3, pI]; try simp only [fo]
  (repeat (first | refine aSkip ?_ | (first | apply aReg | apply aIf); simp -implicitDefEqProofs only [↓slp, ↓reduceIte, jA, J4, z3, pI, i3]; try simp only [fo] | apply hX; clear hX X))
  rw [hI3]
  refine ⟨⟨k3 + 1, l3, h3_2, h3_3, rfl, rfl⟩, ?_⟩
  first | omega | (simp only [↓slp, slb, ↓reduceIte, reduceCtorEq, jA, jB, jC, jD, jE, jF, jG, jH, jI, jJ, jK, z3, pI, numOf, Int.toNat_natCast]; omega)
 ·clear hb
  (repeat (first | refine aSeq fun X hX => ?_ | (first | refine aExit ?_ | refine aRet ?_); try simp only [slx, ↓reduceIte, jA, reduceCtorEq] | refine aReg ?_; simp -implicitDefEqProofs only [↓slp, slb] | apply hX; clear hX X | clear hX X; apply hX; clear hX X))
  simp only [aPost, Tryz.results24, aRes_n, aRes_t, aRes_c, pack_one, pack_two]
  exact leave_same rfl ⟨rfl, rfl⟩
set_option maxHeartbeats 4000000 in
theorem sAt_any (a : Ex) : ∀ (m : M), ACalls Tryz.prog 11 [a.pv, a.pv] m (fun v m' => v = pB true ∧ m' = m) := by
 refine Ex.ind (motive := fun a => ∀ (m : M), ACalls Tryz.prog 11 [a.pv, a.pv] m (fun v m' => v = pB true ∧ m' = m)) (fun a IH => ?_) a
 intro m
 refine ACalls.enter (mu := []) ok_mix Tryz.func11 rfl (by kernel_rfl) (by kernel_rfl) (by simp only [List.length_cons, List.length_nil, Tryz.ntmps11]; omega) ?_
 (repeat (first | refine aSeq fun X hX => ?_ | refine aBlk ?_ | refine aSkip ?_ | (first | apply aReg | apply aIf); simp -implicitDefEqProofs only [↓slp, ↓reduceIte, reduceCtorEq, jA, jB, jE, J4]; try simp only [fo] | apply hX; clear hX X))
 obtain ⟨I4, hI4⟩ : ∃ I : F → M → Prop, ∀ f m', I f m' = (∃ k : Nat, k ≤ a.kids.length ∧ f 2 = .ep a.cs ∧ f 3 = .ep a.cs ∧ f 5 = pI k ∧ m = m') := ⟨_, fun _ _ => rfl⟩
 refine aLoop I4 (fun f m => a.kids.length - numOf (f 5)) ?_ ?_
 ·rw [hI4]; exact ⟨0, by omega, (by first | rfl | assumption), (by first | rfl | assumption), rfl, rfl⟩
 intro f m' hrel
 rw [hI4] at hrel
 obtain ⟨k4, hk4, h4_2, h4_3, z4, hm⟩ := hrel
 subst hm
 (repeat (first | refine aSeq fun X hX => ?_ | refine aReg ?_; simp -implicitDefEqProofs only [↓slp, ↓reduceIte, reduceCtorEq, jA, jB, jE, J4, h4_2, z4, pI] | apply hX; clear hX X | intro hlen; unfold maxLen at hlen))
 refine aIf ?_; simp -implicitDefEqProofs only [slb, ↓reduceIte]; refine ⟨fun hb => ?_, fun hb => ?_⟩
 ·have l4 : k4 < a.kids.length := by simpa using hb
  have g4 := getD_map Ex.pv a.kids k4 l4
  have i4 : IntKind.i64.wrap ((k4 : Int) + 1) = ((k4 + 1 : Nat) : Int) := by rw [wrap64 (by omega)]; omega
  have q4 : (0 : Int) ≤ (k4 : Int) := by omega
  (repeat (first | refine aSeq fun X hX => ?_ | refine aSkip ?_ | refine aDrE ?_; simp -implicitDefEqProofs only [↓slp, ↓reduceIte, reduceCtorEq, jA, jB, jE, J4, h4_2, h4_3, z4, pI, g4, l4, q4]; try simp only [fo] | apply hX; clear hX X))
  refine callE (IH k4 l4 _) ?_
  simp -implicitDefEqProofs only [↓slp, slb, ↓reduceIte, z4, pI]; try simp only [fo]
  (repeat (first | refine aSkip ?_ | (first | apply aReg | apply aIf); simp -implicitDefEqProofs only [↓slp, ↓reduceIte, jA, J4, z4, pI, i4]; try simp only [fo] | apply hX; clear hX X))
  rw [hI4]
  refine ⟨⟨k4 + 1, l4, h4_2, h4_3, rfl, rfl⟩, ?_⟩
  first | omega | (simp only [↓slp, slb, ↓reduceIte, reduceCtorEq, jA, jB, jC, jD, jE, jF, jG, jH, jI, jJ, jK, z4, pI, numOf, Int.toNat_natCast]; omega)
 ·clear hb
  (repeat (first | refine aSeq fun X hX => ?_ | refine aExit ?_; try simp only [slx, ↓reduceIte, jA, reduceCtorEq] | refine aReg ?_; simp -implicitDefEqProofs only [↓slp, ↓reduceIte, jA, jB, jE, J4, h4_2, h4_3]; try simp only [fo] | clear hX X; apply hX; clear hX X))
  refine callE (sEx_any a _) ?_
  simp -implicitDefEqProofs only [↓slp, slb, ↓reduceIte]; try simp only [fo]
  (repeat (first | refine aRet ?_ | apply hX; clear hX X))
  simp only [aPost, Tryz.results11, aRes_n, aRes_t, aRes_c, pack_one, pack_two]
  exact leave_same rfl ⟨rfl, rfl⟩
end Go.Proofs.YtohgdopfjkjppaaGreatDoor

/-
 The law's own functions: awake, repeat, same.
-/
set_option linter.unusedVariables false
set_option linter.unusedSimpArgs false
namespace Go.Proofs.YtohgdopfjkjppaaGreatDoor
open Nat renaming reduceEqDiff → jA, reduceAdd → jB, reduceMul → jC, reduceLT → jD, reduceLeDiff → jE, reduceBEq → jF, reduceBNe → jG
open Int renaming reduceLE → jH, reduceLT → jI, reduceToNat → jJ, reduceEq → jK
open Go
-- EXX: Va.settle_pv, Va.pure_pv, Va.cells_pv, Ex.settle_pv, Ex.pure_pv, No.settle_pv, No.pure_pv, No.cells_pv, En.settle_pv, En.pure_pv, En.cells_pv
set_option maxRecDepth 20000
-- TNAMES: int; uint8; int32; string; bool; []string; []api.Expr; api.Expr; api.Pos; api.Kind; api.Node; []api.Node; api.Enum; []api.Enum; api.Program; error
set_option linter.defProp false
def J5 := And.intro @slb (And.intro @tfA (And.intro @Ex.settle_pv (And.intro @Ex.pure_pv (And.intro @Ex.cells_pv (And.intro @Ex.cs.eq_1 (And.intro @On.pv.eq_1 (And.intro @Ty.pv.eq_1 (And.intro @Va.settle_pv (And.intro @Va.pure_pv (And.intro @Va.cells_pv (And.intro @Va.cs.eq_1 (And.intro @No.settle_pv (And.intro @No.pure_pv (And.intro @No.cells_pv (And.intro @En.settle_pv (And.intro @En.pure_pv @En.cells_pv))))))))))))))))

def awT : Str := ⟨#[49, 32, 43, 32, 50, 32, 42, 32, 120]⟩
theorem aw_k : (txtExpr awT).2.1 = 0 := by kernel_rfl
theorem aw_kind : (txtExpr awT).1.kind = 7 := by kernel_rfl
theorem aw_op : (txtExpr awT).1.op = 3 := by kernel_rfl
theorem aw_len : (txtExpr awT).1.kids.length = 2 := by kernel_rfl
theorem aw_mul : ((txtExpr awT).1.kids.getD 1 z0).op = 5 := by kernel_rfl
set_option maxHeartbeats 4000000 in
theorem awake_any (m : M) : ACalls Tryz.prog 6 [] m (fun v m' => v = pB true ∧ m' = m) := by
 have hP := parseExpr_any awT (by decide) m
 have h1 := aw_k
 have h2 := aw_kind
 have h3 := aw_op
 have h4 := aw_len
 have h5 := aw_mul
 obtain ⟨T, hT⟩ : ∃ T, txtExpr awT = T := ⟨_, rfl⟩
 rw [hT] at hP h1 h2 h3 h4 h5
 obtain ⟨e, k, a, b⟩ := T
 simp only at hP h1 h2 h3 h4 h5
 subst h1
 obtain ⟨x, y, hk⟩ : ∃ x y, e.kids = [x, y] := by
  match hq : e.kids, h4 with
  | [x, y], _ => exact ⟨x, y, rfl⟩
 rw [hk] at h5
 have h5 : y.op = 5 := h5
 refine ACalls.enter (mu := [1]) ok_mix Tryz.func6 rfl (by kernel_rfl) (by kernel_rfl) (by simp only [List.length_cons, List.length_nil, Tryz.ntmps6]; omega) ?_
 (repeat (first | refine aSeq fun X hX => ?_ | refine aReg ?_; simp -implicitDefEqProofs only [↓slp, slb, jF] | apply hX; clear hX X))
 refine callM hP ?_
 rintro v m' ⟨hv, hm⟩
 subst hm
 subst hv
 have he : errW 0 a b = .v .nilIface := rfl
 have hcs : e.cs = [.v (.int .u8 e.kind), .v (.int .u8 e.op), .v (.int .i32 e.n), .v (.string e.name), .sl .no (e.names.map pS), .sl .no (e.kids.map Ex.pv), .v (.int .i64 e.line), .v (.int .i64 e.col)] := rfl
 have hcy : y.cs = [.v (.int .u8 y.kind), .v (.int .u8 y.op), .v (.int .i32 y.n), .v (.string y.name), .sl .no (y.names.map pS), .sl .no (y.kids.map Ex.pv), .v (.int .i64 y.line), .v (.int .i64 y.col)] := rfl
 have h22 : (((2 : Nat) : Int) == 2) = true := rfl
 rw [he, Ex.pv_eq, hcs, hk, h2, h3]
 simp -implicitDefEqProofs only [↓slp, ↓reduceIte, jA, jB, jE, jF, J5]
 (repeat (first | refine aSeq fun X hX => ?_ | refine aRet ?_ | refine aReg ?_; simp -implicitDefEqProofs only [↓slp, ↓reduceIte, reduceCtorEq, jA, jB, jD, jE, jF, jH, jJ, J5, h5, h22, Ex.pv_eq]; try simp only [fo] | apply hX; clear hX X))
 simp only [aPost, Tryz.results6, aRes_n, aRes_t, aRes_c, pack_one, pack_two]
 exact leave_ext rfl ⟨rfl, rfl⟩
end Go.Proofs.YtohgdopfjkjppaaGreatDoor

/-
 The law ParseStrong.
-/
set_option linter.unusedVariables false
set_option linter.unusedSimpArgs false
namespace Go.Proofs.YtohgdopfjkjppaaGreatDoor
open Nat renaming reduceEqDiff → jA, reduceAdd → jB, reduceMul → jC, reduceLT → jD, reduceLeDiff → jE, reduceBEq → jF, reduceBNe → jG
open Int renaming reduceLE → jH, reduceLT → jI, reduceToNat → jJ, reduceEq → jK
open Go
-- EXX: Va.settle_pv, Va.pure_pv, Va.cells_pv, Ex.settle_pv, Ex.pure_pv, Ex.cells_pv, No.settle_pv, No.pure_pv, No.cells_pv, En.settle_pv, En.pure_pv, En.cells_pv
set_option maxRecDepth 20000
-- TNAMES: int; uint8; int32; string; bool; []string; []uint8; []api.Expr; api.Expr; api.Pos; api.Kind; error


abbrev qB (i : Int) : PV := .v (.int .u8 i)
/-- The operators of two. -/
def opW : List Str := [⟨#[43]⟩, ⟨#[45]⟩, ⟨#[42]⟩, ⟨#[47]⟩, ⟨#[109, 111, 100]⟩, ⟨#[97, 110, 100]⟩, ⟨#[111, 114]⟩, ⟨#[120, 111, 114]⟩, ⟨#[61]⟩, ⟨#[60, 62]⟩, ⟨#[60]⟩, ⟨#[60, 61]⟩, ⟨#[62]⟩, ⟨#[62, 61]⟩]
theorem opW_sz : ∀ w ∈ opW, w.size ≤ 3 := by decide
set_option maxHeartbeats 8000000 in
theorem parsestrong_any (a b : List Int) (ha : ∀ x ∈ a, 0 ≤ x ∧ x ≤ 255) (hb : ∀ x ∈ b, 0 ≤ x ∧ x ≤ 255) (m : M) : ACalls Tryz.prog 3 [.sl .no (a.map qB), .sl .no (b.map qB)] m (fun v m' => v = pB true ∧ m' = m) := by
 refine ACalls.enter (mu := [9, 11, 13]) ok_mix Tryz.func3 rfl (by kernel_rfl) (by kernel_rfl) (by simp only [List.length_cons, List.length_nil, Tryz.ntmps3]; omega) ?_
 (repeat (first | refine aSeq fun X hX => ?_ | refine aReg ?_; simp -implicitDefEqProofs only [↓slp, slb, jF] | apply hX; clear hX X))
 refine callE (awake_any _) ?_
 cases h30 : decide ((a.length : Int) > 30) with
 | true =>
  simp -implicitDefEqProofs only [↓slp, ↓reduceIte, reduceCtorEq, jA, jF, J5, h30]
  (repeat (first | refine aSeq fun X hX => ?_ | (first | apply aReg | apply aIf); simp -implicitDefEqProofs only [↓slp, slb, ↓reduceIte, reduceCtorEq, jF] | apply hX; clear hX X))
  refine callE (awake_any _) ?_
  simp -implicitDefEqProofs only [↓slp, slb, ↓reduceIte, jF]
  (repeat (first | refine aRet ?_; try simp only [slx, ↓reduceIte, jA, reduceCtorEq] | apply hX; clear hX X))
  simp only [aPost, Tryz.results3, aRes_n, aRes_t, aRes_c, pack_one, pack_two]
  exact leave_same rfl ⟨rfl, rfl⟩
 | false =>
 have hal : a.length ≤ 30 := by simp at h30; omega
 simp -implicitDefEqProofs only [↓slp, ↓reduceIte, reduceCtorEq, jA, jF, J5, h30]
 (repeat (first | refine aSeq fun X hX => ?_ | refine aSkip ?_ | (first | apply aReg | apply aIf); simp -implicitDefEqProofs only [forall_eq, ↓slp, ↓reduceIte, jB, jC, jE, jF, J5] | apply hX; clear hX X))
 refine ⟨rfl, ?_⟩
 (repeat (first | refine aSeq fun X hX => ?_ | refine aBlk ?_ | refine aReg ?_; simp -implicitDefEqProofs only [↓slp, slb, jF] | apply hX; clear hX X))
 obtain ⟨I, hI⟩ : ∃ I : F → M → Prop, ∀ f m', I f m' = (∃ (i : Nat) (t : Str), i ≤ a.length ∧ t.size ≤ 1 + 20 * i ∧ f 0 = .sl .no (a.map qB) ∧ f 1 = .sl .no (b.map qB) ∧ f 5 = .sl .full (opW.map pS) ∧ f 6 = pS t ∧ f 7 = pI i ∧ m = m') := ⟨_, fun _ _ => rfl⟩
 refine aLoop I (fun f m => a.length - numOf (f 7)) ?_ ?_
 ·rw [hI]; exact ⟨0, _, by omega, by decide, rfl, rfl, rfl, rfl, rfl, rfl⟩
 intro f m' hrel
 rw [hI] at hrel
 obtain ⟨i, t, hi, ht, f0, f1, f5, f6, f7, hm⟩ := hrel
 subst hm
 cases hil : decide ((i : Int) < (a.length : Int)) with
 | false =>
  have hP := parseExpr_any t (by omega)
  have hR := refExpr_any t
  have hK := txtExpr_kd t
  generalize txtExpr t = T at *
  obtain ⟨e, k, a1, b1⟩ := T
  simp only at hP hR hK
  (repeat (first | refine aSeq fun X hX => ?_ | refine aExit ?_; try simp only [slx, ↓reduceIte, jA, reduceCtorEq] | (first | apply aReg | apply aIf); simp -implicitDefEqProofs only [↓slp, ↓reduceIte, reduceCtorEq, jA, jF, J5, f0, f6, f7, pI, pS, hil] | apply hX; clear hX X | clear hX X; apply hX; clear hX X | intro hlen; unfold maxLen at hlen))
  refine callM (hP _) ?_
  rintro v m' ⟨hv, hm⟩
  subst hm
  subst hv
  have hcs : e.cs = [.v (.int .u8 e.kind), .v (.int .u8 e.op), .v (.int .i32 e.n), .v (.string e.name), .sl .no (e.names.map pS), .sl .no (e.kids.map Ex.pv), .v (.int .i64 e.line), .v (.int .i64 e.col)] := rfl
  have hat : PV.ag e.cs = e.pv := (Ex.pv_eq e).symm
  simp -implicitDefEqProofs only [↓slp, ↓reduceIte, jA, jB, jE, jF, J5]; try simp only [fo]
  (repeat (first | refine aSeq fun X hX => ?_ | refine aReg ?_; simp -implicitDefEqProofs only [↓slp, ↓reduceIte, jA, jF, J5, f6, pS]; try simp only [fo] | apply hX; clear hX X))
  refine callM (hR _) ?_
  rintro v m' ⟨rfl, rfl⟩
  simp -implicitDefEqProofs only [↓slp, ↓reduceIte, jA, jB, jD, jE, jF, J5]; try simp only [fo]
  (repeat (first | refine aSeq fun X hX => ?_ | refine aDrE ?_; simp -implicitDefEqProofs only [↓slp, ↓reduceIte, jA, jF, J5]; try simp only [fo] | apply hX; clear hX X))
  refine callE (errKind_any hK _) ?_
  simp -implicitDefEqProofs only [↓slp, ↓reduceIte, jA, jF, J5]; try simp only [fo]
  refine callE (errWhere_any hK _) ?_
  simp -implicitDefEqProofs only [↓slp, ↓reduceIte, jA, jB, jE, jF, J5]; try simp only [fo]
  refine callE (sAt_any e _) ?_
  simp -implicitDefEqProofs only [↓slp, ↓reduceIte, jA, jF, J5]; try simp only [fo]
  (repeat (first | refine aRet ?_ | apply hX; clear hX X))
  simp only [aPost, Tryz.results3, aRes_n, aRes_t, aRes_c, pack_one, pack_two]
  exact leave_ext rfl ⟨rfl, rfl⟩
 | true =>
 have hlt : i < a.length := by simpa using hil
 have g0 := getD_map qB a i hlt
 have hel := ha _ (List.getElem_mem hlt)
 obtain ⟨j, hj, hj2⟩ : ∃ j : Nat, (a[i]).tmod 14 = (j : Int) ∧ j < 14 := by
  have h1 := Int.tmod_nonneg 14 hel.1
  have h2 := Int.tmod_lt_of_pos a[i] (show (0 : Int) < 14 by decide)
  exact ⟨((a[i]).tmod 14).toNat, by omega, by omega⟩
 have hjl : j < opW.length := hj2
 have g5 := getD_map pS opW j hjl
 have hw1 : IntKind.i64.wrap (a[i]) = a[i] := wrap64 (by omega)
 have hw2 : IntKind.i64.wrap (j : Int) = (j : Int) := wrap64 (by omega)
 have hin : IntKind.i64.wrap ((i : Int) + 1) = ((i + 1 : Nat) : Int) := by rw [wrap64 (by omega)]; omega
 have hws := opW_sz _ (List.getElem_mem hjl)
 have hi0 : (0 : Int) ≤ (i : Int) := by omega
 have hme : numOf (f 7) = i := by rw [f7]; exact Int.toNat_natCast i
 have hj0 : (0 : Int) ≤ (j : Int) := by omega
 (repeat (first | refine aSeq fun X hX => ?_ | refine aSkip ?_ | (first | apply aReg | apply aIf); simp -implicitDefEqProofs only [↓slp, ↓reduceIte, reduceCtorEq, jA, jF, J5, f0, f1, f7, pI, hil] | apply hX; clear hX X | intro hlen; unfold maxLen at hlen))
 have join : ∀ (f : F) (x : Str), x.size ≤ 13 → f 0 = .sl .no (a.map qB) → f 1 = .sl .no (b.map qB) → f 5 = .sl .full (opW.map pS) → f 6 = pS t → f 7 = pI i → f 8 = pS x → X f m := by
  clear f0 f1 f5 f6 f7
  intro f x hx f0 f1 f5 f6 f7 f8
  refine hX _ _ ?_
  clear hX
  obtain ⟨wd, hwd⟩ : ∃ wd, opW[j] = wd := ⟨_, rfl⟩
  rw [hwd] at g5 hws
  have z1 : (⟨#[32]⟩ : Str).size = 1 := rfl
  have s1 := ByteArray.size_append (a := (⟨#[32]⟩ : Str)) (b := wd)
  have s2 := ByteArray.size_append (a := ((⟨#[32]⟩ : Str) ++ wd)) (b := (⟨#[32]⟩ : Str))
  have s3 := ByteArray.size_append (a := ((⟨#[32]⟩ : Str) ++ wd ++ (⟨#[32]⟩ : Str))) (b := x)
  have s4 := ByteArray.size_append (a := t) (b := ((⟨#[32]⟩ : Str) ++ wd ++ (⟨#[32]⟩ : Str) ++ x))
  (repeat (first | refine aReg ?_; simp -implicitDefEqProofs only [↓slp, ↓reduceIte, reduceCtorEq, jA, jB, jF, jK, J5, f0, f5, f6, f7, pI, pS, qB, f8, g0, g5, hw1, hj, hi0, hj0, hlt, hjl, hin] | apply hX; clear hX X | apply And.intro; focus omega))
  rw [hI]
  refine ⟨⟨i + 1, _, hlt, (by rw [s4]; omega), f0, f1, f5, rfl, rfl, rfl⟩, ?_⟩
  rw [hme]
  first | omega | (simp only [↓slp, slb, ↓reduceIte, reduceCtorEq, jA, jB, jC, jD, jE, jF, jG, jH, jI, jJ, jK, f7, pI, numOf, Int.toNat_natCast]; omega)
 clear hX
 cases hib : decide ((i : Int) < (b.length : Int)) with
 | false =>
  simp -implicitDefEqProofs only [slb]
  (repeat refine aSkip ?_)
  exact join _ _ (by decide) f0 f1 f5 f6 f7 rfl
 | true =>
 have hltb : i < b.length := by simpa using hib
 have gb := getD_map qB b i hltb
 have helb := hb _ (List.getElem_mem hltb)
 have hq : (b[i]).tmod 6 = 0 ∨ (b[i]).tmod 6 = 1 ∨ (b[i]).tmod 6 = 2 ∨ (b[i]).tmod 6 = 3 ∨ (b[i]).tmod 6 = 4 ∨ (b[i]).tmod 6 = 5 := by
  have h1 := Int.tmod_nonneg 6 helb.1
  have h2 := Int.tmod_lt_of_pos b[i] (show (0 : Int) < 6 by decide)
  omega
 simp -implicitDefEqProofs only [slb, reduceCtorEq]
 rcases hq with hq | hq | hq | hq | hq | hq
 ·have w0 : IntKind.u8.wrap 0 = 0 := rfl
  have q0 : ((0 : Int) == 0) = true := rfl
  (repeat (first | refine aSeq fun X hX => ?_ | (first | apply aReg | apply aIf); simp -implicitDefEqProofs only [↓slp, ↓reduceIte, reduceCtorEq, jA, jB, jF, jK, J5, f1, f7, pI, qB, hi0, hltb, gb, hq] | apply hX; clear hX X))
  exact join _ _ (by decide) f0 f1 f5 f6 f7 rfl
 ·have w0 : IntKind.u8.wrap 1 = 1 := rfl
  have q0 : ((1 : Int) == 0) = false := rfl
  have q1 : ((1 : Int) == 1) = true := rfl
  (repeat (first | refine aSeq fun X hX => ?_ | (first | apply aReg | apply aIf); simp -implicitDefEqProofs only [↓slp, ↓reduceIte, reduceCtorEq, jA, jB, jF, jK, J5, f1, f7, pI, qB, hi0, hltb, gb, hq, q0] | apply hX; clear hX X))
  exact join _ _ (by decide) f0 f1 f5 f6 f7 rfl
 ·have w0 : IntKind.u8.wrap 2 = 2 := rfl
  have q0 : ((2 : Int) == 0) = false := rfl
  have q1 : ((2 : Int) == 1) = false := rfl
  have q2 : ((2 : Int) == 2) = true := rfl
  (repeat (first | refine aSeq fun X hX => ?_ | (first | apply aReg | apply aIf); simp -implicitDefEqProofs only [↓slp, ↓reduceIte, reduceCtorEq, jA, jB, jF, jK, J5, f1, f7, pI, qB, hi0, hltb, gb, hq, q0, q1] | apply hX; clear hX X))
  exact join _ _ (by decide) f0 f1 f5 f6 f7 rfl
 ·have w0 : IntKind.u8.wrap 3 = 3 := rfl
  have q0 : ((3 : Int) == 0) = false := rfl
  have q1 : ((3 : Int) == 1) = false := rfl
  have q2 : ((3 : Int) == 2) = false := rfl
  have q3 : ((3 : Int) == 3) = true := rfl
  (repeat (first | refine aSeq fun X hX => ?_ | (first | apply aReg | apply aIf); simp -implicitDefEqProofs only [↓slp, ↓reduceIte, reduceCtorEq, jA, jB, jF, jK, J5, f1, f7, pI, qB, hi0, hltb, gb, hq, q0, q1, q2] | apply hX; clear hX X))
  exact join _ _ (by decide) f0 f1 f5 f6 f7 rfl
 ·have w0 : IntKind.u8.wrap 4 = 4 := rfl
  have q0 : ((4 : Int) == 0) = false := rfl
  have q1 : ((4 : Int) == 1) = false := rfl
  have q2 : ((4 : Int) == 2) = false := rfl
  have q3 : ((4 : Int) == 3) = false := rfl
  have q4 : ((4 : Int) == 4) = true := rfl
  (repeat (first | refine aSeq fun X hX => ?_ | (first | apply aReg | apply aIf); simp -implicitDefEqProofs only [↓slp, ↓reduceIte, reduceCtorEq, jA, jB, jF, jK, J5, f1, f7, pI, qB, hi0, hltb, gb, hq, q0, q1, q2, q3] | apply hX; clear hX X))
  exact join _ _ (by decide) f0 f1 f5 f6 f7 rfl
 ·have w0 : IntKind.u8.wrap 5 = 5 := rfl
  have q0 : ((5 : Int) == 0) = false := rfl
  have q1 : ((5 : Int) == 1) = false := rfl
  have q2 : ((5 : Int) == 2) = false := rfl
  have q3 : ((5 : Int) == 3) = false := rfl
  have q4 : ((5 : Int) == 4) = false := rfl
  (repeat (first | refine aSeq fun X hX => ?_ | refine aSkip ?_ | (first | apply aReg | apply aIf); simp -implicitDefEqProofs only [↓slp, ↓reduceIte, jA, jB, jF, jK, J5, f1, f7, pI, qB, hi0, hltb, gb, hq, q0, q1, q2, q3, q4] | apply hX; clear hX X))
  exact join _ _ (by decide) f0 f1 f5 f6 f7 rfl
end Go.Proofs.YtohgdopfjkjppaaGreatDoor
