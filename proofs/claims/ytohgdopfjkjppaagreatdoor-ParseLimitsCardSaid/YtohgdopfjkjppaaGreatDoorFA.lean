/-
 Texts that belong together: PsL, PsM.
-/
-- halved
import Derived.Test.YtohgdopfjkjppaaGreatDoorAbMac
import Derived.Test.YtohgdopfjkjppaaGreatDoorIsA
import Derived.Test.YtohgdopfjkjppaaGreatDoorPsT
set_option linter.unusedVariables false
set_option linter.unusedSimpArgs false
namespace Go.Proofs.YtohgdopfjkjppaaGreatDoor
open Nat renaming reduceEqDiff → jA, reduceAdd → jB, reduceMul → jC, reduceLT → jD, reduceLeDiff → jE, reduceBEq → jF, reduceBNe → jG
open Int renaming reduceLE → jH, reduceLT → jI, reduceToNat → jJ, reduceEq → jK
open Go
set_option maxRecDepth 20000
set_option linter.defProp false
def tfPsL := And.intro @tfA (And.intro @Ex.settle_pv (And.intro @Ex.pure_pv (And.intro @Ex.cells_pv (And.intro @Ex.cs.eq_1 (And.intro @On.pv.eq_1 (And.intro @Ty.pv.eq_1 (And.intro @Va.settle_pv (And.intro @Va.pure_pv (And.intro @Va.cells_pv (And.intro @Va.cs.eq_1 (And.intro @No.settle_pv (And.intro @No.pure_pv (And.intro @No.cells_pv (And.intro @En.settle_pv (And.intro @En.pure_pv @En.cells_pv)))))))))))))))

def awT : Str := ⟨#[49, 32, 43, 32, 50, 32, 42, 32, 120]⟩
theorem aw_k : (txtExpr awT).2.1 = 0 := by kernel_rfl
theorem aw_kind : (txtExpr awT).1.kind = 7 := by kernel_rfl
theorem aw_op : (txtExpr awT).1.op = 3 := by kernel_rfl
theorem aw_len : (txtExpr awT).1.kids.length = 2 := by kernel_rfl
theorem aw_mul : ((txtExpr awT).1.kids.getD 1 z0).op = 5 := by kernel_rfl
set_option maxHeartbeats 4000000 in
theorem awake_any (m : M) : ACalls Tryz.prog 6 [] m (fun v m' => v = pB true ∧ m' = m) := by
 have hP := parseExpr_any awT (by decide) m
 have h1 := aw_k
 have h2 := aw_kind
 have h3 := aw_op
 have h4 := aw_len
 have h5 := aw_mul
 obtain ⟨T, hT⟩ : ∃ T, txtExpr awT = T := ⟨_, rfl⟩
 rw [hT] at hP h1 h2 h3 h4 h5
 obtain ⟨e, k, a, b⟩ := T
 simp only at hP h1 h2 h3 h4 h5
 subst h1
 obtain ⟨x, y, hk⟩ : ∃ x y, e.kids = [x, y] := by
  match hq : e.kids, h4 with
  | [x, y], _ => exact ⟨x, y, rfl⟩
 rw [hk] at h5
 have h5 : y.op = 5 := h5
 refine eN [1] Tryz.func6 ?_
 (repeat revert X); refine wE aEQ_t ?_; repeat intro X hX
 refine callM hP ?_
 rintro v m' ⟨hv, hm⟩
 subst hm
 subst hv
 have he : errW 0 a b = .v .nilIface := rfl
 have hcs : e.cs = [.v (.int .u8 e.kind), .v (.int .u8 e.op), .v (.int .i32 e.n), .v (.string e.name), .sl .no (e.names.map pS), .sl .no (e.kids.map Ex.pv), .v (.int .i64 e.line), .v (.int .i64 e.col)] := rfl
 have hcy : y.cs = [.v (.int .u8 y.kind), .v (.int .u8 y.op), .v (.int .i32 y.n), .v (.string y.name), .sl .no (y.names.map pS), .sl .no (y.kids.map Ex.pv), .v (.int .i64 y.line), .v (.int .i64 y.col)] := rfl
 have h22 : (((2 : Nat) : Int) == 2) = true := rfl
 rw [he, Ex.pv_eq, hcs, hk, h2, h3]
 refine wS tfPsL ?_
 (repeat revert X); refine wD (And.intro tfPsL (And.intro h5 (And.intro h22 Ex.pv_eq))) ?_; repeat intro X hX
 refine wR Tryz.results6 ?_
 exact leave_ext rfl ⟨rfl, rfl⟩
set_option maxHeartbeats 1000000 in
theorem repeat_any (s : Str) (n : Nat) (hb : n * s.size ≤ 100000) (hn : n ≤ 100000) (m : M) : ACalls Tryz.prog 12 [pS s, pI n] m (fun v m' => (∃ t : Str, v = pS t ∧ t.size = n * s.size) ∧ m' = m) := by
 refine eN [] Tryz.func12 ?_
 (repeat revert X); refine wE aEQ_t ?_; repeat intro X hX
 obtain ⟨I, hI⟩ : ∃ I : F → M → Prop, ∀ f m', I f m' = (∃ (k : Nat) (t : Str), k ≤ n ∧ t.size = k * s.size ∧ f 0 = pS s ∧ f 1 = pI n ∧ f 5 = pS t ∧ f 6 = pI k ∧ m = m') := ⟨_, fun _ _ => rfl⟩
 refine aLoop I (fun f m => n - numOf (f 6)) ?_ ?_
 ·rw [hI]; exact ⟨0, _, by omega, by rw [Nat.zero_mul]; rfl, rfl, rfl, rfl, rfl, rfl⟩
 intro f m' hrel
 rw [hI] at hrel
 obtain ⟨k, t, hk, ht, f0, f1, f5, f6, hm⟩ := hrel
 subst hm
 cases hb2 : decide ((k : Int) < (n : Int)) with
 | true =>
  have hlt : k < n := by simpa using hb2
  have hi : IntKind.i64.wrap ((k : Int) + 1) = ((k + 1 : Nat) : Int) := by rw [wrap64 (by omega)]; omega
  have hz : (k + 1) * s.size = k * s.size + s.size := Nat.succ_mul _ _
  have hz2 : (k + 1) * s.size ≤ n * s.size := Nat.mul_le_mul_right _ hlt
  have hsz : ((t.size + s.size : Nat) : Int) ≤ 9223372036854775807 := by omega
  (repeat (first | refine aSeq fun X hX => ?_ | refine aBlk ?_ | refine aSkip ?_ | (first | apply aReg | apply aIf); simp -implicitDefEqProofs only [↓slp, slb, ↓reduceIte, reduceCtorEq, jA, f0, f1, f5, f6, pI, pS, hb2, hi, hsz] | apply hX; clear hX X))
  rw [hI]
  refine ⟨⟨k + 1, t ++ s, hlt, by rw [ByteArray.size_append, ht, hz], f0, f1, rfl, rfl, rfl⟩, ?_⟩
  first | omega | (simp only [↓slp, slb, ↓reduceIte, reduceCtorEq, jA, jB, jC, jD, jE, jF, jG, jH, jI, jJ, jK, f6, pI, numOf, Int.toNat_natCast]; omega)
 | false =>
  have hlt : k = n := by simp at hb2; omega
  subst hlt
  (repeat revert X); refine wE (And.intro f1 (And.intro f5 (And.intro f6 (And.intro @pI.eq_1 (And.intro @pS.eq_1 hb2))))) ?_; repeat intro X hX
  refine wR Tryz.results12 ?_
  exact leave_same rfl ⟨⟨t, rfl, ht⟩, rfl⟩
set_option maxHeartbeats 4000000 in
theorem same_any (s : Str) (hs : s.size ≤ 281474976710656) (m : M) : ACalls Tryz.prog 13 [pS s] m (fun v m' => v = pB true ∧ m' = m) := by
 have hP := parseProg_any s hs
 have hR := refProg_any s
 have hK := txtProg_kd s
 generalize txtProg s = T at *
 obtain ⟨⟨E, l⟩, k, a, b⟩ := T
 simp only at hP hR hK
 refine eN [3, 5, 7] Tryz.func13 ?_
 (repeat revert X); refine wE aEQ_t ?_; repeat intro X hX
 refine callM (hP _) ?_
 rintro v m' ⟨hv, hm⟩
 subst hm
 subst hv
 refine wS tfPsL ?_
 (repeat revert X); refine wE aEQ_t ?_; repeat intro X hX
 refine callM (hR _) ?_
 rintro v m' ⟨rfl, rfl⟩
 refine wS tfPsL ?_
 (repeat revert X); refine wD aEQ_t ?_; repeat intro X hX
 refine callE (errKind_any hK _) ?_
 refine wS aEQ_t ?_
 refine callE (errWhere_any hK _) ?_
 refine wS tfPsL ?_
 refine callE (sPr_any E l _) ?_
 refine wS aEQ_t ?_
 (repeat revert X); refine wE tfPsL ?_; repeat intro X hX
 refine callE (aPr_any E l _) ?_
 refine wS aEQ_t ?_
 (repeat revert X); refine wE aEQ_t ?_; repeat intro X hX
 refine wR Tryz.results13 ?_
 exact leave_ext rfl ⟨rfl, rfl⟩

def tfPsM := tfPsL

set_option maxHeartbeats 8000000 in
theorem parselimits_any (n h : Int) (hn : 0 ≤ n ∧ n ≤ 255) (hh : 0 ≤ h ∧ h ≤ 255) (m : M) : ACalls Tryz.prog 5 [.v (.int .u8 n), .v (.int .u8 h)] m (fun v m' => v = pB true ∧ m' = m) := by
 obtain ⟨r, hr, hr2⟩ : ∃ r : Nat, n.tmod 40 = (r : Int) ∧ r < 40 := by
  have h1 := Int.tmod_nonneg 40 hn.1
  have h2 := Int.tmod_lt_of_pos n (show (0 : Int) < 40 by decide)
  exact ⟨(n.tmod 40).toNat, by omega, by omega⟩
 have hw1 : IntKind.i64.wrap n = n := wrap64 (by omega)
 have hw2 : IntKind.i64.wrap (r : Int) = (r : Int) := wrap64 (by omega)
 have hw3 : IntKind.i64.wrap (28 + (r : Int)) = ((28 + r : Nat) : Int) := by rw [wrap64 (by omega)]; omega
 have hq : h.tmod 4 = 0 ∨ h.tmod 4 = 1 ∨ h.tmod 4 = 2 ∨ h.tmod 4 = 3 := by
  have h1 := Int.tmod_nonneg 4 hh.1
  have h2 := Int.tmod_lt_of_pos h (show (0 : Int) < 4 by decide)
  omega
 refine eN [] Tryz.func5 ?_
 (repeat revert X); refine wE aEQ_t ?_; repeat intro X hX
 refine callE (awake_any _) ?_
 refine wS aEQ_t ?_
 (repeat revert X); refine wE (And.intro tfPsM (And.intro hr (And.intro hw1 hw3))) ?_; repeat intro X hX
 have join : ∀ (f : F) (t : Str), t.size ≤ 10000 → f 5 = pI (28 + r : Nat) → f 6 = pS t → X f m := by
  intro f t ht f5 f6
  refine hX _ _ ?_
  clear hX
  refine vE (And.intro f6 @pS.eq_1) ?_; repeat intro X hX
  refine callE (same_any t (by omega) _) ?_
  refine wS aEQ_t ?_
  (repeat (first | refine aRet ?_ | apply hX; clear hX X))
  simp only [aPost, Tryz.results5, aRes_n, aRes_t, aRes_c, pack_one, pack_two]
  exact leave_same rfl ⟨rfl, rfl⟩
 clear hX
 rcases hq with hq | hq | hq | hq
 ·have w0 : IntKind.u8.wrap 0 = 0 := rfl
  have q0 : ((0 : Int) == 0) = true := rfl
  have q1 : ((0 : Int) == 1) = false := rfl
  have q2 : ((0 : Int) == 2) = false := rfl
  have q3 : ((0 : Int) == 3) = false := rfl
  refine wS hq ?_
  have z_1 : (⟨#[110, 111, 100, 101, 32, 102, 40, 41, 32, 114, 101, 116, 117, 114, 110, 115, 32, 40, 41, 32, 108, 101, 116, 32, 116, 101, 108, 32]⟩ : Str).size = 28 := rfl
  refine vE aEQ_t ?_; repeat intro X hX
  refine callM (repeat_any _ (28 + r) (by rw [z_1]; omega) (by omega) _) ?_
  rintro v m' ⟨⟨t1, hv, ht1⟩, hm⟩
  subst hm
  subst hv
  rw [z_1] at ht1
  simp -implicitDefEqProofs only [↓slp, slb, ↓reduceIte, pS]
  (repeat (first | refine aSeq fun X hX => ?_ | apply aBlk | refine aSkip ?_ | (first | refine aExit ?_ | refine aRet ?_); try simp only [slx, ↓reduceIte, jA, reduceCtorEq] | (first | apply aReg | apply aIf); simp -implicitDefEqProofs only [forall_eq, ↓slp, slb, ↓reduceIte, reduceCtorEq, jA, jB, jC, jD, jE, jF, jG, jH, jI, jJ, jK, tfPsM, hr, hw1, hw2, hw3, hq, w0, q0, q1, q2, q3, pI, pS]; try simp only [fo] | apply hX; clear hX X | clear hX X; apply hX; clear hX X | clear hX X; clear hX X; apply hX; clear hX X | intro hlen; unfold maxLen at hlen | apply And.intro; · first | assumption | and_intros <;> first | omega | assumption))
  exact join _ t1 (by (try simp only [ByteArray.size_append, z_1]); omega) rfl rfl
 ·have w0 : IntKind.u8.wrap 1 = 1 := rfl
  have q0 : ((1 : Int) == 0) = false := rfl
  have q1 : ((1 : Int) == 1) = true := rfl
  have q2 : ((1 : Int) == 2) = false := rfl
  have q3 : ((1 : Int) == 3) = false := rfl
  refine wS (And.intro hq q0) ?_
  have z_2 : (⟨#[116, 121, 112, 101, 32, 116, 32, 61, 32, 65]⟩ : Str).size = 10 := rfl
  have z_3 : (⟨#[32, 124, 32, 65]⟩ : Str).size = 4 := rfl
  have z_4 : (⟨#[59]⟩ : Str).size = 1 := rfl
  refine vE aEQ_t ?_; repeat intro X hX
  refine callM (repeat_any _ (28 + r) (by rw [z_3]; omega) (by omega) _) ?_
  rintro v m' ⟨⟨t3, hv, ht3⟩, hm⟩
  subst hm
  subst hv
  rw [z_3] at ht3
  have := ByteArray.size_append (a := (⟨#[116, 121, 112, 101, 32, 116, 32, 61, 32, 65]⟩ : Str)) (b := t3)
  have := ByteArray.size_append (a := ((⟨#[116, 121, 112, 101, 32, 116, 32, 61, 32, 65]⟩ : Str) ++ t3)) (b := (⟨#[59]⟩ : Str))
  simp -implicitDefEqProofs only [↓slp, slb, ↓reduceIte, pS]
  (repeat (apply And.intro; focus omega))
  exact join _ (((⟨#[116, 121, 112, 101, 32, 116, 32, 61, 32, 65]⟩ : Str) ++ t3) ++ (⟨#[59]⟩ : Str)) (by (try simp only [ByteArray.size_append, z_2, z_3, z_4]); omega) rfl rfl
 ·have w0 : IntKind.u8.wrap 2 = 2 := rfl
  have q0 : ((2 : Int) == 0) = false := rfl
  have q1 : ((2 : Int) == 1) = false := rfl
  have q2 : ((2 : Int) == 2) = true := rfl
  have q3 : ((2 : Int) == 3) = false := rfl
  refine wS (And.intro hq q0) ?_
  have z_5 : (⟨List.toArray (110 :: 111 :: 100 :: 101 :: 32 :: 102 :: 40 :: 41 :: 32 :: 114 :: 101 :: 116 :: 117 :: 114 :: 110 :: 115 :: 32 :: 40 :: 120 :: 58 :: 32 :: 105 :: 110 :: 116 :: 41 :: 32 :: 108 :: 101 :: 116 :: 32 :: 115 :: 119 :: 105 :: 116 :: 99 :: 104 :: 32 :: 120 :: 32 :: [])⟩ : Str).size = 39 := rfl
  have z_6 : (⟨#[124, 32, 65, 32, 100, 111, 32, 120, 32, 61, 32, 49, 59, 32]⟩ : Str).size = 14 := rfl
  have z_7 : (⟨#[101, 110, 100, 59, 32, 116, 101, 108]⟩ : Str).size = 8 := rfl
  refine vE q1 ?_; repeat intro X hX
  refine callM (repeat_any _ (28 + r) (by rw [z_6]; omega) (by omega) _) ?_
  rintro v m' ⟨⟨t6, hv, ht6⟩, hm⟩
  subst hm
  subst hv
  rw [z_6] at ht6
  have := ByteArray.size_append (a := (⟨List.toArray (110 :: 111 :: 100 :: 101 :: 32 :: 102 :: 40 :: 41 :: 32 :: 114 :: 101 :: 116 :: 117 :: 114 :: 110 :: 115 :: 32 :: 40 :: 120 :: 58 :: 32 :: 105 :: 110 :: 116 :: 41 :: 32 :: 108 :: 101 :: 116 :: 32 :: 115 :: 119 :: 105 :: 116 :: 99 :: 104 :: 32 :: 120 :: 32 :: [])⟩ : Str)) (b := t6)
  have := ByteArray.size_append (a := ((⟨List.toArray (110 :: 111 :: 100 :: 101 :: 32 :: 102 :: 40 :: 41 :: 32 :: 114 :: 101 :: 116 :: 117 :: 114 :: 110 :: 115 :: 32 :: 40 :: 120 :: 58 :: 32 :: 105 :: 110 :: 116 :: 41 :: 32 :: 108 :: 101 :: 116 :: 32 :: 115 :: 119 :: 105 :: 116 :: 99 :: 104 :: 32 :: 120 :: 32 :: [])⟩ : Str) ++ t6)) (b := (⟨#[101, 110, 100, 59, 32, 116, 101, 108]⟩ : Str))
  simp -implicitDefEqProofs only [↓slp, slb, ↓reduceIte, pS]
  (repeat (apply And.intro; focus omega))
  exact join _ (((⟨List.toArray (110 :: 111 :: 100 :: 101 :: 32 :: 102 :: 40 :: 41 :: 32 :: 114 :: 101 :: 116 :: 117 :: 114 :: 110 :: 115 :: 32 :: 40 :: 120 :: 58 :: 32 :: 105 :: 110 :: 116 :: 41 :: 32 :: 108 :: 101 :: 116 :: 32 :: 115 :: 119 :: 105 :: 116 :: 99 :: 104 :: 32 :: 120 :: 32 :: [])⟩ : Str) ++ t6) ++ (⟨#[101, 110, 100, 59, 32, 116, 101, 108]⟩ : Str)) (by (try simp only [ByteArray.size_append, z_5, z_6, z_7]); omega) rfl rfl
 ·have w0 : IntKind.u8.wrap 3 = 3 := rfl
  have q0 : ((3 : Int) == 0) = false := rfl
  have q1 : ((3 : Int) == 1) = false := rfl
  have q2 : ((3 : Int) == 2) = false := rfl
  have q3 : ((3 : Int) == 3) = true := rfl
  refine wS (And.intro hq q0) ?_
  have z_8 : (⟨List.toArray (110 :: 111 :: 100 :: 101 :: 32 :: 102 :: 40 :: 41 :: 32 :: 114 :: 101 :: 116 :: 117 :: 114 :: 110 :: 115 :: 32 :: 40 :: 120 :: 58 :: 32 :: 105 :: 110 :: 116 :: 41 :: 32 :: 108 :: 101 :: 116 :: 32 :: 120 :: 32 :: 61 :: 32 :: 109 :: 101 :: 114 :: 103 :: 101 :: 32 :: 99 :: 32 :: [])⟩ : Str).size = 42 := rfl
  have z_9 : (⟨#[40, 65, 32, 45, 62, 32, 49, 41, 32]⟩ : Str).size = 9 := rfl
  have z_10 : (⟨#[59, 32, 116, 101, 108]⟩ : Str).size = 5 := rfl
  refine vE (And.intro q1 q2) ?_; repeat intro X hX
  refine callM (repeat_any _ (28 + r) (by rw [z_9]; omega) (by omega) _) ?_
  rintro v m' ⟨⟨t9, hv, ht9⟩, hm⟩
  subst hm
  subst hv
  rw [z_9] at ht9
  have := ByteArray.size_append (a := (⟨List.toArray (110 :: 111 :: 100 :: 101 :: 32 :: 102 :: 40 :: 41 :: 32 :: 114 :: 101 :: 116 :: 117 :: 114 :: 110 :: 115 :: 32 :: 40 :: 120 :: 58 :: 32 :: 105 :: 110 :: 116 :: 41 :: 32 :: 108 :: 101 :: 116 :: 32 :: 120 :: 32 :: 61 :: 32 :: 109 :: 101 :: 114 :: 103 :: 101 :: 32 :: 99 :: 32 :: [])⟩ : Str)) (b := t9)
  have := ByteArray.size_append (a := ((⟨List.toArray (110 :: 111 :: 100 :: 101 :: 32 :: 102 :: 40 :: 41 :: 32 :: 114 :: 101 :: 116 :: 117 :: 114 :: 110 :: 115 :: 32 :: 40 :: 120 :: 58 :: 32 :: 105 :: 110 :: 116 :: 41 :: 32 :: 108 :: 101 :: 116 :: 32 :: 120 :: 32 :: 61 :: 32 :: 109 :: 101 :: 114 :: 103 :: 101 :: 32 :: 99 :: 32 :: [])⟩ : Str) ++ t9)) (b := (⟨#[59, 32, 116, 101, 108]⟩ : Str))
  simp -implicitDefEqProofs only [↓slp, slb, ↓reduceIte, pS]
  (repeat (apply And.intro; focus omega))
  exact join _ (((⟨List.toArray (110 :: 111 :: 100 :: 101 :: 32 :: 102 :: 40 :: 41 :: 32 :: 114 :: 101 :: 116 :: 117 :: 114 :: 110 :: 115 :: 32 :: 40 :: 120 :: 58 :: 32 :: 105 :: 110 :: 116 :: 41 :: 32 :: 108 :: 101 :: 116 :: 32 :: 120 :: 32 :: 61 :: 32 :: 109 :: 101 :: 114 :: 103 :: 101 :: 32 :: 99 :: 32 :: [])⟩ : Str) ++ t9) ++ (⟨#[59, 32, 116, 101, 108]⟩ : Str)) (by (try simp only [ByteArray.size_append, z_8, z_9, z_10]); omega) rfl rfl
end Go.Proofs.YtohgdopfjkjppaaGreatDoor
