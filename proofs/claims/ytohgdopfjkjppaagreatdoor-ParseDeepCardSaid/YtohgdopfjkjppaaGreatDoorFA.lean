/-
 Texts that belong together: PsL, PsM.
-/
-- halved
import Derived.Test.YtohgdopfjkjppaaGreatDoorAbMac
import Derived.Test.YtohgdopfjkjppaaGreatDoorIsA
import Derived.Test.YtohgdopfjkjppaaGreatDoorPsT
set_option linter.unusedVariables false
set_option linter.unusedSimpArgs false
namespace Go.Proofs.YtohgdopfjkjppaaGreatDoor
open Nat renaming reduceEqDiff → jA, reduceAdd → jB, reduceMul → jC, reduceLT → jD, reduceLeDiff → jE, reduceBEq → jF, reduceBNe → jG
open Int renaming reduceLE → jH, reduceLT → jI, reduceToNat → jJ, reduceEq → jK
open Go
set_option maxRecDepth 20000
set_option linter.defProp false
def tfPsL := And.intro @tfA (And.intro @Ex.settle_pv (And.intro @Ex.pure_pv (And.intro @Ex.cells_pv (And.intro @Ex.cs.eq_1 (And.intro @On.pv.eq_1 (And.intro @Ty.pv.eq_1 (And.intro @Va.settle_pv (And.intro @Va.pure_pv (And.intro @Va.cells_pv (And.intro @Va.cs.eq_1 (And.intro @No.settle_pv (And.intro @No.pure_pv (And.intro @No.cells_pv (And.intro @En.settle_pv (And.intro @En.pure_pv @En.cells_pv)))))))))))))))

def awT : Str := ⟨#[49, 32, 43, 32, 50, 32, 42, 32, 120]⟩
theorem aw_k : (txtExpr awT).2.1 = 0 := by kernel_rfl
theorem aw_kind : (txtExpr awT).1.kind = 7 := by kernel_rfl
theorem aw_op : (txtExpr awT).1.op = 3 := by kernel_rfl
theorem aw_len : (txtExpr awT).1.kids.length = 2 := by kernel_rfl
theorem aw_mul : ((txtExpr awT).1.kids.getD 1 z0).op = 5 := by kernel_rfl
set_option maxHeartbeats 4000000 in
theorem awake_any (m : M) : ACalls Tryz.prog 6 [] m (fun v m' => v = pB true ∧ m' = m) := by
 have hP := parseExpr_any awT (by decide) m
 have h1 := aw_k
 have h2 := aw_kind
 have h3 := aw_op
 have h4 := aw_len
 have h5 := aw_mul
 obtain ⟨T, hT⟩ : ∃ T, txtExpr awT = T := ⟨_, rfl⟩
 rw [hT] at hP h1 h2 h3 h4 h5
 obtain ⟨e, k, a, b⟩ := T
 simp only at hP h1 h2 h3 h4 h5
 subst h1
 obtain ⟨x, y, hk⟩ : ∃ x y, e.kids = [x, y] := by
  match hq : e.kids, h4 with
  | [x, y], _ => exact ⟨x, y, rfl⟩
 rw [hk] at h5
 have h5 : y.op = 5 := h5
 refine eN [1] Tryz.func6 ?_
 (repeat revert X); refine wE aEQ_t ?_; repeat intro X hX
 refine callM hP ?_
 rintro v m' ⟨hv, hm⟩
 subst hm
 subst hv
 have he : errW 0 a b = .v .nilIface := rfl
 have hcs : e.cs = [.v (.int .u8 e.kind), .v (.int .u8 e.op), .v (.int .i32 e.n), .v (.string e.name), .sl .no (e.names.map pS), .sl .no (e.kids.map Ex.pv), .v (.int .i64 e.line), .v (.int .i64 e.col)] := rfl
 have hcy : y.cs = [.v (.int .u8 y.kind), .v (.int .u8 y.op), .v (.int .i32 y.n), .v (.string y.name), .sl .no (y.names.map pS), .sl .no (y.kids.map Ex.pv), .v (.int .i64 y.line), .v (.int .i64 y.col)] := rfl
 have h22 : (((2 : Nat) : Int) == 2) = true := rfl
 rw [he, Ex.pv_eq, hcs, hk, h2, h3]
 refine wS tfPsL ?_
 (repeat revert X); refine wD (And.intro tfPsL (And.intro h5 (And.intro h22 Ex.pv_eq))) ?_; repeat intro X hX
 refine wR Tryz.results6 ?_
 exact leave_ext rfl ⟨rfl, rfl⟩
set_option maxHeartbeats 1000000 in
theorem repeat_any (s : Str) (n : Nat) (hb : n * s.size ≤ 100000) (hn : n ≤ 100000) (m : M) : ACalls Tryz.prog 12 [pS s, pI n] m (fun v m' => (∃ t : Str, v = pS t ∧ t.size = n * s.size) ∧ m' = m) := by
 refine eN [] Tryz.func12 ?_
 (repeat revert X); refine wE aEQ_t ?_; repeat intro X hX
 obtain ⟨I, hI⟩ : ∃ I : F → M → Prop, ∀ f m', I f m' = (∃ (k : Nat) (t : Str), k ≤ n ∧ t.size = k * s.size ∧ f 0 = pS s ∧ f 1 = pI n ∧ f 5 = pS t ∧ f 6 = pI k ∧ m = m') := ⟨_, fun _ _ => rfl⟩
 refine aLoop I (fun f m => n - numOf (f 6)) ?_ ?_
 ·rw [hI]; exact ⟨0, _, by omega, by rw [Nat.zero_mul]; rfl, rfl, rfl, rfl, rfl, rfl⟩
 intro f m' hrel
 rw [hI] at hrel
 obtain ⟨k, t, hk, ht, f0, f1, f5, f6, hm⟩ := hrel
 subst hm
 cases hb2 : decide ((k : Int) < (n : Int)) with
 | true =>
  have hlt : k < n := by simpa using hb2
  have hi : IntKind.i64.wrap ((k : Int) + 1) = ((k + 1 : Nat) : Int) := by rw [wrap64 (by omega)]; omega
  have hz : (k + 1) * s.size = k * s.size + s.size := Nat.succ_mul _ _
  have hz2 : (k + 1) * s.size ≤ n * s.size := Nat.mul_le_mul_right _ hlt
  have hsz : ((t.size + s.size : Nat) : Int) ≤ 9223372036854775807 := by omega
  (repeat (first | refine aSeq fun X hX => ?_ | refine aBlk ?_ | refine aSkip ?_ | (first | apply aReg | apply aIf); simp -implicitDefEqProofs only [↓slp, slb, ↓reduceIte, reduceCtorEq, jA, f0, f1, f5, f6, pI, pS, hb2, hi, hsz] | apply hX; clear hX X))
  rw [hI]
  refine ⟨⟨k + 1, t ++ s, hlt, by rw [ByteArray.size_append, ht, hz], f0, f1, rfl, rfl, rfl⟩, ?_⟩
  first | omega | (simp only [↓slp, slb, ↓reduceIte, reduceCtorEq, jA, jB, jC, jD, jE, jF, jG, jH, jI, jJ, jK, f6, pI, numOf, Int.toNat_natCast]; omega)
 | false =>
  have hlt : k = n := by simp at hb2; omega
  subst hlt
  (repeat revert X); refine wE (And.intro f1 (And.intro f5 (And.intro f6 (And.intro @pI.eq_1 (And.intro @pS.eq_1 hb2))))) ?_; repeat intro X hX
  refine wR Tryz.results12 ?_
  exact leave_same rfl ⟨⟨t, rfl, ht⟩, rfl⟩
set_option maxHeartbeats 4000000 in
theorem same_any (s : Str) (hs : s.size ≤ 281474976710656) (m : M) : ACalls Tryz.prog 13 [pS s] m (fun v m' => v = pB true ∧ m' = m) := by
 have hP := parseProg_any s hs
 have hR := refProg_any s
 have hK := txtProg_kd s
 generalize txtProg s = T at *
 obtain ⟨⟨E, l⟩, k, a, b⟩ := T
 simp only at hP hR hK
 refine eN [3, 5, 7] Tryz.func13 ?_
 (repeat revert X); refine wE aEQ_t ?_; repeat intro X hX
 refine callM (hP _) ?_
 rintro v m' ⟨hv, hm⟩
 subst hm
 subst hv
 refine wS tfPsL ?_
 (repeat revert X); refine wE aEQ_t ?_; repeat intro X hX
 refine callM (hR _) ?_
 rintro v m' ⟨rfl, rfl⟩
 refine wS tfPsL ?_
 (repeat revert X); refine wD aEQ_t ?_; repeat intro X hX
 refine callE (errKind_any hK _) ?_
 refine wS aEQ_t ?_
 refine callE (errWhere_any hK _) ?_
 refine wS tfPsL ?_
 refine callE (sPr_any E l _) ?_
 refine wS aEQ_t ?_
 (repeat revert X); refine wE tfPsL ?_; repeat intro X hX
 refine callE (aPr_any E l _) ?_
 refine wS aEQ_t ?_
 (repeat revert X); refine wE aEQ_t ?_; repeat intro X hX
 refine wR Tryz.results13 ?_
 exact leave_ext rfl ⟨rfl, rfl⟩

def tfPsM := tfPsL

set_option maxHeartbeats 8000000 in
theorem parsedeep_any (n h : Int) (hn : 0 ≤ n ∧ n ≤ 255) (hh : 0 ≤ h ∧ h ≤ 255) (m : M) : ACalls Tryz.prog 4 [.v (.int .u8 n), .v (.int .u8 h)] m (fun v m' => v = pB true ∧ m' = m) := by
 obtain ⟨r, hr, hr2⟩ : ∃ r : Nat, n.tmod 15 = (r : Int) ∧ r < 15 := by
  have h1 := Int.tmod_nonneg 15 hn.1
  have h2 := Int.tmod_lt_of_pos n (show (0 : Int) < 15 by decide)
  exact ⟨(n.tmod 15).toNat, by omega, by omega⟩
 have hw1 : IntKind.i64.wrap n = n := wrap64 (by omega)
 have hw2 : IntKind.i64.wrap (r : Int) = (r : Int) := wrap64 (by omega)
 have hw3 : IntKind.i64.wrap (55 + (r : Int)) = ((55 + r : Nat) : Int) := by rw [wrap64 (by omega)]; omega
 have hq : h.tmod 6 = 0 ∨ h.tmod 6 = 1 ∨ h.tmod 6 = 2 ∨ h.tmod 6 = 3 ∨ h.tmod 6 = 4 ∨ h.tmod 6 = 5 := by
  have h1 := Int.tmod_nonneg 6 hh.1
  have h2 := Int.tmod_lt_of_pos h (show (0 : Int) < 6 by decide)
  omega
 refine eN [7, 9, 11] Tryz.func4 ?_
 (repeat revert X); refine wE aEQ_t ?_; repeat intro X hX
 refine callE (awake_any _) ?_
 refine wS aEQ_t ?_
 (repeat revert X); refine wE (And.intro tfPsM (And.intro hr (And.intro hw1 hw3))) ?_; repeat intro X hX
 have join : ∀ (f : F) (t : Str), t.size ≤ 10000 → f 5 = pI (55 + r : Nat) → f 6 = pS t → X f m := by
  intro f t ht f5 f6
  refine hX _ _ ?_
  clear hX
  refine vE (And.intro f6 @pS.eq_1) ?_; repeat intro X hX
  have hP := parseExpr_any t (by omega)
  have hR := refExpr_any t
  have hK := txtExpr_kd t
  generalize txtExpr t = T at *
  obtain ⟨e, k, a, b⟩ := T
  simp only at hP hR hK
  refine callM (hP _) ?_
  rintro v m' ⟨hv, hm⟩
  subst hm
  subst hv
  have hcs : e.cs = [.v (.int .u8 e.kind), .v (.int .u8 e.op), .v (.int .i32 e.n), .v (.string e.name), .sl .no (e.names.map pS), .sl .no (e.kids.map Ex.pv), .v (.int .i64 e.line), .v (.int .i64 e.col)] := rfl
  have hat : PV.ag e.cs = e.pv := (Ex.pv_eq e).symm
  refine wS tfPsM ?_
  (repeat (first | refine aSeq fun X hX => ?_ | refine aReg ?_; simp -implicitDefEqProofs only [↓slp, slb, ↓reduceIte, jA, jF, tfPsM, f6, pS]; try simp only [fo] | apply hX; clear hX X))
  refine callM (hR _) ?_
  rintro v m' ⟨rfl, rfl⟩
  refine wS tfPsM ?_
  (repeat (first | refine aSeq fun X hX => ?_ | refine aReg ?_; simp -implicitDefEqProofs only [↓slp, slb, ↓reduceIte, jA, jF, tfPsM, f5, pI]; try simp only [fo] | apply hX; clear hX X))
  have y1 : (⟨#[114, 101, 115, 101, 116, 32, 100, 111, 32]⟩ : Str).size = 9 := rfl
  have y2 : (⟨#[101, 118, 101, 114, 121, 32, 116, 114, 117, 101, 59, 32]⟩ : Str).size = 12 := rfl
  have y3 : (⟨#[110, 111, 100, 101, 32, 102, 40, 41, 32, 114, 101, 116, 117, 114, 110, 115, 32, 40, 120, 58, 32, 105, 110, 116, 41, 32, 108, 101, 116, 32]⟩ : Str).size = 30 := rfl
  have y4 : (⟨#[120, 32, 61, 32, 49, 59, 32]⟩ : Str).size = 7 := rfl
  have y5 : (⟨#[116, 101, 108]⟩ : Str).size = 3 := rfl
  refine callM (repeat_any _ (55 + r) (by rw [y1]; omega) (by omega) _) ?_
  rintro v m' ⟨⟨u1, hv, hu1⟩, hm⟩
  subst hm
  subst hv
  rw [y1] at hu1
  have := ByteArray.size_append (a := (⟨#[110, 111, 100, 101, 32, 102, 40, 41, 32, 114, 101, 116, 117, 114, 110, 115, 32, 40, 120, 58, 32, 105, 110, 116, 41, 32, 108, 101, 116, 32]⟩ : Str)) (b := u1)
  have := ByteArray.size_append (a := ((⟨#[110, 111, 100, 101, 32, 102, 40, 41, 32, 114, 101, 116, 117, 114, 110, 115, 32, 40, 120, 58, 32, 105, 110, 116, 41, 32, 108, 101, 116, 32]⟩ : Str) ++ u1)) (b := (⟨#[120, 32, 61, 32, 49, 59, 32]⟩ : Str))
  refine wS (And.intro tfPsM f5) ?_
  (repeat (apply And.intro; focus omega))
  refine callM (repeat_any _ (55 + r) (by rw [y2]; omega) (by omega) _) ?_
  rintro v m' ⟨⟨u2, hv, hu2⟩, hm⟩
  subst hm
  subst hv
  rw [y2] at hu2
  have := ByteArray.size_append (a := ((⟨#[110, 111, 100, 101, 32, 102, 40, 41, 32, 114, 101, 116, 117, 114, 110, 115, 32, 40, 120, 58, 32, 105, 110, 116, 41, 32, 108, 101, 116, 32]⟩ : Str) ++ u1 ++ (⟨#[120, 32, 61, 32, 49, 59, 32]⟩ : Str))) (b := u2)
  have := ByteArray.size_append (a := ((⟨#[110, 111, 100, 101, 32, 102, 40, 41, 32, 114, 101, 116, 117, 114, 110, 115, 32, 40, 120, 58, 32, 105, 110, 116, 41, 32, 108, 101, 116, 32]⟩ : Str) ++ u1 ++ (⟨#[120, 32, 61, 32, 49, 59, 32]⟩ : Str) ++ u2)) (b := (⟨#[116, 101, 108]⟩ : Str))
  refine wS tfPsM ?_
  (repeat (first | refine aSeq fun X hX => ?_ | refine aDrE ?_; simp -implicitDefEqProofs only [↓slp, slb, ↓reduceIte, jA, jF, tfPsM, pI, pS]; try simp only [fo] | apply hX; clear hX X | apply And.intro; focus omega))
  refine callE (errKind_any hK _) ?_
  refine wS tfPsM ?_
  refine callE (errWhere_any hK _) ?_
  refine wS tfPsM ?_
  refine callE (sAt_any e _) ?_
  refine wS tfPsM ?_
  refine callE (same_any _ (by omega) _) ?_
  refine wS tfPsM ?_
  (repeat (first | refine aRet ?_ | apply hX; clear hX X))
  simp only [aPost, Tryz.results4, aRes_n, aRes_t, aRes_c, pack_one, pack_two]
  exact leave_ext rfl ⟨rfl, rfl⟩
 clear hX
 rcases hq with hq | hq | hq | hq | hq | hq
 ·have w0 : IntKind.u8.wrap 0 = 0 := rfl
  have q0 : ((0 : Int) == 0) = true := rfl
  have q1 : ((0 : Int) == 1) = false := rfl
  have q2 : ((0 : Int) == 2) = false := rfl
  have q3 : ((0 : Int) == 3) = false := rfl
  have q4 : ((0 : Int) == 4) = false := rfl
  have q5 : ((0 : Int) == 5) = false := rfl
  refine wS hq ?_
  have z_11 : (⟨#[40]⟩ : Str).size = 1 := rfl
  have z_12 : (⟨#[120]⟩ : Str).size = 1 := rfl
  have z_13 : (⟨#[41]⟩ : Str).size = 1 := rfl
  refine vE aEQ_t ?_; repeat intro X hX
  refine callM (repeat_any _ (55 + r) (by rw [z_11]; omega) (by omega) _) ?_
  rintro v m' ⟨⟨t11, hv, ht11⟩, hm⟩
  subst hm
  subst hv
  rw [z_11] at ht11
  have := ByteArray.size_append (a := t11) (b := (⟨#[120]⟩ : Str))
  simp -implicitDefEqProofs only [↓slp, slb, ↓reduceIte, jA, jF, pS]
  (repeat (apply And.intro; focus omega))
  refine callM (repeat_any _ (55 + r) (by rw [z_13]; omega) (by omega) _) ?_
  rintro v m' ⟨⟨t13, hv, ht13⟩, hm⟩
  subst hm
  subst hv
  rw [z_13] at ht13
  have := ByteArray.size_append (a := (t11 ++ (⟨#[120]⟩ : Str))) (b := t13)
  simp -implicitDefEqProofs only [↓slp, slb, ↓reduceIte, jA, jF, pS]
  (repeat (apply And.intro; focus omega))
  exact join _ ((t11 ++ (⟨#[120]⟩ : Str)) ++ t13) (by (try simp only [ByteArray.size_append, z_11, z_12, z_13]); omega) rfl rfl
 ·have w0 : IntKind.u8.wrap 1 = 1 := rfl
  have q0 : ((1 : Int) == 0) = false := rfl
  have q1 : ((1 : Int) == 1) = true := rfl
  have q2 : ((1 : Int) == 2) = false := rfl
  have q3 : ((1 : Int) == 3) = false := rfl
  have q4 : ((1 : Int) == 4) = false := rfl
  have q5 : ((1 : Int) == 5) = false := rfl
  refine wS (And.intro hq q0) ?_
  have z_14 : (⟨#[110, 111, 116, 32]⟩ : Str).size = 4 := rfl
  have z_15 : (⟨#[120]⟩ : Str).size = 1 := rfl
  refine vE aEQ_t ?_; repeat intro X hX
  refine callM (repeat_any _ (55 + r) (by rw [z_14]; omega) (by omega) _) ?_
  rintro v m' ⟨⟨t14, hv, ht14⟩, hm⟩
  subst hm
  subst hv
  rw [z_14] at ht14
  have := ByteArray.size_append (a := t14) (b := (⟨#[120]⟩ : Str))
  simp -implicitDefEqProofs only [↓slp, slb, ↓reduceIte, jF, pS]
  (repeat (apply And.intro; focus omega))
  exact join _ (t14 ++ (⟨#[120]⟩ : Str)) (by (try simp only [ByteArray.size_append, z_14, z_15]); omega) rfl rfl
 ·have w0 : IntKind.u8.wrap 2 = 2 := rfl
  have q0 : ((2 : Int) == 0) = false := rfl
  have q1 : ((2 : Int) == 1) = false := rfl
  have q2 : ((2 : Int) == 2) = true := rfl
  have q3 : ((2 : Int) == 3) = false := rfl
  have q4 : ((2 : Int) == 4) = false := rfl
  have q5 : ((2 : Int) == 5) = false := rfl
  refine wS (And.intro hq q0) ?_
  have z_16 : (⟨#[120]⟩ : Str).size = 1 := rfl
  have z_17 : (⟨#[32, 43, 32, 120]⟩ : Str).size = 4 := rfl
  refine vE q1 ?_; repeat intro X hX
  refine callM (repeat_any _ (55 + r) (by rw [z_17]; omega) (by omega) _) ?_
  rintro v m' ⟨⟨t17, hv, ht17⟩, hm⟩
  subst hm
  subst hv
  rw [z_17] at ht17
  have := ByteArray.size_append (a := (⟨#[120]⟩ : Str)) (b := t17)
  simp -implicitDefEqProofs only [↓slp, slb, ↓reduceIte, jF, pS]
  (repeat (apply And.intro; focus omega))
  exact join _ ((⟨#[120]⟩ : Str) ++ t17) (by (try simp only [ByteArray.size_append, z_16, z_17]); omega) rfl rfl
 ·have w0 : IntKind.u8.wrap 3 = 3 := rfl
  have q0 : ((3 : Int) == 0) = false := rfl
  have q1 : ((3 : Int) == 1) = false := rfl
  have q2 : ((3 : Int) == 2) = false := rfl
  have q3 : ((3 : Int) == 3) = true := rfl
  have q4 : ((3 : Int) == 4) = false := rfl
  have q5 : ((3 : Int) == 5) = false := rfl
  refine wS (And.intro hq q0) ?_
  have z_18 : (⟨#[120]⟩ : Str).size = 1 := rfl
  have z_19 : (⟨#[32, 119, 104, 101, 110, 32, 67, 40, 121, 41]⟩ : Str).size = 10 := rfl
  refine vE (And.intro q1 q2) ?_; repeat intro X hX
  refine callM (repeat_any _ (55 + r) (by rw [z_19]; omega) (by omega) _) ?_
  rintro v m' ⟨⟨t19, hv, ht19⟩, hm⟩
  subst hm
  subst hv
  rw [z_19] at ht19
  have := ByteArray.size_append (a := (⟨#[120]⟩ : Str)) (b := t19)
  simp -implicitDefEqProofs only [↓slp, slb, ↓reduceIte, jF, pS]
  (repeat (apply And.intro; focus omega))
  exact join _ ((⟨#[120]⟩ : Str) ++ t19) (by (try simp only [ByteArray.size_append, z_18, z_19]); omega) rfl rfl
 ·have w0 : IntKind.u8.wrap 4 = 4 := rfl
  have q0 : ((4 : Int) == 0) = false := rfl
  have q1 : ((4 : Int) == 1) = false := rfl
  have q2 : ((4 : Int) == 2) = false := rfl
  have q3 : ((4 : Int) == 3) = false := rfl
  have q4 : ((4 : Int) == 4) = true := rfl
  have q5 : ((4 : Int) == 5) = false := rfl
  refine wS (And.intro hq q0) ?_
  have z_20 : (⟨#[105, 102, 32, 120, 32, 116, 104, 101, 110, 32]⟩ : Str).size = 10 := rfl
  have z_21 : (⟨#[120]⟩ : Str).size = 1 := rfl
  have z_22 : (⟨#[32, 101, 108, 115, 101, 32, 120]⟩ : Str).size = 7 := rfl
  refine vE (And.intro q1 (And.intro q2 q3)) ?_; repeat intro X hX
  refine callM (repeat_any _ (55 + r) (by rw [z_20]; omega) (by omega) _) ?_
  rintro v m' ⟨⟨t20, hv, ht20⟩, hm⟩
  subst hm
  subst hv
  rw [z_20] at ht20
  have := ByteArray.size_append (a := t20) (b := (⟨#[120]⟩ : Str))
  simp -implicitDefEqProofs only [↓slp, slb, ↓reduceIte, jA, jF, pS]
  (repeat (apply And.intro; focus omega))
  refine callM (repeat_any _ (55 + r) (by rw [z_22]; omega) (by omega) _) ?_
  rintro v m' ⟨⟨t22, hv, ht22⟩, hm⟩
  subst hm
  subst hv
  rw [z_22] at ht22
  have := ByteArray.size_append (a := (t20 ++ (⟨#[120]⟩ : Str))) (b := t22)
  simp -implicitDefEqProofs only [↓slp, slb, ↓reduceIte, jA, jF, pS]
  (repeat (apply And.intro; focus omega))
  exact join _ ((t20 ++ (⟨#[120]⟩ : Str)) ++ t22) (by (try simp only [ByteArray.size_append, z_20, z_21, z_22]); omega) rfl rfl
 ·have w0 : IntKind.u8.wrap 5 = 5 := rfl
  have q0 : ((5 : Int) == 0) = false := rfl
  have q1 : ((5 : Int) == 1) = false := rfl
  have q2 : ((5 : Int) == 2) = false := rfl
  have q3 : ((5 : Int) == 3) = false := rfl
  have q4 : ((5 : Int) == 4) = false := rfl
  have q5 : ((5 : Int) == 5) = true := rfl
  refine wS (And.intro hq q0) ?_
  have z_23 : (⟨#[120]⟩ : Str).size = 1 := rfl
  have z_24 : (⟨#[32, 45, 62, 32, 120]⟩ : Str).size = 5 := rfl
  refine vE (And.intro q1 (And.intro q2 (And.intro q3 q4))) ?_; repeat intro X hX
  refine callM (repeat_any _ (55 + r) (by rw [z_24]; omega) (by omega) _) ?_
  rintro v m' ⟨⟨t24, hv, ht24⟩, hm⟩
  subst hm
  subst hv
  rw [z_24] at ht24
  have := ByteArray.size_append (a := (⟨#[120]⟩ : Str)) (b := t24)
  simp -implicitDefEqProofs only [↓slp, slb, ↓reduceIte, jF, pS]
  (repeat (apply And.intro; focus omega))
  exact join _ ((⟨#[120]⟩ : Str) ++ t24) (by (try simp only [ByteArray.size_append, z_23, z_24]); omega) rfl rfl
end Go.Proofs.YtohgdopfjkjppaaGreatDoor
