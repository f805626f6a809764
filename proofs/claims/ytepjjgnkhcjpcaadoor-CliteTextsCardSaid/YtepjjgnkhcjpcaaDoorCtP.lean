/-
  clite's printer, and the law's plain and tidy, walked.
-/
import Derived.Test.YtepjjgnkhcjpcaaDoorCtS
import Derived.Test.YtepjjgnkhcjpcaaDoorAbKit
import Derived.Test.YtepjjgnkhcjpcaaDoorAbT
import Derived.Test.YtepjjgnkhcjpcaaDoorAbMk8c
set_option linter.unusedVariables false
set_option linter.unusedSimpArgs false
namespace Go.Proofs.YtepjjgnkhcjpcaaDoor
open Nat renaming reduceEqDiff → jA, reduceAdd → jB, reduceMul → jC, reduceLT → jD, reduceLeDiff → jE, reduceBEq → jF, reduceBNe → jG
open Int renaming reduceLE → jH, reduceLT → jI, reduceToNat → jJ, reduceEq → jK
open Go
-- EXX: CE.settle_pv, CE.pure_pv, CE.cells_pv, CE.cs
set_option maxRecDepth 20000
-- TNAMES: int; uint8; int32; string; bool; []clite.Expr; clite.Expr; [17]string; []int
set_option linter.defProp false
def tfCtP := And.intro @tfA (And.intro @Ex.settle_pv (And.intro @Ex.pure_pv (And.intro @Ex.cells_pv (And.intro @Ex.cs.eq_1 (And.intro @On.pv.eq_1 (And.intro @Ty.pv.eq_1 (And.intro @Va.settle_pv (And.intro @Va.pure_pv (And.intro @Va.cells_pv (And.intro @Va.cs.eq_1 (And.intro @CE.settle_pv (And.intro @CE.pure_pv (And.intro @CE.cells_pv @CE.cs.eq_1)))))))))))))

def bS (l : Bs) : Str := ⟨l.toArray⟩
theorem bS_app (a b : Bs) : bS a ++ bS b = bS (a ++ b) := by
  unfold bS
  apply ByteArray.ext
  simp [ByteArray.data_append]
theorem bS_size (a : Bs) : (bS a).size = a.length := by simp [bS, ByteArray.size]
theorem bS_str (s : Str) : bS s.data.toList = s := by cases s; simp [bS]
theorem sgn_at (o : Nat) (h : o ≤ 16) : 0 < (List.drop (o * 1) [PV.v (.string ⟨#[63]⟩), .v (.string ⟨#[33]⟩), .v (.string ⟨#[110, 101, 103]⟩), .v (.string ⟨#[97, 100, 100]⟩), .v (.string ⟨#[115, 117, 98]⟩), .v (.string ⟨#[109, 117, 108]⟩), .v (.string ⟨#[100, 105, 118]⟩), .v (.string ⟨#[109, 111, 100]⟩), .v (.string ⟨#[38, 38]⟩), .v (.string ⟨#[124, 124]⟩), .v (.string ⟨#[120, 111, 114]⟩), .v (.string ⟨#[61, 61]⟩), .v (.string ⟨#[33, 61]⟩), .v (.string ⟨#[60]⟩), .v (.string ⟨#[60, 61]⟩), .v (.string ⟨#[62]⟩), .v (.string ⟨#[62, 61]⟩)]).length ∧ (List.drop (o * 1) [PV.v (.string ⟨#[63]⟩), .v (.string ⟨#[33]⟩), .v (.string ⟨#[110, 101, 103]⟩), .v (.string ⟨#[97, 100, 100]⟩), .v (.string ⟨#[115, 117, 98]⟩), .v (.string ⟨#[109, 117, 108]⟩), .v (.string ⟨#[100, 105, 118]⟩), .v (.string ⟨#[109, 111, 100]⟩), .v (.string ⟨#[38, 38]⟩), .v (.string ⟨#[124, 124]⟩), .v (.string ⟨#[120, 111, 114]⟩), .v (.string ⟨#[61, 61]⟩), .v (.string ⟨#[33, 61]⟩), .v (.string ⟨#[60]⟩), .v (.string ⟨#[60, 61]⟩), .v (.string ⟨#[62]⟩), .v (.string ⟨#[62, 61]⟩)]).getD 0 PV.junk = .v (.string (bS (sgn o))) := by
  have : o = 0 ∨ o = 1 ∨ o = 2 ∨ o = 3 ∨ o = 4 ∨ o = 5 ∨ o = 6 ∨ o = 7 ∨ o = 8 ∨ o = 9 ∨ o = 10 ∨ o = 11 ∨ o = 12 ∨ o = 13 ∨ o = 14 ∨ o = 15 ∨ o = 16 := by omega
  rcases this with rfl | rfl | rfl | rfl | rfl | rfl | rfl | rfl | rfl | rfl | rfl | rfl | rfl | rfl | rfl | rfl | rfl <;> exact ⟨by decide, rfl⟩
theorem sgn_len : ∀ o, (sgn o).length ≤ 3 := by
  intro o
  unfold sgn
  split <;> simp
set_option maxHeartbeats 2000000 in
theorem sign_any (o : Nat) (h : o ≤ 16) (m : M) : ACalls Tryd.prog 17 [.v (.int .u8 (o : Int))] m (fun v m' => v = .v (.string (bS (sgn o))) ∧ m' = m) := by
  have w1 : IntKind.i64.wrap (o : Int) = o := wrap64 (by omega)
  have c1 : decide ((o : Int) ≥ 17) = false := by simp; omega
  obtain ⟨g0, g1⟩ := sgn_at o h
  refine ACalls.enter (mu := []) ok_mix Tryd.func17 rfl (by kernel_rfl) (by kernel_rfl) (by simp only [List.length_cons, List.length_nil, Tryd.ntmps17]; omega) ?_
  (repeat (first | refine aSeq fun X hX => ?_ | refine aBlk ?_ | refine aSkip ?_ | (first | refine aExit ?_ | refine aRet ?_); try simp only [slx, ↓reduceIte, Nat.reduceEqDiff, reduceCtorEq] | (first | refine aReg ?_ | refine aIf ?_); simp -implicitDefEqProofs only [forall_eq, ↓slp, slb, ↓reduceIte, reduceCtorEq, jA, jB, jC, jD, jE, jF, jG, jH, jI, jJ, jK, tfCtP, w1, c1, g0, g1]; try simp only [Ex.fold, Ex.foldcs, ← Va.pv.eq_1] | refine hX _ _ ?_; clear hX X | clear hX X; refine hX _ _ ?_; clear hX X | clear hX X; clear hX X; refine hX _ _ ?_; clear hX X | intro hlen; unfold maxLen at hlen | apply And.intro; focus (first | omega | assumption | (repeat' apply And.intro) <;> first | omega | assumption)))
  simp only [aPost, Tryd.results17, aRes_n, aRes_t, aRes_c, pack_one, pack_two]
  exact leave_same rfl ⟨rfl, rfl⟩
theorem itoa_len {n : Int} (h0 : -100 ≤ n) (h1 : n ≤ 155) : (Lib.itoa n).length ≤ 4 := by
  have key : ∀ k : Fin 160, (dg3 k.val).length ≤ 3 := by decide +kernel
  by_cases hn : n < 0
  · obtain ⟨k, hk, _⟩ := itoa_neg hn h0
    have := key k
    rw [hk, List.length_cons]; omega
  · obtain ⟨k, hk, _⟩ := itoa_pos hn h1
    have := key k
    rw [hk]; omega
def lenT : Nat → Nat
  | 0 => 8
  | d + 1 => 3 * lenT d + 16
theorem txt_len : ∀ {d : Nat} {e : CE}, TX d e → e.plain = true → e.txt.length ≤ lenT d := by
  intro d
  have h8 : ∀ d, 8 ≤ lenT d := fun d => by
    induction d with
    | zero => exact Nat.le_refl _
    | succ d ih => unfold lenT; omega
  have hnum : ∀ d n, -100 ≤ n → n ≤ 155 → (CE.mk 1 0 n eS []).txt.length ≤ lenT d := fun d n h0 h1 => by
    have := itoa_len h0 h1
    have := h8 d
    show (if n < 0 then [40] ++ Lib.itoa n ++ [41] else Lib.itoa n).length ≤ _
    split
    · simp; omega
    · omega
  have hloc : ∀ d t, t < 4 → (CE.mk 2 0 0 (⟨#[118]⟩ ++ strOf [((97 + t : Nat) : Int)]) []).txt.length ≤ lenT d := fun d t ht => by
    have := h8 d
    have : t = 0 ∨ t = 1 ∨ t = 2 ∨ t = 3 := by omega
    refine Nat.le_trans (m := 2) ?_ (by omega)
    rcases this with rfl | rfl | rfl | rfl <;> decide
  have hfld : ∀ d nm, (nm = ⟨#[102, 97]⟩ ∨ nm = ⟨#[102, 98]⟩ ∨ nm = ⟨#[112]⟩ ∨ nm = ⟨#[110, 111]⟩) → (CE.mk 3 0 0 nm []).txt.length ≤ lenT d := fun d nm hn => by
    have := h8 d
    refine Nat.le_trans (m := 8) ?_ (by omega)
    rcases hn with rfl | rfl | rfl | rfl <;> decide
  induction d with
  | zero =>
    intro e h hp
    cases h with
    | num d n h0 h1 => exact hnum _ n h0 h1
    | loc d t ht => exact hloc _ t ht
    | fld d nm hn => exact hfld _ nm hn
  | succ d ih =>
    intro e h hp
    have h0 := h8 d
    have hl : lenT (d + 1) = 3 * lenT d + 16 := rfl
    cases h with
    | num d n h0 h1 => exact hnum _ n h0 h1
    | loc d t ht => exact hloc _ t ht
    | fld d nm hn => exact hfld _ nm hn
    | un d t a h0 h1 ha =>
      obtain ⟨_, _, hp⟩ := plain_mk hp
      have hpa : a.plain = true := by simpa [CE.plains] using hp
      have := ih ha hpa
      have hs := sgn_len t
      show (if (t : Int) = 2 then [110, 101, 103, 40] ++ a.txt ++ [41] else [40] ++ sgn (t : Int).toNat ++ a.txt ++ [41]).length ≤ _
      rw [Int.toNat_natCast]
      split <;> simp <;> omega
    | cond d a b c ha hb hc =>
      obtain ⟨_, _, hp⟩ := plain_mk hp
      obtain ⟨hpa, hpb, hpc⟩ : a.plain = true ∧ b.plain = true ∧ c.plain = true := by simpa [CE.plains] using hp
      have := ih ha hpa
      have := ih hb hpb
      have := ih hc hpc
      show ([40] ++ a.txt ++ [32, 63, 32] ++ b.txt ++ [32, 58, 32] ++ c.txt ++ [41]).length ≤ _
      simp; omega
    | bin d u a b h0 h1 ha hb =>
      obtain ⟨_, _, hp⟩ := plain_mk hp
      obtain ⟨hpa, hpb⟩ : a.plain = true ∧ b.plain = true := by simpa [CE.plains] using hp
      have := ih ha hpa
      have := ih hb hpb
      have hs := sgn_len u
      show (if fnO (u : Int).toNat = true then sgn (u : Int).toNat ++ [40] ++ a.txt ++ [44, 32] ++ b.txt ++ [41] else [40] ++ a.txt ++ [32] ++ sgn (u : Int).toNat ++ [32] ++ b.txt ++ [41]).length ≤ _
      rw [Int.toNat_natCast]
      split <;> simp <;> omega
    | odd d t ht =>
      have : t = 0 ∨ t = 1 ∨ t = 2 ∨ t = 3 ∨ t = 4 ∨ t = 5 ∨ t = 6 ∨ t = 7 ∨ t = 8 := by omega
      rcases this with rfl | rfl | rfl | rfl | rfl | rfl | rfl | rfl | rfl <;> first | (exfalso; revert hp; decide) | skip
      have := hnum d 1 (by omega) (by omega)
      show ([40] ++ [63] ++ (CE.mk 1 0 1 eS []).txt ++ [41]).length ≤ _
      simp; omega
def PrC (d : Nat) : Prop := ∀ e, TX d e → e.plain = true → ∀ m : M, ACalls Tryd.prog 9 [e.pv] m (fun v m' => v = .v (.string (bS e.txt)) ∧ m' = m)
theorem k40 : (⟨#[40]⟩ : ByteArray) = bS [40] := rfl
theorem k41 : (⟨#[41]⟩ : ByteArray) = bS [41] := rfl
theorem k32 : (⟨#[32]⟩ : ByteArray) = bS [32] := rfl
theorem k44 : (⟨#[44, 32]⟩ : ByteArray) = bS [44, 32] := rfl
theorem k63 : (⟨#[32, 63, 32]⟩ : ByteArray) = bS [32, 63, 32] := rfl
theorem k58 : (⟨#[32, 58, 32]⟩ : ByteArray) = bS [32, 58, 32] := rfl
theorem kse : (⟨#[115, 101, 108, 102, 45, 62]⟩ : ByteArray) = bS [115, 101, 108, 102, 45, 62] := rfl
theorem kne : (⟨#[110, 101, 103, 40]⟩ : ByteArray) = bS [110, 101, 103, 40] := rfl
theorem bS_of (s : Str) : s = bS s.data.toList := (bS_str s).symm
set_option maxHeartbeats 2000000 in
theorem prNum_any (n : Int) (h0 : -100 ≤ n) (h1 : n ≤ 155) (m : M) : ACalls Tryd.prog 9 [(CE.mk 1 0 n eS []).pv] m (fun v m' => v = .v (.string (bS (CE.mk 1 0 n eS []).txt)) ∧ m' = m) := by
  have e : (CE.mk 1 0 n eS []).pv = .ag [.v (.int .u8 1), .v (.int .u8 0), .v (.int .i32 n), .v (.string eS), .sl .no []] := by simp [CE.pv, CE.pvs]
  have w1 : IntKind.i64.wrap n = n := wrap64 (by omega)
  have hi := fun m => itoa_any n (by omega) (by omega) m
  have hl := itoa_len h0 h1
  have hz : ∀ l : Bs, (⟨l.toArray⟩ : ByteArray) = bS l := fun l => rfl
  simp only [hz] at hi
  rw [e]
  cases c1 : decide (n < 0) with
  | true =>
    have hn : n < 0 := by simpa using c1
    have ht : (CE.mk 1 0 n eS []).txt = [40] ++ Lib.itoa n ++ [41] := by
      show (if n < 0 then [40] ++ Lib.itoa n ++ [41] else Lib.itoa n) = _
      rw [if_pos hn]
    rw [ht]
    refine ACalls.enter (mu := []) ok_mix Tryd.func9 rfl (by kernel_rfl) (by kernel_rfl) (by simp only [List.length_cons, List.length_nil, Tryd.ntmps9]; omega) ?_
    (repeat (first | refine aSeq fun X hX => ?_ | refine aBlk ?_ | refine aSkip ?_ | (first | refine aExit ?_ | refine aRet ?_); try simp only [slx, ↓reduceIte, Nat.reduceEqDiff, reduceCtorEq] | (first | refine aReg ?_ | refine aIf ?_); simp -implicitDefEqProofs only [forall_eq, ↓slp, slb, ↓reduceIte, reduceCtorEq, jA, jB, jC, jD, jE, jF, jG, jH, jI, jJ, jK, tfCtP, c1, w1, Int.reduceBEq]; try simp only [Ex.fold, Ex.foldcs, ← Va.pv.eq_1] | refine hX _ _ ?_; clear hX X | clear hX X; refine hX _ _ ?_; clear hX X | clear hX X; clear hX X; refine hX _ _ ?_; clear hX X | intro hlen; unfold maxLen at hlen | apply And.intro; focus (first | omega | assumption | (repeat' apply And.intro) <;> first | omega | assumption)))
    refine callM (hi _) ?_
    rintro v mc ⟨rfl, rfl⟩
    simp -implicitDefEqProofs only [↓slp, slb, ↓reduceIte, reduceCtorEq, jA, jB, jC, jD, jE, jF, jG, jH, jI, jJ, jK, tfCtP, k40, k41, bS_app, bS_size, List.length_append]; try simp only [Ex.fold, Ex.foldcs, ← Va.pv.eq_1]
    (repeat (first | refine aSeq fun X hX => ?_ | refine aBlk ?_ | refine aSkip ?_ | (first | refine aExit ?_ | refine aRet ?_); try simp only [slx, ↓reduceIte, Nat.reduceEqDiff, reduceCtorEq] | (first | refine aReg ?_ | refine aIf ?_); simp -implicitDefEqProofs only [forall_eq, ↓slp, slb, ↓reduceIte, reduceCtorEq, jA, jB, jC, jD, jE, jF, jG, jH, jI, jJ, jK, tfCtP, k40, k41, bS_app, bS_size, List.length_append]; try simp only [Ex.fold, Ex.foldcs, ← Va.pv.eq_1] | refine hX _ _ ?_; clear hX X | clear hX X; refine hX _ _ ?_; clear hX X | clear hX X; clear hX X; refine hX _ _ ?_; clear hX X | intro hlen; unfold maxLen at hlen | apply And.intro; focus (first | omega | assumption | (repeat' apply And.intro) <;> first | omega | assumption)))
    simp only [aPost, Tryd.results9, aRes_n, aRes_t, aRes_c, pack_one, pack_two]
    exact leave_same rfl ⟨by first | rfl | simp, rfl⟩
  | false =>
    have hn : ¬ n < 0 := by simpa using c1
    have ht : (CE.mk 1 0 n eS []).txt = Lib.itoa n := by
      show (if n < 0 then [40] ++ Lib.itoa n ++ [41] else Lib.itoa n) = _
      rw [if_neg hn]
    rw [ht]
    refine ACalls.enter (mu := []) ok_mix Tryd.func9 rfl (by kernel_rfl) (by kernel_rfl) (by simp only [List.length_cons, List.length_nil, Tryd.ntmps9]; omega) ?_
    (repeat (first | refine aSeq fun X hX => ?_ | refine aBlk ?_ | refine aSkip ?_ | (first | refine aExit ?_ | refine aRet ?_); try simp only [slx, ↓reduceIte, Nat.reduceEqDiff, reduceCtorEq] | (first | refine aReg ?_ | refine aIf ?_); simp -implicitDefEqProofs only [forall_eq, ↓slp, slb, ↓reduceIte, reduceCtorEq, jA, jB, jC, jD, jE, jF, jG, jH, jI, jJ, jK, tfCtP, c1, w1, Int.reduceBEq]; try simp only [Ex.fold, Ex.foldcs, ← Va.pv.eq_1] | refine hX _ _ ?_; clear hX X | clear hX X; refine hX _ _ ?_; clear hX X | clear hX X; clear hX X; refine hX _ _ ?_; clear hX X | intro hlen; unfold maxLen at hlen | apply And.intro; focus (first | omega | assumption | (repeat' apply And.intro) <;> first | omega | assumption)))
    refine callM (hi _) ?_
    rintro v mc ⟨rfl, rfl⟩
    simp -implicitDefEqProofs only [↓slp, slb, ↓reduceIte, reduceCtorEq, jA, jB, jC, jD, jE, jF, jG, jH, jI, jJ, jK, tfCtP]; try simp only [Ex.fold, Ex.foldcs, ← Va.pv.eq_1]
    (repeat (first | refine aSeq fun X hX => ?_ | refine aBlk ?_ | refine aSkip ?_ | (first | refine aExit ?_ | refine aRet ?_); try simp only [slx, ↓reduceIte, Nat.reduceEqDiff, reduceCtorEq] | (first | refine aReg ?_ | refine aIf ?_); simp -implicitDefEqProofs only [forall_eq, ↓slp, slb, ↓reduceIte, reduceCtorEq, jA, jB, jC, jD, jE, jF, jG, jH, jI, jJ, jK, tfCtP]; try simp only [Ex.fold, Ex.foldcs, ← Va.pv.eq_1] | refine hX _ _ ?_; clear hX X | clear hX X; refine hX _ _ ?_; clear hX X | clear hX X; clear hX X; refine hX _ _ ?_; clear hX X | intro hlen; unfold maxLen at hlen | apply And.intro; focus (first | omega | assumption | (repeat' apply And.intro) <;> first | omega | assumption)))
    simp only [aPost, Tryd.results9, aRes_n, aRes_t, aRes_c, pack_one, pack_two]
    exact leave_same rfl ⟨rfl, rfl⟩
set_option maxHeartbeats 2000000 in
theorem prLoc_any (nm : Str) (m : M) : ACalls Tryd.prog 9 [(CE.mk 2 0 0 nm []).pv] m (fun v m' => v = .v (.string (bS (CE.mk 2 0 0 nm []).txt)) ∧ m' = m) := by
  have e : (CE.mk 2 0 0 nm []).pv = .ag [.v (.int .u8 2), .v (.int .u8 0), .v (.int .i32 0), .v (.string nm), .sl .no []] := by simp [CE.pv, CE.pvs]
  have ht : bS (CE.mk 2 0 0 nm []).txt = nm := bS_str nm
  rw [e, ht]
  refine ACalls.enter (mu := []) ok_mix Tryd.func9 rfl (by kernel_rfl) (by kernel_rfl) (by simp only [List.length_cons, List.length_nil, Tryd.ntmps9]; omega) ?_
  (repeat (first | refine aSeq fun X hX => ?_ | refine aBlk ?_ | refine aSkip ?_ | (first | refine aExit ?_ | refine aRet ?_); try simp only [slx, ↓reduceIte, Nat.reduceEqDiff, reduceCtorEq] | (first | refine aReg ?_ | refine aIf ?_); simp -implicitDefEqProofs only [forall_eq, ↓slp, slb, ↓reduceIte, reduceCtorEq, jA, jB, jC, jD, jE, jF, jG, jH, jI, jJ, jK, tfCtP, Int.reduceBEq]; try simp only [Ex.fold, Ex.foldcs, ← Va.pv.eq_1] | refine hX _ _ ?_; clear hX X | clear hX X; refine hX _ _ ?_; clear hX X | clear hX X; clear hX X; refine hX _ _ ?_; clear hX X | intro hlen; unfold maxLen at hlen | apply And.intro; focus (first | omega | assumption | (repeat' apply And.intro) <;> first | omega | assumption)))
  simp only [aPost, Tryd.results9, aRes_n, aRes_t, aRes_c, pack_one, pack_two]
  exact leave_same rfl ⟨rfl, rfl⟩
set_option maxHeartbeats 2000000 in
theorem prFld_any (nm : Str) (hl : nm.size ≤ 100) (m : M) : ACalls Tryd.prog 9 [(CE.mk 3 0 0 nm []).pv] m (fun v m' => v = .v (.string (bS (CE.mk 3 0 0 nm []).txt)) ∧ m' = m) := by
  have e : (CE.mk 3 0 0 nm []).pv = .ag [.v (.int .u8 3), .v (.int .u8 0), .v (.int .i32 0), .v (.string nm), .sl .no []] := by simp [CE.pv, CE.pvs]
  have ht : bS (CE.mk 3 0 0 nm []).txt = bS [115, 101, 108, 102, 45, 62] ++ nm := by
    conv => rhs; rw [bS_of nm, bS_app]
    rfl
  have z1 : (bS [115, 101, 108, 102, 45, 62]).size = 6 := rfl
  rw [e, ht]
  refine ACalls.enter (mu := []) ok_mix Tryd.func9 rfl (by kernel_rfl) (by kernel_rfl) (by simp only [List.length_cons, List.length_nil, Tryd.ntmps9]; omega) ?_
  (repeat (first | refine aSeq fun X hX => ?_ | refine aBlk ?_ | refine aSkip ?_ | (first | refine aExit ?_ | refine aRet ?_); try simp only [slx, ↓reduceIte, Nat.reduceEqDiff, reduceCtorEq] | (first | refine aReg ?_ | refine aIf ?_); simp -implicitDefEqProofs only [forall_eq, ↓slp, slb, ↓reduceIte, reduceCtorEq, jA, jB, jC, jD, jE, jF, jG, jH, jI, jJ, jK, tfCtP, kse, z1, Int.reduceBEq]; try simp only [Ex.fold, Ex.foldcs, ← Va.pv.eq_1] | refine hX _ _ ?_; clear hX X | clear hX X; refine hX _ _ ?_; clear hX X | clear hX X; clear hX X; refine hX _ _ ?_; clear hX X | intro hlen; unfold maxLen at hlen | apply And.intro; focus (first | omega | assumption | (repeat' apply And.intro) <;> first | omega | assumption)))
  simp only [aPost, Tryd.results9, aRes_n, aRes_t, aRes_c, pack_one, pack_two]
  exact leave_same rfl ⟨rfl, rfl⟩
set_option maxHeartbeats 8000000 in
theorem prUn_any {d : Nat} (hd : d ≤ 3) (ih : PrC d) (t : Nat) (ht2 : t ≤ 2) (a : CE) (ha : TX d a) (hpa : a.plain = true) (m : M) : ACalls Tryd.prog 9 [(CE.mk 4 t 0 eS [a]).pv] m (fun v m' => v = .v (.string (bS (CE.mk 4 t 0 eS [a]).txt)) ∧ m' = m) := by
  have e : (CE.mk 4 t 0 eS [a]).pv = .ag [.v (.int .u8 4), .v (.int .u8 t), .v (.int .i32 0), .v (.string eS), .sl .no [a.pv]] := by simp [CE.pv, CE.pvs]
  have hl := txt_len ha hpa
  have hl2 : lenT d ≤ 1000 := by
    have : d = 0 ∨ d = 1 ∨ d = 2 ∨ d = 3 := by omega
    rcases this with rfl | rfl | rfl | rfl <;> decide
  have ip := fun m => ih a ha hpa m
  simp only [CE.pv_eq, CE.cs] at ip
  have hsl := sgn_len t
  rw [e]
  cases c1 : ((t : Int) == 2) with
  | true =>
    have hn : (t : Int) = 2 := by simpa using c1
    have ht : (CE.mk 4 t 0 eS [a]).txt = [110, 101, 103, 40] ++ a.txt ++ [41] := by
      show (if (t : Int) = 2 then [110, 101, 103, 40] ++ a.txt ++ [41] else [40] ++ sgn (t : Int).toNat ++ a.txt ++ [41]) = _
      rw [if_pos hn]
    rw [ht]
    refine ACalls.enter (mu := []) ok_mix Tryd.func9 rfl (by kernel_rfl) (by kernel_rfl) (by simp only [List.length_cons, List.length_nil, Tryd.ntmps9]; omega) ?_
    (repeat (first | refine aSeq fun X hX => ?_ | refine aBlk ?_ | refine aSkip ?_ | (first | refine aExit ?_ | refine aRet ?_); try simp only [slx, ↓reduceIte, Nat.reduceEqDiff, reduceCtorEq] | (first | refine aReg ?_ | refine aIf ?_); simp -implicitDefEqProofs only [forall_eq, ↓slp, slb, ↓reduceIte, reduceCtorEq, jA, jB, jC, jD, jE, jF, jG, jH, jI, jJ, jK, tfCtP, c1, Int.reduceBEq]; try simp only [Ex.fold, Ex.foldcs, ← Va.pv.eq_1] | refine hX _ _ ?_; clear hX X | clear hX X; refine hX _ _ ?_; clear hX X | clear hX X; clear hX X; refine hX _ _ ?_; clear hX X | intro hlen; unfold maxLen at hlen | apply And.intro; focus (first | omega | assumption | (repeat' apply And.intro) <;> first | omega | assumption)))
    refine callM (ip _) ?_
    rintro v mc ⟨rfl, rfl⟩
    simp -implicitDefEqProofs only [↓slp, slb, ↓reduceIte, reduceCtorEq, jA, jB, jC, jD, jE, jF, jG, jH, jI, jJ, jK, tfCtP, kne, k41, bS_app, bS_size, List.length_append]; try simp only [Ex.fold, Ex.foldcs, ← Va.pv.eq_1]
    (repeat (first | refine aSeq fun X hX => ?_ | refine aBlk ?_ | refine aSkip ?_ | (first | refine aExit ?_ | refine aRet ?_); try simp only [slx, ↓reduceIte, Nat.reduceEqDiff, reduceCtorEq] | (first | refine aReg ?_ | refine aIf ?_); simp -implicitDefEqProofs only [forall_eq, ↓slp, slb, ↓reduceIte, reduceCtorEq, jA, jB, jC, jD, jE, jF, jG, jH, jI, jJ, jK, tfCtP, kne, k41, bS_app, bS_size, List.length_append]; try simp only [Ex.fold, Ex.foldcs, ← Va.pv.eq_1] | refine hX _ _ ?_; clear hX X | clear hX X; refine hX _ _ ?_; clear hX X | clear hX X; clear hX X; refine hX _ _ ?_; clear hX X | intro hlen; unfold maxLen at hlen | apply And.intro; focus (first | omega | assumption | (repeat' apply And.intro) <;> first | omega | assumption)))
    simp only [aPost, Tryd.results9, aRes_n, aRes_t, aRes_c, pack_one, pack_two]
    exact leave_same rfl ⟨by first | rfl | simp, rfl⟩
  | false =>
    have hn : ¬ (t : Int) = 2 := by simpa using c1
    have ht : (CE.mk 4 t 0 eS [a]).txt = [40] ++ sgn t ++ a.txt ++ [41] := by
      show (if (t : Int) = 2 then [110, 101, 103, 40] ++ a.txt ++ [41] else [40] ++ sgn (t : Int).toNat ++ a.txt ++ [41]) = _
      rw [if_neg hn, Int.toNat_natCast]
    rw [ht]
    have hsg := sign_any t (by omega)
    refine ACalls.enter (mu := []) ok_mix Tryd.func9 rfl (by kernel_rfl) (by kernel_rfl) (by simp only [List.length_cons, List.length_nil, Tryd.ntmps9]; omega) ?_
    (repeat (first | refine aSeq fun X hX => ?_ | refine aBlk ?_ | refine aSkip ?_ | (first | refine aExit ?_ | refine aRet ?_); try simp only [slx, ↓reduceIte, Nat.reduceEqDiff, reduceCtorEq] | (first | refine aReg ?_ | refine aIf ?_); simp -implicitDefEqProofs only [forall_eq, ↓slp, slb, ↓reduceIte, reduceCtorEq, jA, jB, jC, jD, jE, jF, jG, jH, jI, jJ, jK, tfCtP, c1, Int.reduceBEq]; try simp only [Ex.fold, Ex.foldcs, ← Va.pv.eq_1] | refine hX _ _ ?_; clear hX X | clear hX X; refine hX _ _ ?_; clear hX X | clear hX X; clear hX X; refine hX _ _ ?_; clear hX X | intro hlen; unfold maxLen at hlen | apply And.intro; focus (first | omega | assumption | (repeat' apply And.intro) <;> first | omega | assumption)))
    (repeat (first | refine aSeq fun X hX => ?_ | refine aBlk ?_ | refine aSkip ?_ | (first | refine aExit ?_ | refine aRet ?_); try simp only [slx, ↓reduceIte, Nat.reduceEqDiff, reduceCtorEq] | (first | refine aReg ?_ | refine aDrE ?_ | refine aIf ?_); simp -implicitDefEqProofs only [forall_eq, ↓slp, slb, ↓reduceIte, reduceCtorEq, jA, jB, jC, jD, jE, jF, jG, jH, jI, jJ, jK, tfCtP, c1]; try simp only [Ex.fold, Ex.foldcs, ← Va.pv.eq_1] | refine hX _ _ ?_; clear hX X | clear hX X; refine hX _ _ ?_; clear hX X | clear hX X; clear hX X; refine hX _ _ ?_; clear hX X | intro hlen; unfold maxLen at hlen | apply And.intro; focus (first | omega | assumption | (repeat' apply And.intro) <;> first | omega | assumption)))
    refine callM (hsg _) ?_
    rintro v mc ⟨rfl, rfl⟩
    simp -implicitDefEqProofs only [↓slp, slb, ↓reduceIte, reduceCtorEq, jA, jB, jC, jD, jE, jF, jG, jH, jI, jJ, jK, tfCtP, k40, k41, bS_app, bS_size, List.length_append]; try simp only [Ex.fold, Ex.foldcs, ← Va.pv.eq_1]
    refine ⟨by omega, ?_⟩
    refine callM (ip _) ?_
    rintro v mc ⟨rfl, rfl⟩
    simp -implicitDefEqProofs only [↓slp, slb, ↓reduceIte, reduceCtorEq, jA, jB, jC, jD, jE, jF, jG, jH, jI, jJ, jK, tfCtP, k40, k41, bS_app, bS_size, List.length_append]; try simp only [Ex.fold, Ex.foldcs, ← Va.pv.eq_1]
    refine ⟨by omega, by omega, ?_⟩
    (repeat (first | refine aSeq fun X hX => ?_ | refine aBlk ?_ | refine aSkip ?_ | (first | refine aExit ?_ | refine aRet ?_); try simp only [slx, ↓reduceIte, Nat.reduceEqDiff, reduceCtorEq] | (first | refine aReg ?_ | refine aIf ?_); simp -implicitDefEqProofs only [forall_eq, ↓slp, slb, ↓reduceIte, reduceCtorEq, jA, jB, jC, jD, jE, jF, jG, jH, jI, jJ, jK, tfCtP]; try simp only [Ex.fold, Ex.foldcs, ← Va.pv.eq_1] | refine hX _ _ ?_; clear hX X | clear hX X; refine hX _ _ ?_; clear hX X | clear hX X; clear hX X; refine hX _ _ ?_; clear hX X | intro hlen; unfold maxLen at hlen | apply And.intro; focus (first | omega | assumption | (repeat' apply And.intro) <;> first | omega | assumption)))
    simp only [aPost, Tryd.results9, aRes_n, aRes_t, aRes_c, pack_one, pack_two]
    exact leave_same rfl ⟨by first | rfl | simp, rfl⟩
set_option maxHeartbeats 8000000 in
theorem prCond_any {d : Nat} (hd : d ≤ 3) (ih : PrC d) (a b c : CE) (ha : TX d a) (hb : TX d b) (hc : TX d c) (hpa : a.plain = true) (hpb : b.plain = true) (hpc : c.plain = true) (m : M) : ACalls Tryd.prog 9 [(CE.mk 6 0 0 eS [a, b, c]).pv] m (fun v m' => v = .v (.string (bS (CE.mk 6 0 0 eS [a, b, c]).txt)) ∧ m' = m) := by
  have e : (CE.mk 6 0 0 eS [a, b, c]).pv = .ag [.v (.int .u8 6), .v (.int .u8 0), .v (.int .i32 0), .v (.string eS), .sl .no [a.pv, b.pv, c.pv]] := by simp [CE.pv, CE.pvs]
  have hla := txt_len ha hpa
  have hlb := txt_len hb hpb
  have hlc := txt_len hc hpc
  have hl2 : lenT d ≤ 1000 := by
    have : d = 0 ∨ d = 1 ∨ d = 2 ∨ d = 3 := by omega
    rcases this with rfl | rfl | rfl | rfl <;> decide
  have ia := fun m => ih a ha hpa m
  have ib := fun m => ih b hb hpb m
  have ic := fun m => ih c hc hpc m
  simp only [CE.pv_eq, CE.cs] at ia ib ic
  have ht : (CE.mk 6 0 0 eS [a, b, c]).txt = [40] ++ a.txt ++ [32, 63, 32] ++ b.txt ++ [32, 58, 32] ++ c.txt ++ [41] := rfl
  rw [e, ht]
  refine ACalls.enter (mu := []) ok_mix Tryd.func9 rfl (by kernel_rfl) (by kernel_rfl) (by simp only [List.length_cons, List.length_nil, Tryd.ntmps9]; omega) ?_
  (repeat (first | refine aSeq fun X hX => ?_ | refine aBlk ?_ | refine aSkip ?_ | (first | refine aExit ?_ | refine aRet ?_); try simp only [slx, ↓reduceIte, Nat.reduceEqDiff, reduceCtorEq] | (first | refine aReg ?_ | refine aIf ?_); simp -implicitDefEqProofs only [forall_eq, ↓slp, slb, ↓reduceIte, reduceCtorEq, jA, jB, jC, jD, jE, jF, jG, jH, jI, jJ, jK, tfCtP, Int.reduceBEq]; try simp only [Ex.fold, Ex.foldcs, ← Va.pv.eq_1] | refine hX _ _ ?_; clear hX X | clear hX X; refine hX _ _ ?_; clear hX X | clear hX X; clear hX X; refine hX _ _ ?_; clear hX X | intro hlen; unfold maxLen at hlen | apply And.intro; focus (first | omega | assumption | (repeat' apply And.intro) <;> first | omega | assumption)))
  (repeat (first | refine aSeq fun X hX => ?_ | refine aBlk ?_ | refine aSkip ?_ | (first | refine aExit ?_ | refine aRet ?_); try simp only [slx, ↓reduceIte, Nat.reduceEqDiff, reduceCtorEq] | (first | refine aReg ?_ | refine aDrE ?_ | refine aIf ?_); simp -implicitDefEqProofs only [forall_eq, ↓slp, slb, ↓reduceIte, reduceCtorEq, jA, jB, jC, jD, jE, jF, jG, jH, jI, jJ, jK, tfCtP, Int.reduceBEq]; try simp only [Ex.fold, Ex.foldcs, ← Va.pv.eq_1] | refine hX _ _ ?_; clear hX X | clear hX X; refine hX _ _ ?_; clear hX X | clear hX X; clear hX X; refine hX _ _ ?_; clear hX X | intro hlen; unfold maxLen at hlen | apply And.intro; focus (first | omega | assumption | (repeat' apply And.intro) <;> first | omega | assumption)))
  refine callM (ia _) ?_
  rintro v mc ⟨rfl, rfl⟩
  simp -implicitDefEqProofs only [↓slp, slb, ↓reduceIte, reduceCtorEq, jA, jB, jC, jD, jE, jF, jG, jH, jI, jJ, jK, tfCtP, k40, k41, k32, k44, k63, k58, bS_app, bS_size, List.length_append]; try simp only [Ex.fold, Ex.foldcs, ← Va.pv.eq_1]
  refine ⟨by omega, by omega, ?_⟩
  refine callM (ib _) ?_
  rintro v mc ⟨rfl, rfl⟩
  simp -implicitDefEqProofs only [↓slp, slb, ↓reduceIte, reduceCtorEq, jA, jB, jC, jD, jE, jF, jG, jH, jI, jJ, jK, tfCtP, k40, k41, k32, k44, k63, k58, bS_app, bS_size, List.length_append]; try simp only [Ex.fold, Ex.foldcs, ← Va.pv.eq_1]
  refine ⟨by omega, by omega, ?_⟩
  refine callM (ic _) ?_
  rintro v mc ⟨rfl, rfl⟩
  simp -implicitDefEqProofs only [↓slp, slb, ↓reduceIte, reduceCtorEq, jA, jB, jC, jD, jE, jF, jG, jH, jI, jJ, jK, tfCtP, k40, k41, k32, k44, k63, k58, bS_app, bS_size, List.length_append]; try simp only [Ex.fold, Ex.foldcs, ← Va.pv.eq_1]
  refine ⟨by omega, by omega, ?_⟩
  (repeat (first | refine aSeq fun X hX => ?_ | refine aBlk ?_ | refine aSkip ?_ | (first | refine aExit ?_ | refine aRet ?_); try simp only [slx, ↓reduceIte, Nat.reduceEqDiff, reduceCtorEq] | (first | refine aReg ?_ | refine aIf ?_); simp -implicitDefEqProofs only [forall_eq, ↓slp, slb, ↓reduceIte, reduceCtorEq, jA, jB, jC, jD, jE, jF, jG, jH, jI, jJ, jK, tfCtP]; try simp only [Ex.fold, Ex.foldcs, ← Va.pv.eq_1] | refine hX _ _ ?_; clear hX X | clear hX X; refine hX _ _ ?_; clear hX X | clear hX X; clear hX X; refine hX _ _ ?_; clear hX X | intro hlen; unfold maxLen at hlen | apply And.intro; focus (first | omega | assumption | (repeat' apply And.intro) <;> first | omega | assumption)))
  simp only [aPost, Tryd.results9, aRes_n, aRes_t, aRes_c, pack_one, pack_two]
  exact leave_same rfl ⟨by first | rfl | simp, rfl⟩
set_option maxHeartbeats 8000000 in
theorem prBin_any {d : Nat} (hd : d ≤ 3) (ih : PrC d) (u : Nat) (h3 : 3 ≤ u) (h16 : u ≤ 16) (a b : CE) (ha : TX d a) (hb : TX d b) (hpa : a.plain = true) (hpb : b.plain = true) (m : M) : ACalls Tryd.prog 9 [(CE.mk 5 u 0 eS [a, b]).pv] m (fun v m' => v = .v (.string (bS (CE.mk 5 u 0 eS [a, b]).txt)) ∧ m' = m) := by
  have e : (CE.mk 5 u 0 eS [a, b]).pv = .ag [.v (.int .u8 5), .v (.int .u8 u), .v (.int .i32 0), .v (.string eS), .sl .no [a.pv, b.pv]] := by simp [CE.pv, CE.pvs]
  have hla := txt_len ha hpa
  have hlb := txt_len hb hpb
  have hl2 : lenT d ≤ 1000 := by
    have : d = 0 ∨ d = 1 ∨ d = 2 ∨ d = 3 := by omega
    rcases this with rfl | rfl | rfl | rfl <;> decide
  have ia := fun m => ih a ha hpa m
  have ib := fun m => ih b hb hpb m
  simp only [CE.pv_eq, CE.cs] at ia ib
  have hsl := sgn_len u
  have hsg := sign_any u (by omega)
  have htx : (CE.mk 5 u 0 eS [a, b]).txt = if fnO u = true then sgn u ++ [40] ++ a.txt ++ [44, 32] ++ b.txt ++ [41] else [40] ++ a.txt ++ [32] ++ sgn u ++ [32] ++ b.txt ++ [41] := by
    show (if fnO (u : Int).toNat = true then sgn (u : Int).toNat ++ [40] ++ a.txt ++ [44, 32] ++ b.txt ++ [41] else [40] ++ a.txt ++ [32] ++ sgn (u : Int).toNat ++ [32] ++ b.txt ++ [41]) = _
    rw [Int.toNat_natCast]
  rw [e]
  cases hf : fnO u with
  | true =>
    have ht : (CE.mk 5 u 0 eS [a, b]).txt = sgn u ++ [40] ++ a.txt ++ [44, 32] ++ b.txt ++ [41] := by rw [htx, if_pos hf]
    rw [ht]
    refine ACalls.enter (mu := []) ok_mix Tryd.func9 rfl (by kernel_rfl) (by kernel_rfl) (by simp only [List.length_cons, List.length_nil, Tryd.ntmps9]; omega) ?_
    (repeat (first | refine aSeq fun X hX => ?_ | refine aBlk ?_ | refine aSkip ?_ | (first | refine aExit ?_ | refine aRet ?_); try simp only [slx, ↓reduceIte, Nat.reduceEqDiff, reduceCtorEq] | (first | refine aReg ?_ | refine aIf ?_); simp -implicitDefEqProofs only [forall_eq, ↓slp, slb, ↓reduceIte, reduceCtorEq, jA, jB, jC, jD, jE, jF, jG, jH, jI, jJ, jK, tfCtP, Int.reduceBEq]; try simp only [Ex.fold, Ex.foldcs, ← Va.pv.eq_1] | refine hX _ _ ?_; clear hX X | clear hX X; refine hX _ _ ?_; clear hX X | clear hX X; clear hX X; refine hX _ _ ?_; clear hX X | intro hlen; unfold maxLen at hlen | apply And.intro; focus (first | omega | assumption | (repeat' apply And.intro) <;> first | omega | assumption)))
    (repeat (first | refine aSeq fun X hX => ?_ | refine aBlk ?_ | refine aSkip ?_ | (first | refine aExit ?_ | refine aRet ?_); try simp only [slx, ↓reduceIte, Nat.reduceEqDiff, reduceCtorEq] | (first | refine aReg ?_ | refine aDrE ?_ | refine aIf ?_); simp -implicitDefEqProofs only [forall_eq, ↓slp, slb, ↓reduceIte, reduceCtorEq, jA, jB, jC, jD, jE, jF, jG, jH, jI, jJ, jK, tfCtP, Int.reduceBEq]; try simp only [Ex.fold, Ex.foldcs, ← Va.pv.eq_1] | refine hX _ _ ?_; clear hX X | clear hX X; refine hX _ _ ?_; clear hX X | clear hX X; clear hX X; refine hX _ _ ?_; clear hX X | intro hlen; unfold maxLen at hlen | apply And.intro; focus (first | omega | assumption | (repeat' apply And.intro) <;> first | omega | assumption)))
    refine callM (ia _) ?_
    rintro v mc ⟨rfl, rfl⟩
    simp -implicitDefEqProofs only [↓slp, slb, ↓reduceIte, reduceCtorEq, jA, jB, jC, jD, jE, jF, jG, jH, jI, jJ, jK, tfCtP]; try simp only [Ex.fold, Ex.foldcs, ← Va.pv.eq_1]
    refine callM (ib _) ?_
    rintro v mc ⟨rfl, rfl⟩
    simp -implicitDefEqProofs only [↓slp, slb, ↓reduceIte, reduceCtorEq, jA, jB, jC, jD, jE, jF, jG, jH, jI, jJ, jK, tfCtP]; try simp only [Ex.fold, Ex.foldcs, ← Va.pv.eq_1]
    have hu : u = 3 ∨ u = 4 ∨ u = 5 ∨ u = 6 ∨ u = 7 ∨ u = 10 := by
      have : u = 3 ∨ u = 4 ∨ u = 5 ∨ u = 6 ∨ u = 7 ∨ u = 8 ∨ u = 9 ∨ u = 10 ∨ u = 11 ∨ u = 12 ∨ u = 13 ∨ u = 14 ∨ u = 15 ∨ u = 16 := by omega
      rcases this with rfl | rfl | rfl | rfl | rfl | rfl | rfl | rfl | rfl | rfl | rfl | rfl | rfl | rfl <;> first | omega | cases hf
    rcases hu with rfl | rfl | rfl | rfl | rfl | rfl
    all_goals
      (repeat (first | refine aSeq fun X hX => ?_ | refine aBlk ?_ | refine aSkip ?_ | (first | refine aExit ?_ | refine aRet ?_); try simp only [slx, ↓reduceIte, Nat.reduceEqDiff, reduceCtorEq] | (first | refine aReg ?_ | refine aIf ?_); simp -implicitDefEqProofs only [forall_eq, ↓slp, slb, ↓reduceIte, reduceCtorEq, jA, jB, jC, jD, jE, jF, jG, jH, jI, jJ, jK, tfCtP, Int.reduceBEq, Int.cast_ofNat_Int]; try simp only [Ex.fold, Ex.foldcs, ← Va.pv.eq_1] | refine hX _ _ ?_; clear hX X | clear hX X; refine hX _ _ ?_; clear hX X | clear hX X; clear hX X; refine hX _ _ ?_; clear hX X | intro hlen; unfold maxLen at hlen | apply And.intro; focus (first | omega | assumption | (repeat' apply And.intro) <;> first | omega | assumption)))
      refine callM (hsg _) ?_
      rintro v mc ⟨rfl, rfl⟩
      simp -implicitDefEqProofs only [↓slp, slb, ↓reduceIte, reduceCtorEq, jA, jB, jC, jD, jE, jF, jG, jH, jI, jJ, jK, tfCtP, k40, k41, k32, k44, k63, k58, bS_app, bS_size, List.length_append]; try simp only [Ex.fold, Ex.foldcs, ← Va.pv.eq_1]
      (repeat (first | refine aSeq fun X hX => ?_ | refine aBlk ?_ | refine aSkip ?_ | (first | refine aExit ?_ | refine aRet ?_); try simp only [slx, ↓reduceIte, Nat.reduceEqDiff, reduceCtorEq] | (first | refine aReg ?_ | refine aIf ?_); simp -implicitDefEqProofs only [forall_eq, ↓slp, slb, ↓reduceIte, reduceCtorEq, jA, jB, jC, jD, jE, jF, jG, jH, jI, jJ, jK, tfCtP, k40, k41, k32, k44, k63, k58, bS_app, bS_size, List.length_append]; try simp only [Ex.fold, Ex.foldcs, ← Va.pv.eq_1] | refine hX _ _ ?_; clear hX X | clear hX X; refine hX _ _ ?_; clear hX X | clear hX X; clear hX X; refine hX _ _ ?_; clear hX X | intro hlen; unfold maxLen at hlen | apply And.intro; focus (first | omega | assumption | (repeat' apply And.intro) <;> first | omega | assumption)))
      simp only [aPost, Tryd.results9, aRes_n, aRes_t, aRes_c, pack_one, pack_two]
      exact leave_same rfl ⟨by first | rfl | simp, rfl⟩
  | false =>
    have ht : (CE.mk 5 u 0 eS [a, b]).txt = [40] ++ a.txt ++ [32] ++ sgn u ++ [32] ++ b.txt ++ [41] := by rw [htx, if_neg (by rw [hf]; simp)]
    rw [ht]
    have hne : ((u : Int) == 6) = false ∧ ((u : Int) == 7) = false ∧ ((u : Int) == 3) = false ∧ ((u : Int) == 4) = false ∧ ((u : Int) == 5) = false ∧ ((u : Int) == 10) = false := by
      simp only [fnO, Bool.or_eq_false_iff, beq_eq_false_iff_ne] at hf
      obtain ⟨⟨⟨⟨⟨q1, q2⟩, q3⟩, q4⟩, q5⟩, q6⟩ := hf
      refine ⟨?_, ?_, ?_, ?_, ?_, ?_⟩ <;> simp <;> omega
    obtain ⟨e6, e7, e3, e4, e5, e10⟩ := hne
    refine ACalls.enter (mu := []) ok_mix Tryd.func9 rfl (by kernel_rfl) (by kernel_rfl) (by simp only [List.length_cons, List.length_nil, Tryd.ntmps9]; omega) ?_
    (repeat (first | refine aSeq fun X hX => ?_ | refine aBlk ?_ | refine aSkip ?_ | (first | refine aExit ?_ | refine aRet ?_); try simp only [slx, ↓reduceIte, Nat.reduceEqDiff, reduceCtorEq] | (first | refine aReg ?_ | refine aIf ?_); simp -implicitDefEqProofs only [forall_eq, ↓slp, slb, ↓reduceIte, reduceCtorEq, jA, jB, jC, jD, jE, jF, jG, jH, jI, jJ, jK, tfCtP, Int.reduceBEq]; try simp only [Ex.fold, Ex.foldcs, ← Va.pv.eq_1] | refine hX _ _ ?_; clear hX X | clear hX X; refine hX _ _ ?_; clear hX X | clear hX X; clear hX X; refine hX _ _ ?_; clear hX X | intro hlen; unfold maxLen at hlen | apply And.intro; focus (first | omega | assumption | (repeat' apply And.intro) <;> first | omega | assumption)))
    (repeat (first | refine aSeq fun X hX => ?_ | refine aBlk ?_ | refine aSkip ?_ | (first | refine aExit ?_ | refine aRet ?_); try simp only [slx, ↓reduceIte, Nat.reduceEqDiff, reduceCtorEq] | (first | refine aReg ?_ | refine aDrE ?_ | refine aIf ?_); simp -implicitDefEqProofs only [forall_eq, ↓slp, slb, ↓reduceIte, reduceCtorEq, jA, jB, jC, jD, jE, jF, jG, jH, jI, jJ, jK, tfCtP, Int.reduceBEq]; try simp only [Ex.fold, Ex.foldcs, ← Va.pv.eq_1] | refine hX _ _ ?_; clear hX X | clear hX X; refine hX _ _ ?_; clear hX X | clear hX X; clear hX X; refine hX _ _ ?_; clear hX X | intro hlen; unfold maxLen at hlen | apply And.intro; focus (first | omega | assumption | (repeat' apply And.intro) <;> first | omega | assumption)))
    refine callM (ia _) ?_
    rintro v mc ⟨rfl, rfl⟩
    simp -implicitDefEqProofs only [↓slp, slb, ↓reduceIte, reduceCtorEq, jA, jB, jC, jD, jE, jF, jG, jH, jI, jJ, jK, tfCtP]; try simp only [Ex.fold, Ex.foldcs, ← Va.pv.eq_1]
    refine callM (ib _) ?_
    rintro v mc ⟨rfl, rfl⟩
    simp -implicitDefEqProofs only [↓slp, slb, ↓reduceIte, reduceCtorEq, jA, jB, jC, jD, jE, jF, jG, jH, jI, jJ, jK, tfCtP]; try simp only [Ex.fold, Ex.foldcs, ← Va.pv.eq_1]
    (repeat (first | refine aSeq fun X hX => ?_ | refine aBlk ?_ | refine aSkip ?_ | (first | refine aExit ?_ | refine aRet ?_); try simp only [slx, ↓reduceIte, Nat.reduceEqDiff, reduceCtorEq] | (first | refine aReg ?_ | refine aIf ?_); simp -implicitDefEqProofs only [forall_eq, ↓slp, slb, ↓reduceIte, reduceCtorEq, jA, jB, jC, jD, jE, jF, jG, jH, jI, jJ, jK, tfCtP, Int.reduceBEq, e6, e7, e3, e4, e5, e10, k40, k41, k32, k44, k63, k58, bS_app, bS_size, List.length_append]; try simp only [Ex.fold, Ex.foldcs, ← Va.pv.eq_1] | refine hX _ _ ?_; clear hX X | clear hX X; refine hX _ _ ?_; clear hX X | clear hX X; clear hX X; refine hX _ _ ?_; clear hX X | intro hlen; unfold maxLen at hlen | apply And.intro; focus (first | omega | assumption | (repeat' apply And.intro) <;> first | omega | assumption)))
    refine callM (hsg _) ?_
    rintro v mc ⟨rfl, rfl⟩
    simp -implicitDefEqProofs only [↓slp, slb, ↓reduceIte, reduceCtorEq, jA, jB, jC, jD, jE, jF, jG, jH, jI, jJ, jK, tfCtP, k40, k41, k32, k44, k63, k58, bS_app, bS_size, List.length_append]; try simp only [Ex.fold, Ex.foldcs, ← Va.pv.eq_1]
    (repeat (first | refine aSeq fun X hX => ?_ | refine aBlk ?_ | refine aSkip ?_ | (first | refine aExit ?_ | refine aRet ?_); try simp only [slx, ↓reduceIte, Nat.reduceEqDiff, reduceCtorEq] | (first | refine aReg ?_ | refine aIf ?_); simp -implicitDefEqProofs only [forall_eq, ↓slp, slb, ↓reduceIte, reduceCtorEq, jA, jB, jC, jD, jE, jF, jG, jH, jI, jJ, jK, tfCtP, k40, k41, k32, k44, k63, k58, bS_app, bS_size, List.length_append]; try simp only [Ex.fold, Ex.foldcs, ← Va.pv.eq_1] | refine hX _ _ ?_; clear hX X | clear hX X; refine hX _ _ ?_; clear hX X | clear hX X; clear hX X; refine hX _ _ ?_; clear hX X | intro hlen; unfold maxLen at hlen | apply And.intro; focus (first | omega | assumption | (repeat' apply And.intro) <;> first | omega | assumption)))
    simp only [aPost, Tryd.results9, aRes_n, aRes_t, aRes_c, pack_one, pack_two]
    exact leave_same rfl ⟨by first | rfl | simp, rfl⟩
theorem print_any : ∀ d, d ≤ 4 → PrC d
  | 0, _ => fun e h hp m => by
    cases h with
    | num d n h0 h1 => exact prNum_any n h0 h1 m
    | loc d t ht => exact prLoc_any _ m
    | fld d nm hn => exact prFld_any nm (by rcases hn with rfl | rfl | rfl | rfl <;> decide) m
  | d + 1, hd => fun e h hp m => by
    have ih := print_any d (by omega)
    cases h with
    | num d n h0 h1 => exact prNum_any n h0 h1 m
    | loc d t ht => exact prLoc_any _ m
    | fld d nm hn => exact prFld_any nm (by rcases hn with rfl | rfl | rfl | rfl <;> decide) m
    | un d t a h0 h1 ha =>
      obtain ⟨_, _, hp⟩ := plain_mk hp
      exact prUn_any (by omega) ih t h1 a ha (by simpa [CE.plains] using hp) m
    | cond d a b c ha hb hc =>
      obtain ⟨_, _, hp⟩ := plain_mk hp
      obtain ⟨hpa, hpb, hpc⟩ : a.plain = true ∧ b.plain = true ∧ c.plain = true := by simpa [CE.plains] using hp
      exact prCond_any (by omega) ih a b c ha hb hc hpa hpb hpc m
    | bin d u a b h0 h1 ha hb =>
      obtain ⟨_, _, hp⟩ := plain_mk hp
      obtain ⟨hpa, hpb⟩ : a.plain = true ∧ b.plain = true := by simpa [CE.plains] using hp
      exact prBin_any (by omega) ih u h0 h1 a b ha hb hpa hpb m
    | odd d t ht =>
      have : t = 0 ∨ t = 1 ∨ t = 2 ∨ t = 3 ∨ t = 4 ∨ t = 5 ∨ t = 6 ∨ t = 7 ∨ t = 8 := by omega
      rcases this with rfl | rfl | rfl | rfl | rfl | rfl | rfl | rfl | rfl <;> first | (exfalso; revert hp; decide) | skip
      exact prUn_any (d := d) (by omega) ih 0 (by omega) _ (.num d 1 (by omega) (by omega)) (by decide) m
end Go.Proofs.YtepjjgnkhcjpcaaDoor
