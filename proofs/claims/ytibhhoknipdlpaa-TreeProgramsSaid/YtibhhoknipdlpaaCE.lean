/-
 Texts that belong together: TpC, TpE.
-/
-- halved
import Derived.Test.YtibhhoknipdlpaaTrB
import Derived.Test.YtibhhoknipdlpaaExA
import Derived.Test.YtibhhoknipdlpaaDA
/-
 Sizes and depths of expressions, both ways, with the machine's own sums.
-/
set_option linter.unusedVariables false
set_option linter.unusedSimpArgs false
namespace Go.Proofs.Ytibhhoknipdlpaa
open Nat renaming reduceEqDiff → jA, reduceAdd → jB, reduceMul → jC, reduceLT → jD, reduceLeDiff → jE, reduceBEq → jF, reduceBNe → jG
open Int renaming reduceLE → jH, reduceLT → jI, reduceToNat → jJ, reduceEq → jK
open Go
set_option maxRecDepth 20000
-- TNAMES: int; uint8; int32; string; bool; []string; []api.Expr; api.Expr; api.Pos
set_option linter.defProp false
def Yi := And.intro @slb (And.intro @tfA (And.intro @Ex.settle_pv (And.intro @Ex.pure_pv (And.intro @Ex.cells_pv (And.intro @Ex.cs.eq_1 (And.intro @On.pv.eq_1 (And.intro @Ty.pv.eq_1 (And.intro @Va.settle_pv (And.intro @Va.pure_pv (And.intro @Va.cells_pv @Va.cs.eq_1))))))))))

abbrev w64 (n : Int) : Int := IntKind.i64.wrap n
mutual
def Ex.szW : Ex → Int
 | .mk _ _ _ _ _ kids _ _ => Ex.szWs kids 1
def Ex.szWs : List Ex → Int → Int
 | [], n => n
 | k :: l, n => Ex.szWs l (w64 (n + k.szW))
end
def mxI (n k : Int) : Int := if k > n then k else n
mutual
def Ex.dpW : Ex → Int
 | .mk _ _ _ _ _ kids _ _ => w64 (Ex.dpWs kids 0 + 1)
def Ex.dpWs : List Ex → Int → Int
 | [], n => n
 | k :: l, n => Ex.dpWs l (mxI n k.dpW)
end
theorem Ex.szW_eq (e : Ex) : e.szW = Ex.szWs e.kids 1 := by cases e; rfl
theorem Ex.dpW_eq (e : Ex) : e.dpW = w64 (Ex.dpWs e.kids 0 + 1) := by cases e; rfl
theorem szWs_take : ∀ (l : List Ex) (k : Nat) (h : k < l.length) (n : Int), Ex.szWs (l.take (k + 1)) n = w64 (Ex.szWs (l.take k) n + l[k].szW)
 | [], k, h, n => by simp at h
 | a :: l, 0, h, n => by simp [Ex.szWs]
 | a :: l, k + 1, h, n => by
  simp only [List.take_succ_cons, Ex.szWs, List.getElem_cons_succ]
  exact szWs_take l k (by simpa using h) _
theorem dpWs_take : ∀ (l : List Ex) (k : Nat) (h : k < l.length) (n : Int), Ex.dpWs (l.take (k + 1)) n = mxI (Ex.dpWs (l.take k) n) l[k].dpW
 | [], k, h, n => by simp at h
 | a :: l, 0, h, n => by simp [Ex.dpWs]
 | a :: l, k + 1, h, n => by
  simp only [List.take_succ_cons, Ex.dpWs, List.getElem_cons_succ]
  exact dpWs_take l k (by simpa using h) _

set_option maxHeartbeats 1000000 in
theorem sizeW_any (e : Ex) : ∀ (m : M), ACalls Try.prog 51 [e.pv] m (fun v m' => v = pI e.szW ∧ m' = m) := by
 refine Ex.ind (motive := fun e => ∀ (m : M), ACalls Try.prog 51 [e.pv] m (fun v m' => v = pI e.szW ∧ m' = m)) (fun e IH => ?_) e
 intro m
 refine ACalls.enter (mu := []) ok_mix Try.func51 rfl (by kernel_rfl) (by kernel_rfl) (by simp only [List.length_cons, List.length_nil, Try.ntmps51]; omega) ?_
 (repeat (first | refine aSeq fun X hX => ?_ | refine aBlk ?_ | refine aReg ?_; simp -implicitDefEqProofs only [↓slp, ↓reduceIte, reduceCtorEq, jA, jB, jE, Yi]; try simp only [fo] | apply hX; clear hX X | intro hlen; unfold maxLen at hlen))
 obtain ⟨I, hI⟩ : ∃ I : F → M → Prop, ∀ f m', I f m' = (∃ (k : Nat), k ≤ e.kids.length ∧ f 3 = pI (Ex.szWs (e.kids.take k) 1) ∧ f 7 = .sl .no (e.kids.map Ex.pv) ∧ f 8 = pI e.kids.length ∧ f 9 = pI k ∧ m = m') := ⟨_, fun _ _ => rfl⟩
 refine aLoop I (fun f m => e.kids.length - numOf (f 9)) ?_ ?_
 ·rw [hI]; exact ⟨0, by omega, rfl, rfl, rfl, rfl, rfl⟩
 intro f m' hrel
 rw [hI] at hrel
 obtain ⟨k, hk, h3, h7, h8, h9, rfl⟩ := hrel
 (repeat (first | refine aSeq fun X hX => ?_ | refine aReg ?_; simp -implicitDefEqProofs only [↓slp, slb, ↓reduceIte, h8, h9, pI] | apply hX; clear hX X))
 refine aIf ?_; simp -implicitDefEqProofs only [slb, ↓reduceIte]; refine ⟨fun hb => ?_, fun hb => ?_⟩
 ·have hlt : k < e.kids.length := by simpa using hb
  have g0 := getD_map Ex.pv e.kids k hlt
  have hi : IntKind.i64.wrap ((k : Int) + 1) = ((k + 1 : Nat) : Int) := by rw [wrap64 (by omega)]; omega
  (repeat (first | refine aSeq fun X hX => ?_ | refine aSkip ?_ | refine aReg ?_; simp -implicitDefEqProofs only [↓slp, ↓reduceIte, jA, jB, jE, jF, Yi, h3, h7, h9, pI, g0]; try simp only [fo] | apply hX; clear hX X | apply And.intro; focus omega))
  refine callE (IH k hlt _) ?_
  simp -implicitDefEqProofs only [↓slp, ↓reduceIte, jA, Yi, h9, pI]; try simp only [fo]
  (repeat (first | refine aReg ?_; simp -implicitDefEqProofs only [↓slp, ↓reduceIte, jA, Yi, h9, pI, hi]; try simp only [fo] | apply hX; clear hX X))
  rw [hI]
  refine ⟨⟨k + 1, hlt, by rw [szWs_take _ _ hlt]; rfl, h7, h8, rfl, rfl⟩, ?_⟩
  first | omega | (simp only [↓slp, slb, ↓reduceIte, reduceCtorEq, jA, jB, jC, jD, jE, jF, jG, jH, jI, jJ, jK, h9, pI]; omega)
 ·have hlt : k = e.kids.length := by simp at hb; omega
  subst hlt
  (repeat (first | refine aSeq fun X hX => ?_ | (first | refine aExit ?_ | refine aRet ?_); try simp only [slx, ↓reduceIte, jA, reduceCtorEq] | refine aReg ?_; simp -implicitDefEqProofs only [↓slp, slb, ↓reduceIte, jA, h3, pI] | apply hX; clear hX X | clear hX X; apply hX; clear hX X))
  simp only [aPost, Try.results51, aRes_n, aRes_t, aRes_c, pack_one, pack_two]
  refine leave_same rfl ⟨?_, rfl⟩
  rw [e.szW_eq, List.take_length]; rfl

set_option maxHeartbeats 1000000 in
theorem rSizeW_any (e : Ex) : ∀ (m : M), ACalls Try.prog 82 [e.pv] m (fun v m' => v = pI e.szW ∧ m' = m) := by
 refine Ex.ind (motive := fun e => ∀ (m : M), ACalls Try.prog 82 [e.pv] m (fun v m' => v = pI e.szW ∧ m' = m)) (fun e IH => ?_) e
 intro m
 refine ACalls.enter (mu := []) ok_mix Try.func82 rfl (by kernel_rfl) (by kernel_rfl) (by simp only [List.length_cons, List.length_nil, Try.ntmps82]; omega) ?_
 (repeat (first | refine aSeq fun X hX => ?_ | refine aBlk ?_ | refine aReg ?_; simp -implicitDefEqProofs only [↓slp, ↓reduceIte, Yi]; try simp only [fo] | apply hX; clear hX X))
 obtain ⟨I, hI⟩ : ∃ I : F → M → Prop, ∀ f m', I f m' = (∃ (k : Nat), k ≤ e.kids.length ∧ f 1 = .ep e.cs ∧ f 3 = pI (Ex.szWs (e.kids.take k) 1) ∧ f 4 = pI k ∧ m = m') := ⟨_, fun _ _ => rfl⟩
 refine aLoop I (fun f m => e.kids.length - numOf (f 4)) ?_ ?_
 ·rw [hI]; exact ⟨0, by omega, rfl, rfl, rfl, rfl⟩
 intro f m' hrel
 rw [hI] at hrel
 obtain ⟨k, hk, h1, h3, h4, rfl⟩ := hrel
 (repeat (first | refine aSeq fun X hX => ?_ | refine aReg ?_; simp -implicitDefEqProofs only [↓slp, ↓reduceIte, reduceCtorEq, jA, jB, jE, Yi, h1, h4, pI] | apply hX; clear hX X | intro hlen; unfold maxLen at hlen))
 refine aIf ?_; simp -implicitDefEqProofs only [slb, ↓reduceIte]; refine ⟨fun hb => ?_, fun hb => ?_⟩
 ·have hlt : k < e.kids.length := by simpa using hb
  have g0 := getD_map Ex.pv e.kids k hlt
  have q0 : (k : Int) < (e.kids.length : Int) := by omega
  have hi : IntKind.i64.wrap ((k : Int) + 1) = ((k + 1 : Nat) : Int) := by rw [wrap64 (by omega)]; omega
  (repeat (first | refine aSeq fun X hX => ?_ | refine aBlk ?_ | refine aSkip ?_ | refine aReg ?_; simp -implicitDefEqProofs only [↓slp, ↓reduceIte, reduceCtorEq, jA, jB, jE, Yi, h1, h3, h4, pI, g0, q0]; try simp only [fo] | apply hX; clear hX X | apply And.intro; focus omega))
  refine callE (IH k hlt _) ?_
  simp -implicitDefEqProofs only [↓slp, slb, ↓reduceIte, jA, h4, pI]; try simp only [fo]
  (repeat (first | refine aReg ?_; simp -implicitDefEqProofs only [↓slp, ↓reduceIte, jA, Yi, h4, pI, hi]; try simp only [fo] | apply hX; clear hX X))
  rw [hI]
  refine ⟨⟨k + 1, hlt, h1, by rw [szWs_take _ _ hlt]; rfl, rfl, rfl⟩, ?_⟩
  first | omega | (simp only [↓slp, slb, ↓reduceIte, reduceCtorEq, jA, jB, jC, jD, jE, jF, jG, jH, jI, jJ, jK, h4, pI]; omega)
 ·have hlt : k = e.kids.length := by simp at hb; omega
  subst hlt
  (repeat (first | refine aSeq fun X hX => ?_ | (first | refine aExit ?_ | refine aRet ?_); try simp only [slx, ↓reduceIte, jA, reduceCtorEq] | refine aReg ?_; simp -implicitDefEqProofs only [↓slp, slb, ↓reduceIte, jA, h3, pI] | apply hX; clear hX X | clear hX X; apply hX; clear hX X))
  simp only [aPost, Try.results82, aRes_n, aRes_t, aRes_c, pack_one, pack_two]
  refine leave_same rfl ⟨?_, rfl⟩
  rw [e.szW_eq, List.take_length]; rfl

set_option maxHeartbeats 1000000 in
theorem depthW_any (e : Ex) : ∀ (m : M), ACalls Try.prog 52 [e.pv] m (fun v m' => v = pI e.dpW ∧ m' = m) := by
 refine Ex.ind (motive := fun e => ∀ (m : M), ACalls Try.prog 52 [e.pv] m (fun v m' => v = pI e.dpW ∧ m' = m)) (fun e IH => ?_) e
 intro m
 refine ACalls.enter (mu := []) ok_mix Try.func52 rfl (by kernel_rfl) (by kernel_rfl) (by simp only [List.length_cons, List.length_nil, Try.ntmps52]; omega) ?_
 (repeat (first | refine aSeq fun X hX => ?_ | refine aBlk ?_ | refine aReg ?_; simp -implicitDefEqProofs only [↓slp, ↓reduceIte, reduceCtorEq, jA, jB, jE, Yi]; try simp only [fo] | apply hX; clear hX X | intro hlen; unfold maxLen at hlen))
 obtain ⟨I, hI⟩ : ∃ I : F → M → Prop, ∀ f m', I f m' = (∃ (k : Nat), k ≤ e.kids.length ∧ f 3 = pI (Ex.dpWs (e.kids.take k) 0) ∧ f 7 = .sl .no (e.kids.map Ex.pv) ∧ f 8 = pI e.kids.length ∧ f 9 = pI k ∧ m = m') := ⟨_, fun _ _ => rfl⟩
 refine aLoop I (fun f m => e.kids.length - numOf (f 9)) ?_ ?_
 ·rw [hI]; exact ⟨0, by omega, rfl, rfl, rfl, rfl, rfl⟩
 intro f m' hrel
 rw [hI] at hrel
 obtain ⟨k, hk, h3, h7, h8, h9, rfl⟩ := hrel
 (repeat (first | refine aSeq fun X hX => ?_ | refine aReg ?_; simp -implicitDefEqProofs only [↓slp, slb, ↓reduceIte, h8, h9, pI] | apply hX; clear hX X))
 refine aIf ?_; simp -implicitDefEqProofs only [slb, ↓reduceIte]; refine ⟨fun hb => ?_, fun hb => ?_⟩
 ·have hlt : k < e.kids.length := by simpa using hb
  have g0 := getD_map Ex.pv e.kids k hlt
  have hi : IntKind.i64.wrap ((k : Int) + 1) = ((k + 1 : Nat) : Int) := by rw [wrap64 (by omega)]; omega
  (repeat (first | refine aSeq fun X hX => ?_ | refine aSkip ?_ | refine aReg ?_; simp -implicitDefEqProofs only [↓slp, ↓reduceIte, jA, jB, jE, jF, Yi, h3, h7, h9, pI, g0]; try simp only [fo] | apply hX; clear hX X | apply And.intro; focus omega))
  refine callE (IH k hlt _) ?_
  simp -implicitDefEqProofs only [↓slp, ↓reduceIte, jA, Yi, h9, pI]; try simp only [fo]
  (repeat (first | refine aReg ?_; simp -implicitDefEqProofs only [↓slp, ↓reduceIte, jA, Yi, h9, pI, hi]; try simp only [fo] | apply hX; clear hX X))
  rw [hI]
  refine ⟨⟨k + 1, hlt, by rw [dpWs_take _ _ hlt]; rfl, h7, h8, rfl, rfl⟩, ?_⟩
  first | omega | (simp only [↓slp, slb, ↓reduceIte, reduceCtorEq, jA, jB, jC, jD, jE, jF, jG, jH, jI, jJ, jK, h9, pI]; omega)
 ·have hlt : k = e.kids.length := by simp at hb; omega
  subst hlt
  (repeat (first | refine aSeq fun X hX => ?_ | (first | refine aExit ?_ | refine aRet ?_); try simp only [slx, ↓reduceIte, jA, reduceCtorEq] | refine aReg ?_; simp -implicitDefEqProofs only [↓slp, slb, ↓reduceIte, jA, h3, pI] | apply hX; clear hX X | clear hX X; apply hX; clear hX X))
  simp only [aPost, Try.results52, aRes_n, aRes_t, aRes_c, pack_one, pack_two]
  refine leave_same rfl ⟨?_, rfl⟩
  rw [e.dpW_eq, List.take_length]; rfl

set_option maxHeartbeats 1000000 in
theorem rDepthW_any (e : Ex) : ∀ (m : M), ACalls Try.prog 84 [e.pv] m (fun v m' => v = pI e.dpW ∧ m' = m) := by
 refine Ex.ind (motive := fun e => ∀ (m : M), ACalls Try.prog 84 [e.pv] m (fun v m' => v = pI e.dpW ∧ m' = m)) (fun e IH => ?_) e
 intro m
 refine ACalls.enter (mu := []) ok_mix Try.func84 rfl (by kernel_rfl) (by kernel_rfl) (by simp only [List.length_cons, List.length_nil, Try.ntmps84]; omega) ?_
 (repeat (first | refine aSeq fun X hX => ?_ | refine aBlk ?_ | refine aReg ?_; simp -implicitDefEqProofs only [↓slp, ↓reduceIte, Yi]; try simp only [fo] | apply hX; clear hX X))
 obtain ⟨I, hI⟩ : ∃ I : F → M → Prop, ∀ f m', I f m' = (∃ (k : Nat), k ≤ e.kids.length ∧ f 1 = .ep e.cs ∧ f 3 = pI (Ex.dpWs (e.kids.take k) 0) ∧ f 4 = pI k ∧ m = m') := ⟨_, fun _ _ => rfl⟩
 refine aLoop I (fun f m => e.kids.length - numOf (f 4)) ?_ ?_
 ·rw [hI]; exact ⟨0, by omega, rfl, rfl, rfl, rfl⟩
 intro f m' hrel
 rw [hI] at hrel
 obtain ⟨k, hk, h1, h3, h4, rfl⟩ := hrel
 (repeat (first | refine aSeq fun X hX => ?_ | refine aReg ?_; simp -implicitDefEqProofs only [↓slp, ↓reduceIte, reduceCtorEq, jA, jB, jE, Yi, h1, h4, pI] | apply hX; clear hX X | intro hlen; unfold maxLen at hlen))
 refine aIf ?_; simp -implicitDefEqProofs only [slb, ↓reduceIte]; refine ⟨fun hb => ?_, fun hb => ?_⟩
 ·have hlt : k < e.kids.length := by simpa using hb
  have g0 := getD_map Ex.pv e.kids k hlt
  have q0 : (k : Int) < (e.kids.length : Int) := by omega
  have hi : IntKind.i64.wrap ((k : Int) + 1) = ((k + 1 : Nat) : Int) := by rw [wrap64 (by omega)]; omega
  (repeat (first | refine aSeq fun X hX => ?_ | refine aSkip ?_ | refine aReg ?_; simp -implicitDefEqProofs only [↓slp, ↓reduceIte, reduceCtorEq, jA, jB, jE, Yi, h1, h4, pI, g0, q0]; try simp only [fo] | apply hX; clear hX X | apply And.intro; focus omega))
  refine callE (IH k hlt _) ?_
  simp -implicitDefEqProofs only [↓slp, slb, ↓reduceIte, h4, pI]; try simp only [fo]
  have hx := dpWs_take e.kids k hlt 0
  (repeat (first | refine aSeq fun X hX => ?_ | refine aReg ?_; simp -implicitDefEqProofs only [↓slp, ↓reduceIte, jA, Yi, h3, h4, pI]; try simp only [fo] | apply hX; clear hX X))
  refine aIf ?_; simp -implicitDefEqProofs only [slb, ↓reduceIte]; refine ⟨fun hb => ?_, fun hb => ?_⟩
  ·have hb' : e.kids[k].dpW > Ex.dpWs (e.kids.take k) 0 := by simpa using hb
   (repeat (first | refine aReg ?_; simp -implicitDefEqProofs only [↓slp, ↓reduceIte, jA, Yi, h4, pI, hi]; try simp only [fo] | apply hX; clear hX X))
   rw [hI]
   refine ⟨⟨k + 1, hlt, h1, by rw [hx, mxI, if_pos hb']; rfl, rfl, rfl⟩, ?_⟩
   first | omega | (simp only [↓slp, slb, ↓reduceIte, reduceCtorEq, jA, jB, jC, jD, jE, jF, jG, jH, jI, jJ, jK, h4, pI]; omega)
  ·have hb' : ¬ e.kids[k].dpW > Ex.dpWs (e.kids.take k) 0 := by simpa using hb
   (repeat (first | refine aSkip ?_ | refine aReg ?_; simp -implicitDefEqProofs only [↓slp, ↓reduceIte, jA, Yi, h4, pI, hi]; try simp only [fo] | apply hX; clear hX X))
   rw [hI]
   refine ⟨⟨k + 1, hlt, h1, by rw [hx, mxI, if_neg hb']; exact h3, rfl, rfl⟩, ?_⟩
   first | omega | (simp only [↓slp, slb, ↓reduceIte, reduceCtorEq, jA, jB, jC, jD, jE, jF, jG, jH, jI, jJ, jK, h4, pI]; omega)
 ·have hlt : k = e.kids.length := by simp at hb; omega
  subst hlt
  (repeat (first | refine aSeq fun X hX => ?_ | (first | refine aExit ?_ | refine aRet ?_); try simp only [slx, ↓reduceIte, jA, reduceCtorEq] | refine aReg ?_; simp -implicitDefEqProofs only [↓slp, slb, ↓reduceIte, jA, h3, pI] | apply hX; clear hX X | clear hX X; apply hX; clear hX X))
  simp only [aPost, Try.results84, aRes_n, aRes_t, aRes_c, pack_one, pack_two]
  refine leave_same rfl ⟨?_, rfl⟩
  rw [e.dpW_eq, List.take_length]; rfl

theorem greater_any (x y : Int) (m : M) : ACalls Try.prog 83 [pI x, pI y] m (fun v m' => v = pI (mxI x y) ∧ m' = m) := by
 refine ACalls.enter (mu := []) ok_mix Try.func83 rfl (by kernel_rfl) (by kernel_rfl) (by simp only [List.length_cons, List.length_nil, Try.ntmps83]; omega) ?_
 (repeat (first | refine aSeq fun X hX => ?_ | refine aReg ?_; simp -implicitDefEqProofs only [↓slp, slb, ↓reduceIte, reduceCtorEq, jA, pI] | apply hX; clear hX X))
 refine aIf ?_; simp -implicitDefEqProofs only [slb, ↓reduceIte]; refine ⟨fun hb => ?_, fun hb => ?_⟩
 ·have h : x > y := by simpa using hb
  (repeat (first | refine aSeq fun X hX => ?_ | refine aRet ?_; try simp only [slx, ↓reduceIte, jA, reduceCtorEq] | refine aReg ?_; simp -implicitDefEqProofs only [↓slp, slb, ↓reduceIte, reduceCtorEq] | apply hX; clear hX X))
  simp only [aPost, Try.results83, aRes_n, aRes_t, aRes_c, pack_one, pack_two]
  refine leave_same rfl ⟨?_, rfl⟩
  rw [mxI, if_neg (by omega)]; rfl
 ·have h : ¬ x > y := by simpa using hb
  (repeat (first | refine aSeq fun X hX => ?_ | refine aSkip ?_ | refine aRet ?_ | refine aReg ?_; simp -implicitDefEqProofs only [↓slp, slb, ↓reduceIte, jA] | apply hX; clear hX X))
  simp only [aPost, Try.results83, aRes_n, aRes_t, aRes_c, pack_one, pack_two]
  refine leave_same rfl ⟨?_, rfl⟩
  unfold mxI
  split
  ·rfl
  ·rw [show x = y by omega]; rfl
end Go.Proofs.Ytibhhoknipdlpaa

/-
 How great a block is, and how deep: package tree's functions.
-/
set_option linter.unusedVariables false
set_option linter.unusedSimpArgs false
namespace Go.Proofs.Ytibhhoknipdlpaa
open Nat renaming reduceEqDiff → jA, reduceAdd → jB, reduceMul → jC, reduceLT → jD, reduceLeDiff → jE, reduceBEq → jF, reduceBNe → jG
open Int renaming reduceLE → jH, reduceLT → jI, reduceToNat → jJ, reduceEq → jK
open Go
-- EXX: Qu.settle_pv, Qu.pure_pv, Qu.cells_pv, Qu.cs, Am.settle_pv, Am.pure_pv, Am.cells_pv, Am.cs, Tr.settle_pv, Tr.pure_pv, Tr.cells_pv, Tr.cs, cnt_nb, cnt_nt, cnt_fresh, cnt_use, cnt_free, cnt_alive, cnt_a, cnt_upda, cnt_ext, cnt_ext2, cnt_ea, cnt_own, cnt_own0, cnt_ou, cnt_ou0
set_option maxRecDepth 20000
-- TNAMES: int; uint8; int32; string; bool; []string; []api.Expr; api.Expr; api.Pos; api.Type; api.On; []api.On; api.Var; []api.Var; api.Equation; []api.Equation; api.Block; api.Trans; []api.Trans; [][]api.Trans; api.Arm; []api.Arm
set_option linter.defProp false
def Yj := And.intro @slb (And.intro @tfA (And.intro @Ex.settle_pv (And.intro @Ex.pure_pv (And.intro @Ex.cells_pv (And.intro @Ex.cs.eq_1 (And.intro @On.pv.eq_1 (And.intro @Ty.pv.eq_1 (And.intro @Va.settle_pv (And.intro @Va.pure_pv (And.intro @Va.cells_pv (And.intro @Va.cs.eq_1 (And.intro @Qu.settle_pv (And.intro @Qu.pure_pv (And.intro @Qu.cells_pv (And.intro @Qu.cs.eq_1 (And.intro @Am.settle_pv (And.intro @Am.pure_pv (And.intro @Am.cells_pv (And.intro @Am.cs.eq_1 (And.intro @Tr.settle_pv (And.intro @Tr.pure_pv (And.intro @Tr.cells_pv (And.intro @Tr.cs.eq_1 (And.intro @cnt_nb (And.intro @cnt_nt (And.intro @cnt_fresh (And.intro @cnt_use (And.intro @cnt_free (And.intro @cnt_alive (And.intro @cnt_a (And.intro @cnt_upda (And.intro @cnt_ext (And.intro @cnt_ext2 (And.intro @cnt_ea (And.intro @cnt_own (And.intro @cnt_own0 (And.intro @cnt_ou @cnt_ou0)))))))))))))))))))))))))))))))))))))

theorem fold_take {α β : Type} (f : β → α → β) (l : List α) (k : Nat) (h : k < l.length) (n : β) : (l.take (k + 1)).foldl f n = f ((l.take k).foldl f n) l[k] := by
 rw [List.take_succ_eq_append_getElem h, List.foldl_append]; rfl
def exHas (q : Qu) : Bool := (q.kind != 2 && q.kind != 4) || q.has
def eachF (st : Int → Ex → Int) (q : Qu) (n : Int) : Int := if exHas q then st (q.args.foldl st n) q.e else q.args.foldl st n
def szS (n : Int) (e : Ex) : Int := w64 (n + e.szW)
def dpS (n : Int) (e : Ex) : Int := mxI n e.dpW
abbrev MbT := List Va → List Qu → Int
def szV (n : Int) (v : Va) : Int := if v.last then szS n v.first else n
def szT (n : Int) (t : Tr) : Int := w64 (n + w64 (1 + t.e.szW))
def szA (sb : MbT) (n : Int) (a : Am) : Int := (a.unl ++ a.til).foldl szT (w64 (n + w64 (1 + sb a.vars a.eqs)))
def szQ (sb : MbT) (n : Int) (q : Qu) : Int := q.arms.foldl (szA sb) (eachF szS q (w64 (n + 1)))
def szB (sb : MbT) : MbT := fun V Q => Q.foldl (szQ sb) (V.foldl szV V.length)
def szF : Nat → MbT
 | 0 => szB (fun _ _ => 0)
 | d + 1 => szB (szF d)
def dpV (n : Int) (v : Va) : Int := if v.last then dpS n v.first else n
def dpT (n : Int) (t : Tr) : Int := dpS n t.e
def dpA (sb : MbT) (n : Int) (a : Am) : Int := (a.unl ++ a.til).foldl dpT (mxI n (sb a.vars a.eqs))
def dpQ (sb : MbT) (n : Int) (q : Qu) : Int := q.arms.foldl (dpA sb) (eachF dpS q n)
def dpBl (sb : MbT) : MbT := fun V Q => w64 (Q.foldl (dpQ sb) (V.foldl dpV 0) + 1)
def dpF : Nat → MbT
 | 0 => dpBl (fun _ _ => 0)
 | d + 1 => dpBl (dpF d)
theorem cnt_new (m : M) (x n : Int) : cnt m.nb (m.ext [some (cN x)]) n = m.ext [some (cN n)] := by
 unfold cnt
 rw [ext_upd0 rfl]; rfl

set_option maxHeartbeats 1000000 in
theorem each_any (g : FuncId) (st : Int → Ex → Int) (a : Nat) (m : M) (hA : a < m.nb) (hf : ∀ (e : Ex) (n : Int), ACalls Try.prog g [e.pv, .bp a 0] (cnt a m n) (fun v m' => m' = cnt a m (st n e))) (q : Qu) (n : Int) : ACalls Try.prog 85 [q.pv, .fn (.func g) [] [.bp a 0]] (cnt a m n) (fun v m' => m' = cnt a m (eachF st q n)) := by
 refine ACalls.enter (mu := []) ok_mix Try.func85 rfl (by kernel_rfl) (by kernel_rfl) (by simp only [List.length_cons, List.length_nil, Try.ntmps85]; omega) ?_
 (repeat (first | refine aSeq fun X hX => ?_ | refine aBlk ?_ | refine aReg ?_; simp -implicitDefEqProofs only [↓slp, ↓reduceIte, reduceCtorEq, jB, jE, Yj] | apply hX; clear hX X | intro hlen; unfold maxLen at hlen))
 obtain ⟨I, hI⟩ : ∃ I : F → M → Prop, ∀ f m', I f m' = (∃ (k : Nat), k ≤ q.args.length ∧ f 1 = .fn (.func g) [] [.bp a 0] ∧ f 2 = .ep q.cs ∧ f 7 = .sl .no (q.args.map Ex.pv) ∧ f 8 = pI q.args.length ∧ f 9 = pI k ∧ m' = cnt a m ((q.args.take k).foldl st n)) := ⟨_, fun _ _ => rfl⟩
 refine aLoop I (fun f m => q.args.length - numOf (f 9)) ?_ ?_
 ·rw [hI]; exact ⟨0, by omega, rfl, rfl, rfl, rfl, rfl, rfl⟩
 intro f m' hrel
 rw [hI] at hrel
 obtain ⟨k, hk, h1, h2, h7, h8, h9, rfl⟩ := hrel
 (repeat (first | refine aSeq fun X hX => ?_ | refine aReg ?_; simp -implicitDefEqProofs only [↓slp, slb, ↓reduceIte, h8, h9, pI] | apply hX; clear hX X))
 refine aIf ?_; simp -implicitDefEqProofs only [slb, ↓reduceIte]; refine ⟨fun hb => ?_, fun hb => ?_⟩
 ·have hlt : k < q.args.length := by simpa using hb
  have g0 := getD_map Ex.pv q.args k hlt
  have hi : IntKind.i64.wrap ((k : Int) + 1) = ((k + 1 : Nat) : Int) := by rw [wrap64 (by omega)]; omega
  (repeat (first | refine aSeq fun X hX => ?_ | refine aSkip ?_ | refine aReg ?_; simp -implicitDefEqProofs only [↓slp, ↓reduceIte, jA, jB, jE, jF, Yj, h1, h7, h9, pI, g0]; try simp only [fo] | apply hX; clear hX X | apply And.intro; focus omega))
  refine callM (hf _ _) ?_
  rintro v m' rfl
  simp -implicitDefEqProofs only [Yj, h9, pI]; try simp only [fo]
  (repeat (first | refine aReg ?_; simp -implicitDefEqProofs only [↓slp, ↓reduceIte, jA, Yj, h9, pI, hi]; try simp only [fo] | apply hX; clear hX X))
  rw [hI]
  refine ⟨⟨k + 1, hlt, h1, h2, h7, h8, rfl, by rw [fold_take _ _ _ hlt]⟩, ?_⟩
  first | omega | (simp only [↓slp, slb, ↓reduceIte, reduceCtorEq, jA, jB, jC, jD, jE, jF, jG, jH, jI, jJ, jK, h9, pI]; omega)
 ·have hlt : k = q.args.length := by simp at hb; omega
  subst hlt
  rw [List.take_length]
  cases c0 : exHas q with
  | true =>
   have c1 := c0
   unfold exHas at c1
   cases c2 : (q.kind == 2) <;> cases c3 : (q.kind == 4) <;> cases c4 : q.has <;> simp only [bne, Bool.not_true, Bool.not_false, c2, c3, c4, Bool.and_true, Bool.and_false, Bool.true_and, Bool.false_and, Bool.or_true, Bool.or_false, reduceCtorEq] at c1
   all_goals
    (repeat (first | refine aSeq fun X hX => ?_ | refine aExit ?_; try simp only [slx, ↓reduceIte, jA, reduceCtorEq] | refine aReg ?_; simp -implicitDefEqProofs only [↓slp, ↓reduceIte, reduceCtorEq, jA, jB, jE, Yj, h1, h2, c2, c3, c4] | apply hX; clear hX X | clear hX X; apply hX; clear hX X))
    try (refine aIf ?_; simp -implicitDefEqProofs only [↓slp, slb, ↓reduceIte, reduceCtorEq, jA, jB, jE])
    (repeat (refine aReg ?_; simp -implicitDefEqProofs only [↓slp, ↓reduceIte, reduceCtorEq, jA, jB, jE, Yj, h1, h2, c2, c4]; try simp only [fo]))
    refine callM (hf _ _) ?_
    rintro v m' rfl
    simp -implicitDefEqProofs only [↓slp, ↓reduceIte, reduceCtorEq, jA, jB, jE, Yj, h1, h2]; try simp only [fo]
    (repeat (first | refine aSeq fun X hX => ?_ | apply aBlk | refine aSkip ?_ | (first | refine aExit ?_ | refine aRet ?_); try simp only [slx, ↓reduceIte, jA, reduceCtorEq] | (first | apply aReg | refine aDrE ?_); simp -implicitDefEqProofs only [forall_eq, ↓slp, ↓reduceIte, reduceCtorEq, jA, jB, jC, jD, jE, jF, jG, jH, jI, jJ, jK, Yj, h1, h2]; try simp only [fo] | apply hX; clear hX X | clear hX X; apply hX; clear hX X | clear hX X; clear hX X; apply hX; clear hX X | intro hlen; unfold maxLen at hlen | apply And.intro; · first | assumption | and_intros <;> first | omega | assumption))
    simp only [aPost, Try.results85, aRes_n, aRes_t, aRes_c, pack_one, pack_two]
    refine leave_cnt0 hA (.refl m) rfl ?_
    rw [eachF, if_pos c0]
  | false =>
   have c1 := c0
   unfold exHas at c1
   cases c2 : (q.kind == 2) <;> cases c3 : (q.kind == 4) <;> cases c4 : q.has <;> simp only [bne, Bool.not_true, Bool.not_false, c2, c3, c4, Bool.and_true, Bool.and_false, Bool.true_and, Bool.false_and, Bool.or_true, Bool.or_false, reduceCtorEq] at c1
   all_goals
    (repeat (first | refine aSeq fun X hX => ?_ | refine aExit ?_; try simp only [slx, ↓reduceIte, jA, reduceCtorEq] | refine aReg ?_; simp -implicitDefEqProofs only [↓slp, ↓reduceIte, reduceCtorEq, jA, jB, jE, Yj, h2, c2, c3, c4] | apply hX; clear hX X | clear hX X; apply hX; clear hX X))
    try (refine aIf ?_; simp -implicitDefEqProofs only [↓slp, slb, ↓reduceIte, reduceCtorEq, jA, jB, jE])
    (repeat refine aSkip ?_)
    simp only [aPost, Try.results85, aRes_n, aRes_t, aRes_c, pack_one, pack_two]
    refine leave_cnt0 hA (.refl m) rfl ?_
    rw [eachF, if_neg (by rw [c0]; exact Bool.false_ne_true)]

set_option maxHeartbeats 1000000 in
theorem szClo_any (a : Nat) (m : M) (hA : a < m.nb) (e : Ex) (n : Int) : ACalls Try.prog 86 [e.pv, .bp a 0] (cnt a m n) (fun v m' => m' = cnt a m (szS n e)) := by
 refine ACalls.enter (mu := []) ok_mix Try.func86 rfl (by kernel_rfl) (by kernel_rfl) (by simp only [List.length_cons, List.length_nil, Try.ntmps86]; omega) ?_
 (repeat (first | refine aSeq fun X hX => ?_ | refine aReg ?_; simp -implicitDefEqProofs only [↓slp, ↓reduceIte, Yj]; try simp only [fo] | apply hX; clear hX X))
 refine aDrwE (fun m2 => m2 = cnt a m n) (hne := List.cons_ne_nil _ _) rfl (by kernel_rfl) (by kernel_rfl) rfl ?_
 simp -implicitDefEqProofs only [↓slp, ↓reduceIte, jA, jB, jE, Yj, hA, List.dropLast_cons_cons, List.dropLast_singleton, List.getLast_cons_cons, List.getLast_singleton]; try simp only [fo]
 refine callE (sizeW_any _ _) ?_
 simp -implicitDefEqProofs only [↓slp, ↓reduceIte, jA, jB, jE, Yj, hA]; try simp only [fo]
 (repeat (first | refine aSeq fun X hX => ?_ | apply aBlk | refine aSkip ?_ | (first | refine aExit ?_ | refine aRet ?_); try simp only [slx, ↓reduceIte, jA, reduceCtorEq] | (first | apply aReg | apply aIf); simp -implicitDefEqProofs only [forall_eq, ↓slp, ↓reduceIte, reduceCtorEq, jA, jB, jC, jD, jE, jF, jG, jH, jI, jJ, jK, Yj, hA]; try simp only [fo] | apply hX; clear hX X | clear hX X; apply hX; clear hX X | clear hX X; clear hX X; apply hX; clear hX X | intro hlen; unfold maxLen at hlen | apply And.intro; · first | assumption | and_intros <;> first | omega | assumption))
 simp only [aPost, Try.results86, aRes_n, aRes_t, aRes_c, pack_one, pack_two]
 refine leave_cnt0 hA (.refl m) rfl ?_
 rfl
set_option maxHeartbeats 1000000 in
theorem dpClo_any (a : Nat) (m : M) (hA : a < m.nb) (e : Ex) (n : Int) : ACalls Try.prog 88 [e.pv, .bp a 0] (cnt a m n) (fun v m' => m' = cnt a m (dpS n e)) := by
 refine ACalls.enter (mu := []) ok_mix Try.func88 rfl (by kernel_rfl) (by kernel_rfl) (by simp only [List.length_cons, List.length_nil, Try.ntmps88]; omega) ?_
 (repeat (first | refine aSeq fun X hX => ?_ | refine aReg ?_; simp -implicitDefEqProofs only [↓slp, ↓reduceIte, Yj]; try simp only [fo] | apply hX; clear hX X))
 refine aDrwE (fun m2 => m2 = cnt a m n) (hne := List.cons_ne_nil _ _) rfl (by kernel_rfl) (by kernel_rfl) rfl ?_
 simp -implicitDefEqProofs only [↓slp, ↓reduceIte, jA, jB, jE, Yj, hA, List.dropLast_cons_cons, List.dropLast_singleton, List.getLast_cons_cons, List.getLast_singleton]; try simp only [fo]
 refine callE (depthW_any _ _) ?_
 simp -implicitDefEqProofs only [↓slp, ↓reduceIte, jA, jB, jE, Yj, hA]; try simp only [fo]
 (repeat (first | refine aSeq fun X hX => ?_ | apply aBlk | refine aSkip ?_ | (first | refine aExit ?_ | refine aRet ?_); try simp only [slx, ↓reduceIte, jA, reduceCtorEq] | (first | apply aReg | apply aIf); simp -implicitDefEqProofs only [forall_eq, ↓slp, ↓reduceIte, reduceCtorEq, jA, jB, jC, jD, jE, jF, jG, jH, jI, jJ, jK, Yj, hA]; try simp only [fo] | apply hX; clear hX X | clear hX X; apply hX; clear hX X | clear hX X; clear hX X; apply hX; clear hX X | intro hlen; unfold maxLen at hlen | apply And.intro; · first | assumption | and_intros <;> first | omega | assumption))
 simp only [aPost, Try.results88, aRes_n, aRes_t, aRes_c, pack_one, pack_two]
 refine leave_cnt0 hA (.refl m) rfl ?_
 rfl
abbrev bkP2 (V : List Va) (Q : List Qu) : PV := .ag [.sl .no (V.map Va.pv), .sl .no (Q.map Qu.pv)]
set_option maxHeartbeats 4000000 in
theorem sz_step {sb : MbT} (V : List Va) (Q : List Qu) (hL : V.length < 2 ^ 30) (hA : ∀ q ∈ Q, ∀ a ∈ q.arms, a.unl.length + a.til.length < 2 ^ 30 ∧ ∀ m : M, ACalls Try.prog 39 [bkP2 a.vars a.eqs] m (fun v m' => v = pI (sb a.vars a.eqs) ∧ m' = m)) (m : M) : ACalls Try.prog 39 [bkP2 V Q] m (fun v m' => v = pI (szB sb V Q) ∧ m' = m) := by
 have hE : ∀ (q : Qu) (n : Int), ACalls Try.prog 85 [.ag q.cs, .fn (.func 86) [] [.bp m.nb 0]] (m.ext [some (cN n)]) (fun v m' => m' = m.ext [some (cN (eachF szS q n))]) := fun q n => by
  have h := each_any 86 szS m.nb (m.ext [some (cN 0)]) (by rw [ext_nb]; exact Nat.lt_succ_self _) (fun e n => szClo_any m.nb _ (by rw [ext_nb]; exact Nat.lt_succ_self _) e n) q n
  rw [cnt_new, cnt_new, Qu.pv_eq] at h
  exact h
 refine ACalls.enter (mu := [3]) ok_mix Try.func39 rfl (by kernel_rfl) (by kernel_rfl) (by simp only [List.length_cons, List.length_nil, Try.ntmps39]; omega) ?_
 (repeat (first | refine aSeq fun X hX => ?_ | refine aBlk ?_ | refine aReg ?_; simp -implicitDefEqProofs only [↓slp, ↓reduceIte, reduceCtorEq, jA, jB, jE, jF, Yj] | apply hX; clear hX X | intro hlen; unfold maxLen at hlen))
 obtain ⟨Ik, hIk⟩ : ∃ I : F → M → Prop, ∀ f m', I f m' = (∃ (k : Nat), k ≤ V.length ∧ f 3 = .bp m.nb 0 ∧ f 1 = .ep [.sl .no (V.map Va.pv), .sl .no (Q.map Qu.pv)] ∧ f 16 = .sl .no (V.map Va.pv) ∧ f 17 = pI V.length ∧ f 18 = pI k ∧ m' = m.ext [some (cN ((V.take k).foldl szV (V.length : Int)))]) := ⟨_, fun _ _ => rfl⟩
 refine aLoop Ik (fun f m => V.length - numOf (f 18)) ?_ ?_
 ·rw [hIk]; exact ⟨0, by omega, (by first | rfl | assumption), (by first | rfl | assumption), (by first | rfl | assumption), (by first | rfl | assumption), (by first | rfl | assumption), rfl⟩
 intro f m' hrel
 rw [hIk] at hrel
 obtain ⟨k, hkk, h3, h1, h16, h17, h18, rfl⟩ := hrel
 have hmuk : numOf (f 18) = k := by rw [h18]; exact Int.toNat_natCast _
 (repeat (first | refine aSeq fun X hX => ?_ | refine aReg ?_; simp -implicitDefEqProofs only [↓slp, slb, ↓reduceIte, jF, h17, h18, pI] | apply hX; clear hX X))
 refine aIf ?_; simp -implicitDefEqProofs only [slb, ↓reduceIte]; refine ⟨fun hb => ?_, fun hb => ?_⟩
 ·have hlt : k < V.length := by simpa using hb
  have g0 := getD_map Va.pv V k hlt
  have hik : IntKind.i64.wrap ((k : Int) + 1) = ((k + 1 : Nat) : Int) := by rw [wrap64 (by omega)]; omega
  have hft := fold_take szV V k hlt (V.length : Int)
  cases c1 : V[k].last with
  | true =>
   (repeat (first | refine aSeq fun X hX => ?_ | refine aSkip ?_ | refine aReg ?_; simp -implicitDefEqProofs only [↓slp, ↓reduceIte, reduceCtorEq, jA, jB, jE, jF, Yj, h16, h18, pI, g0, c1] | apply hX; clear hX X | apply And.intro; focus omega))
   refine aIf ?_; simp -implicitDefEqProofs only [slb, ↓reduceIte, reduceCtorEq]
   (repeat (first | refine aSeq fun X hX => ?_ | apply aBlk | refine aSkip ?_ | (first | refine aExit ?_ | refine aRet ?_); try simp only [slx, ↓reduceIte, jA, reduceCtorEq] | (apply hX; clear hX X) | (clear hX X; apply hX; clear hX X)))
   refine aDrwE (fun m2 => m2 = m.ext [some (cN ((V.take k).foldl szV (V.length : Int)))]) (hne := List.cons_ne_nil _ _) rfl (by kernel_rfl) (by kernel_rfl) rfl ?_
   simp -implicitDefEqProofs only [↓slp, ↓reduceIte, reduceCtorEq, jA, jB, jE, jF, Yj, h3, h18, pI, List.dropLast_cons_cons, List.dropLast_singleton, List.getLast_cons_cons, List.getLast_singleton]; try simp only [fo]
   refine callE (sizeW_any _ _) ?_
   simp -implicitDefEqProofs only [↓slp, slb, ↓reduceIte, jA, jB, jE, jF, h3, pI]; try simp only [fo]
   (repeat (first | refine aReg ?_; simp -implicitDefEqProofs only [↓slp, slb, ↓reduceIte, jA, jF, h18, pI, hik] | apply hX; clear hX X))
   rw [hIk]
   refine ⟨⟨k + 1, hlt, (by first | rfl | assumption), (by first | rfl | assumption), (by first | rfl | assumption), (by first | rfl | assumption), (by first | rfl | assumption), ?_⟩, ?_⟩
   ·rw [hft, szV, if_pos c1]; rfl
   ·first | omega | (simp only [↓slp, slb, ↓reduceIte, reduceCtorEq, jA, jB, jC, jD, jE, jF, jG, jH, jI, jJ, jK, h18, pI]; omega)
  | false =>
   (repeat (first | refine aSeq fun X hX => ?_ | refine aSkip ?_ | refine aReg ?_; simp -implicitDefEqProofs only [↓slp, ↓reduceIte, reduceCtorEq, jA, jB, jE, jF, Yj, h16, h18, pI, g0, c1] | apply hX; clear hX X | apply And.intro; focus omega))
   refine aIf ?_; simp -implicitDefEqProofs only [slb, ↓reduceIte]
   (repeat (first | refine aSkip ?_ | refine aReg ?_; simp -implicitDefEqProofs only [↓slp, slb, ↓reduceIte, jA, jF, h18, pI, hik] | apply hX; clear hX X))
   rw [hIk]
   refine ⟨⟨k + 1, hlt, (by first | rfl | assumption), (by first | rfl | assumption), (by first | rfl | assumption), (by first | rfl | assumption), (by first | rfl | assumption), ?_⟩, ?_⟩
   ·rw [hft, szV, if_neg (by rw [c1]; exact Bool.false_ne_true)]
   ·first | omega | (simp only [↓slp, slb, ↓reduceIte, reduceCtorEq, jA, jB, jC, jD, jE, jF, jG, jH, jI, jJ, jK, h18, pI]; omega)
 obtain rfl : k = V.length := by simp at hb; omega
 rw [List.take_length]
 generalize hn1 : V.foldl szV (V.length : Int) = n1
 (repeat (first | refine aSeq fun X hX => ?_ | refine aBlk ?_ | refine aExit ?_; try simp only [slx, ↓reduceIte, jA, reduceCtorEq] | refine aReg ?_; simp -implicitDefEqProofs only [↓slp, ↓reduceIte, reduceCtorEq, jA, jB, jE, jF, Yj, h1, pI] | apply hX; clear hX X | clear hX X; apply hX; clear hX X | intro hlen; unfold maxLen at hlen))
 obtain ⟨Ii, hIi⟩ : ∃ I : F → M → Prop, ∀ f m', I f m' = (∃ (i : Nat), i ≤ Q.length ∧ f 3 = .bp m.nb 0 ∧ f 31 = .sl .no (Q.map Qu.pv) ∧ f 32 = pI Q.length ∧ f 33 = pI i ∧ m' = m.ext [some (cN ((Q.take i).foldl (szQ sb) n1))]) := ⟨_, fun _ _ => rfl⟩
 refine aLoop Ii (fun f m => Q.length - numOf (f 33)) ?_ ?_
 ·rw [hIi]; exact ⟨0, by omega, (by first | rfl | assumption), (by first | rfl | assumption), (by first | rfl | assumption), (by first | rfl | assumption), rfl⟩
 intro f m' hrel
 rw [hIi] at hrel
 obtain ⟨i, hki, h3, h31, h32, h33, rfl⟩ := hrel
 have hmui : numOf (f 33) = i := by rw [h33]; exact Int.toNat_natCast _
 (repeat (first | refine aSeq fun X hX => ?_ | refine aReg ?_; simp -implicitDefEqProofs only [↓slp, slb, ↓reduceIte, jF, h32, h33, pI] | apply hX; clear hX X))
 refine aIf ?_; simp -implicitDefEqProofs only [slb, ↓reduceIte]; refine ⟨fun hb => ?_, fun hb => ?_⟩
 ·have hlti : i < Q.length := by simpa using hb
  have g1 := getD_map Qu.pv Q i hlti
  have hii : IntKind.i64.wrap ((i : Int) + 1) = ((i + 1 : Nat) : Int) := by rw [wrap64 (by omega)]; omega
  have hfq := fold_take (szQ sb) Q i hlti n1
  skip
  (repeat (first | refine aSeq fun X hX => ?_ | refine aSkip ?_ | refine aReg ?_; simp -implicitDefEqProofs only [↓slp, ↓reduceIte, jA, jB, jE, jF, Yj, h3, h31, h33, pI, g1] | apply hX; clear hX X | apply And.intro; focus omega))
  refine callM (hE _ _) ?_
  rintro v m' rfl
  simp -implicitDefEqProofs only [slb, h33]
  (repeat (first | refine aSeq fun X hX => ?_ | refine aBlk ?_ | refine aReg ?_; simp -implicitDefEqProofs only [↓slp, ↓reduceIte, reduceCtorEq, jA, jB, jE, jF, Yj, h33, pI] | apply hX; clear hX X | intro hlen; unfold maxLen at hlen))
  obtain ⟨Ij, hIj⟩ : ∃ I : F → M → Prop, ∀ f m', I f m' = (∃ (j : Nat), j ≤ Q[i].arms.length ∧ f 3 = .bp m.nb 0 ∧ f 31 = .sl .no (Q.map Qu.pv) ∧ f 32 = pI Q.length ∧ f 33 = pI i ∧ f 43 = .sl .no (Q[i].arms.map Am.pv) ∧ f 44 = pI Q[i].arms.length ∧ f 45 = pI j ∧ m' = m.ext [some (cN ((Q[i].arms.take j).foldl (szA sb) (eachF szS Q[i] (w64 ((Q.take i).foldl (szQ sb) n1 + 1)))))]) := ⟨_, fun _ _ => rfl⟩
  refine aLoop Ij (fun f m => Q[i].arms.length - numOf (f 45)) ?_ ?_
  ·rw [hIj]; exact ⟨0, by omega, (by first | rfl | assumption), (by first | rfl | assumption), (by first | rfl | assumption), (by first | rfl | assumption), (by first | rfl | assumption), (by first | rfl | assumption), (by first | rfl | assumption), rfl⟩
  intro f m' hrel
  rw [hIj] at hrel
  obtain ⟨j, hkj, h3, h31, h32, h33, h43, h44, h45, rfl⟩ := hrel
  have hmuj : numOf (f 45) = j := by rw [h45]; exact Int.toNat_natCast _
  (repeat (first | refine aSeq fun X hX => ?_ | refine aReg ?_; simp -implicitDefEqProofs only [↓slp, slb, ↓reduceIte, jF, h44, h45, pI] | apply hX; clear hX X))
  refine aIf ?_; simp -implicitDefEqProofs only [slb, ↓reduceIte]; refine ⟨fun hb => ?_, fun hb => ?_⟩
  ·have hltj : j < Q[i].arms.length := by simpa using hb
   have g2 := getD_map Am.pv Q[i].arms j hltj
   have hij : IntKind.i64.wrap ((j : Int) + 1) = ((j + 1 : Nat) : Int) := by rw [wrap64 (by omega)]; omega
   have hfa := fold_take (szA sb) Q[i].arms j hltj (eachF szS Q[i] (w64 ((Q.take i).foldl (szQ sb) n1 + 1)))
   obtain ⟨hwl, hBk⟩ := hA Q[i] (List.getElem_mem hlti) Q[i].arms[j] (List.getElem_mem hltj)
   have hcc := fun m1 => concatT_any .full [Q[i].arms[j].unl, Q[i].arms[j].til] m1 (by rw [show [Q[i].arms[j].unl, Q[i].arms[j].til].flatten = Q[i].arms[j].unl ++ Q[i].arms[j].til by simp, List.length_append]; omega)
   (repeat (first | refine aSeq fun X hX => ?_ | refine aSkip ?_ | refine aReg ?_; simp -implicitDefEqProofs only [↓slp, ↓reduceIte, jA, jB, jE, jF, Yj, h43, h45, pI, g2] | apply hX; clear hX X | apply And.intro; focus omega))
   refine aDrwE (fun m2 => m2 = m.ext [some (cN ((Q[i].arms.take j).foldl (szA sb) (eachF szS Q[i] (w64 ((Q.take i).foldl (szQ sb) n1 + 1)))))]) (hne := List.cons_ne_nil _ _) rfl (by kernel_rfl) (by kernel_rfl) rfl ?_
   simp -implicitDefEqProofs only [↓slp, ↓reduceIte, reduceCtorEq, jA, jB, jE, jF, Yj, h3, h45, pI, List.dropLast_cons_cons, List.dropLast_singleton, List.getLast_cons_cons, List.getLast_singleton]
   refine callE (hBk _) ?_
   simp -implicitDefEqProofs only [↓slp, slb, ↓reduceIte, jA, jB, jE, jF, h3, pI]
   (repeat (first | refine aSeq fun X hX => ?_ | refine aReg ?_; simp -implicitDefEqProofs only [forall_eq, ↓slp, ↓reduceIte, reduceCtorEq, jA, jB, jC, jE, jF, Yj] | apply hX; clear hX X))
   refine callE (hcc _) ?_
   rw [show [Q[i].arms[j].unl, Q[i].arms[j].til].flatten = Q[i].arms[j].unl ++ Q[i].arms[j].til by simp]
   simp -implicitDefEqProofs only [↓slp, ↓reduceIte, jF, Yj, h45]
   generalize hW : Q[i].arms[j].unl ++ Q[i].arms[j].til = W
   (repeat (first | refine aBlk ?_ | apply hX; clear hX X | intro hlen; unfold maxLen at hlen))
   obtain ⟨It, hIt⟩ : ∃ I : F → M → Prop, ∀ f m', I f m' = (∃ (t : Nat), t ≤ W.length ∧ f 3 = .bp m.nb 0 ∧ f 31 = .sl .no (Q.map Qu.pv) ∧ f 32 = pI Q.length ∧ f 33 = pI i ∧ f 43 = .sl .no (Q[i].arms.map Am.pv) ∧ f 44 = pI Q[i].arms.length ∧ f 45 = pI j ∧ f 60 = .sl .no (W.map Tr.pv) ∧ f 61 = pI W.length ∧ f 62 = pI t ∧ m' = m.ext [some (cN ((W.take t).foldl szT (w64 ((Q[i].arms.take j).foldl (szA sb) (eachF szS Q[i] (w64 ((Q.take i).foldl (szQ sb) n1 + 1))) + w64 (1 + sb Q[i].arms[j].vars Q[i].arms[j].eqs)))))]) := ⟨_, fun _ _ => rfl⟩
   refine aLoop It (fun f m => W.length - numOf (f 62)) ?_ ?_
   ·rw [hIt]; exact ⟨0, by omega, (by first | rfl | assumption), (by first | rfl | assumption), (by first | rfl | assumption), (by first | rfl | assumption), (by first | rfl | assumption), (by first | rfl | assumption), (by first | rfl | assumption), (by first | rfl | assumption), (by first | rfl | assumption), (by first | rfl | assumption), rfl⟩
   intro f m' hrel
   rw [hIt] at hrel
   obtain ⟨t, hkt, h3, h31, h32, h33, h43, h44, h45, h60, h61, h62, rfl⟩ := hrel
   have hmut : numOf (f 62) = t := by rw [h62]; exact Int.toNat_natCast _
   (repeat (first | refine aSeq fun X hX => ?_ | refine aReg ?_; simp -implicitDefEqProofs only [↓slp, slb, ↓reduceIte, jF, h61, h62, pI] | apply hX; clear hX X))
   refine aIf ?_; simp -implicitDefEqProofs only [slb, ↓reduceIte]; refine ⟨fun hb => ?_, fun hb => ?_⟩
   ·have hltt : t < W.length := by simpa using hb
    have g3 := getD_map Tr.pv W t hltt
    have hit : IntKind.i64.wrap ((t : Int) + 1) = ((t + 1 : Nat) : Int) := by rw [wrap64 (by omega)]; omega
    have hft := fold_take szT W t hltt (w64 ((Q[i].arms.take j).foldl (szA sb) (eachF szS Q[i] (w64 ((Q.take i).foldl (szQ sb) n1 + 1))) + w64 (1 + sb Q[i].arms[j].vars Q[i].arms[j].eqs)))
    (repeat (first | refine aSeq fun X hX => ?_ | refine aSkip ?_ | refine aReg ?_; simp -implicitDefEqProofs only [↓slp, ↓reduceIte, jA, jB, jE, jF, Yj, h60, h62, pI, g3] | apply hX; clear hX X | apply And.intro; focus omega))
    refine aDrwE (fun m2 => m2 = m.ext [some (cN ((W.take t).foldl szT (w64 ((Q[i].arms.take j).foldl (szA sb) (eachF szS Q[i] (w64 ((Q.take i).foldl (szQ sb) n1 + 1))) + w64 (1 + sb Q[i].arms[j].vars Q[i].arms[j].eqs)))))]) (hne := List.cons_ne_nil _ _) rfl (by kernel_rfl) (by kernel_rfl) rfl ?_
    simp -implicitDefEqProofs only [↓slp, ↓reduceIte, reduceCtorEq, jA, jB, jE, jF, Yj, h3, h62, pI, List.dropLast_cons_cons, List.dropLast_singleton, List.getLast_cons_cons, List.getLast_singleton]; try simp only [fo]
    refine callE (sizeW_any _ _) ?_
    simp -implicitDefEqProofs only [↓slp, slb, ↓reduceIte, jA, jB, jE, jF, h3, pI]; try simp only [fo]
    (repeat (first | refine aReg ?_; simp -implicitDefEqProofs only [↓slp, slb, ↓reduceIte, jA, jF, h62, pI, hit] | apply hX; clear hX X))
    rw [hIt]
    refine ⟨⟨t + 1, hltt, (by first | rfl | assumption), (by first | rfl | assumption), (by first | rfl | assumption), (by first | rfl | assumption), (by first | rfl | assumption), (by first | rfl | assumption), (by first | rfl | assumption), (by first | rfl | assumption), (by first | rfl | assumption), (by first | rfl | assumption), ?_⟩, ?_⟩
    ·rw [hft]; rfl
    ·first | omega | (simp only [↓slp, slb, ↓reduceIte, reduceCtorEq, jA, jB, jC, jD, jE, jF, jG, jH, jI, jJ, jK, h62, pI]; omega)
   obtain rfl : t = W.length := by simp at hb; omega
   rw [List.take_length]
   (repeat (first | refine aExit ?_; try simp only [slx, ↓reduceIte, jA, reduceCtorEq] | refine aReg ?_; simp -implicitDefEqProofs only [↓slp, slb, ↓reduceIte, jA, jF, h45, pI, hij] | clear hX X; apply hX; clear hX X))
   rw [hIj]
   refine ⟨⟨j + 1, hltj, (by first | rfl | assumption), (by first | rfl | assumption), (by first | rfl | assumption), (by first | rfl | assumption), (by first | rfl | assumption), (by first | rfl | assumption), (by first | rfl | assumption), ?_⟩, ?_⟩
   ·rw [hfa, szA, hW]
   ·first | omega | (simp only [↓slp, slb, ↓reduceIte, reduceCtorEq, jA, jB, jC, jD, jE, jF, jG, jH, jI, jJ, jK, h45, pI]; omega)
  obtain rfl : j = Q[i].arms.length := by simp at hb; omega
  rw [List.take_length]
  (repeat (first | refine aExit ?_; try simp only [slx, ↓reduceIte, jA, reduceCtorEq] | refine aReg ?_; simp -implicitDefEqProofs only [↓slp, slb, ↓reduceIte, jA, jF, h33, pI, hii] | clear hX X; apply hX; clear hX X))
  rw [hIi]
  refine ⟨⟨i + 1, hlti, (by first | rfl | assumption), (by first | rfl | assumption), (by first | rfl | assumption), (by first | rfl | assumption), ?_⟩, ?_⟩
  ·rw [hfq, szQ]
  ·first | omega | (simp only [↓slp, slb, ↓reduceIte, reduceCtorEq, jA, jB, jC, jD, jE, jF, jG, jH, jI, jJ, jK, h33, pI]; omega)
 obtain rfl : i = Q.length := by simp at hb; omega
 rw [List.take_length]
 (repeat (first | refine aSeq fun X hX => ?_ | (first | refine aExit ?_ | refine aRet ?_); try simp only [slx, ↓reduceIte, jA, reduceCtorEq] | refine aReg ?_; simp -implicitDefEqProofs only [↓slp, ↓reduceIte, jA, jB, jF, Yj, h3, pI] | apply hX; clear hX X | clear hX X; apply hX; clear hX X))
 simp only [aPost, Try.results39, aRes_n, aRes_t, aRes_c, pack_one, pack_two]
 refine leave_ext rfl ⟨?_, rfl⟩
 rw [szB, hn1]; rfl
set_option maxHeartbeats 4000000 in
theorem dp_step {sb : MbT} (V : List Va) (Q : List Qu) (hL : V.length < 2 ^ 30) (hA : ∀ q ∈ Q, ∀ a ∈ q.arms, a.unl.length + a.til.length < 2 ^ 30 ∧ ∀ m : M, ACalls Try.prog 40 [bkP2 a.vars a.eqs] m (fun v m' => v = pI (sb a.vars a.eqs) ∧ m' = m)) (m : M) : ACalls Try.prog 40 [bkP2 V Q] m (fun v m' => v = pI (dpBl sb V Q) ∧ m' = m) := by
 have hE : ∀ (q : Qu) (n : Int), ACalls Try.prog 85 [.ag q.cs, .fn (.func 88) [] [.bp m.nb 0]] (m.ext [some (cN n)]) (fun v m' => m' = m.ext [some (cN (eachF dpS q n))]) := fun q n => by
  have h := each_any 88 dpS m.nb (m.ext [some (cN 0)]) (by rw [ext_nb]; exact Nat.lt_succ_self _) (fun e n => dpClo_any m.nb _ (by rw [ext_nb]; exact Nat.lt_succ_self _) e n) q n
  rw [cnt_new, cnt_new, Qu.pv_eq] at h
  exact h
 refine ACalls.enter (mu := [3]) ok_mix Try.func40 rfl (by kernel_rfl) (by kernel_rfl) (by simp only [List.length_cons, List.length_nil, Try.ntmps40]; omega) ?_
 (repeat (first | refine aSeq fun X hX => ?_ | refine aBlk ?_ | refine aReg ?_; simp -implicitDefEqProofs only [↓slp, ↓reduceIte, reduceCtorEq, jA, jB, jE, jF, Yj] | apply hX; clear hX X | intro hlen; unfold maxLen at hlen))
 obtain ⟨Ik, hIk⟩ : ∃ I : F → M → Prop, ∀ f m', I f m' = (∃ (k : Nat), k ≤ V.length ∧ f 3 = .bp m.nb 0 ∧ f 1 = .ep [.sl .no (V.map Va.pv), .sl .no (Q.map Qu.pv)] ∧ f 13 = .sl .no (V.map Va.pv) ∧ f 14 = pI V.length ∧ f 15 = pI k ∧ m' = m.ext [some (cN ((V.take k).foldl dpV 0))]) := ⟨_, fun _ _ => rfl⟩
 refine aLoop Ik (fun f m => V.length - numOf (f 15)) ?_ ?_
 ·rw [hIk]; exact ⟨0, by omega, (by first | rfl | assumption), (by first | rfl | assumption), (by first | rfl | assumption), (by first | rfl | assumption), (by first | rfl | assumption), rfl⟩
 intro f m' hrel
 rw [hIk] at hrel
 obtain ⟨k, hkk, h3, h1, h13, h14, h15, rfl⟩ := hrel
 have hmuk : numOf (f 15) = k := by rw [h15]; exact Int.toNat_natCast _
 (repeat (first | refine aSeq fun X hX => ?_ | refine aReg ?_; simp -implicitDefEqProofs only [↓slp, slb, ↓reduceIte, jF, h14, h15, pI] | apply hX; clear hX X))
 refine aIf ?_; simp -implicitDefEqProofs only [slb, ↓reduceIte]; refine ⟨fun hb => ?_, fun hb => ?_⟩
 ·have hlt : k < V.length := by simpa using hb
  have g0 := getD_map Va.pv V k hlt
  have hik : IntKind.i64.wrap ((k : Int) + 1) = ((k + 1 : Nat) : Int) := by rw [wrap64 (by omega)]; omega
  have hft := fold_take dpV V k hlt 0
  cases c1 : V[k].last with
  | true =>
   (repeat (first | refine aSeq fun X hX => ?_ | refine aSkip ?_ | refine aReg ?_; simp -implicitDefEqProofs only [↓slp, ↓reduceIte, reduceCtorEq, jA, jB, jE, jF, Yj, h13, h15, pI, g0, c1] | apply hX; clear hX X | apply And.intro; focus omega))
   refine aIf ?_; simp -implicitDefEqProofs only [slb, ↓reduceIte, reduceCtorEq]
   (repeat (first | refine aSeq fun X hX => ?_ | apply aBlk | refine aSkip ?_ | (first | refine aExit ?_ | refine aRet ?_); try simp only [slx, ↓reduceIte, jA, reduceCtorEq] | (apply hX; clear hX X) | (clear hX X; apply hX; clear hX X)))
   refine aDrwE (fun m2 => m2 = m.ext [some (cN ((V.take k).foldl dpV 0))]) (hne := List.cons_ne_nil _ _) rfl (by kernel_rfl) (by kernel_rfl) rfl ?_
   simp -implicitDefEqProofs only [↓slp, ↓reduceIte, reduceCtorEq, jA, jB, jE, jF, Yj, h3, h15, pI, List.dropLast_cons_cons, List.dropLast_singleton, List.getLast_cons_cons, List.getLast_singleton]; try simp only [fo]
   refine callE (depthW_any _ _) ?_
   simp -implicitDefEqProofs only [↓slp, slb, ↓reduceIte, jA, jB, jE, jF, h3, pI]; try simp only [fo]
   (repeat (first | refine aReg ?_; simp -implicitDefEqProofs only [↓slp, slb, ↓reduceIte, jA, jF, h15, pI, hik] | apply hX; clear hX X))
   rw [hIk]
   refine ⟨⟨k + 1, hlt, (by first | rfl | assumption), (by first | rfl | assumption), (by first | rfl | assumption), (by first | rfl | assumption), (by first | rfl | assumption), ?_⟩, ?_⟩
   ·rw [hft, dpV, if_pos c1]; rfl
   ·first | omega | (simp only [↓slp, slb, ↓reduceIte, reduceCtorEq, jA, jB, jC, jD, jE, jF, jG, jH, jI, jJ, jK, h15, pI]; omega)
  | false =>
   (repeat (first | refine aSeq fun X hX => ?_ | refine aSkip ?_ | refine aReg ?_; simp -implicitDefEqProofs only [↓slp, ↓reduceIte, reduceCtorEq, jA, jB, jE, jF, Yj, h13, h15, pI, g0, c1] | apply hX; clear hX X | apply And.intro; focus omega))
   refine aIf ?_; simp -implicitDefEqProofs only [slb, ↓reduceIte]
   (repeat (first | refine aSkip ?_ | refine aReg ?_; simp -implicitDefEqProofs only [↓slp, slb, ↓reduceIte, jA, jF, h15, pI, hik] | apply hX; clear hX X))
   rw [hIk]
   refine ⟨⟨k + 1, hlt, (by first | rfl | assumption), (by first | rfl | assumption), (by first | rfl | assumption), (by first | rfl | assumption), (by first | rfl | assumption), ?_⟩, ?_⟩
   ·rw [hft, dpV, if_neg (by rw [c1]; exact Bool.false_ne_true)]
   ·first | omega | (simp only [↓slp, slb, ↓reduceIte, reduceCtorEq, jA, jB, jC, jD, jE, jF, jG, jH, jI, jJ, jK, h15, pI]; omega)
 obtain rfl : k = V.length := by simp at hb; omega
 rw [List.take_length]
 generalize hn1 : V.foldl dpV 0 = n1
 (repeat (first | refine aSeq fun X hX => ?_ | refine aBlk ?_ | refine aExit ?_; try simp only [slx, ↓reduceIte, jA, reduceCtorEq] | refine aReg ?_; simp -implicitDefEqProofs only [↓slp, ↓reduceIte, reduceCtorEq, jA, jB, jE, jF, Yj, h1, pI] | apply hX; clear hX X | clear hX X; apply hX; clear hX X | intro hlen; unfold maxLen at hlen))
 obtain ⟨Ii, hIi⟩ : ∃ I : F → M → Prop, ∀ f m', I f m' = (∃ (i : Nat), i ≤ Q.length ∧ f 3 = .bp m.nb 0 ∧ f 28 = .sl .no (Q.map Qu.pv) ∧ f 29 = pI Q.length ∧ f 30 = pI i ∧ m' = m.ext [some (cN ((Q.take i).foldl (dpQ sb) n1))]) := ⟨_, fun _ _ => rfl⟩
 refine aLoop Ii (fun f m => Q.length - numOf (f 30)) ?_ ?_
 ·rw [hIi]; exact ⟨0, by omega, (by first | rfl | assumption), (by first | rfl | assumption), (by first | rfl | assumption), (by first | rfl | assumption), rfl⟩
 intro f m' hrel
 rw [hIi] at hrel
 obtain ⟨i, hki, h3, h28, h29, h30, rfl⟩ := hrel
 have hmui : numOf (f 30) = i := by rw [h30]; exact Int.toNat_natCast _
 (repeat (first | refine aSeq fun X hX => ?_ | refine aReg ?_; simp -implicitDefEqProofs only [↓slp, slb, ↓reduceIte, jF, h29, h30, pI] | apply hX; clear hX X))
 refine aIf ?_; simp -implicitDefEqProofs only [slb, ↓reduceIte]; refine ⟨fun hb => ?_, fun hb => ?_⟩
 ·have hlti : i < Q.length := by simpa using hb
  have g1 := getD_map Qu.pv Q i hlti
  have hii : IntKind.i64.wrap ((i : Int) + 1) = ((i + 1 : Nat) : Int) := by rw [wrap64 (by omega)]; omega
  have hfq := fold_take (dpQ sb) Q i hlti n1
  skip
  (repeat (first | refine aSeq fun X hX => ?_ | refine aSkip ?_ | refine aReg ?_; simp -implicitDefEqProofs only [↓slp, ↓reduceIte, jA, jB, jE, jF, Yj, h3, h28, h30, pI, g1] | apply hX; clear hX X | apply And.intro; focus omega))
  refine callM (hE _ _) ?_
  rintro v m' rfl
  simp -implicitDefEqProofs only [slb, h30]
  (repeat (first | refine aSeq fun X hX => ?_ | refine aBlk ?_ | refine aReg ?_; simp -implicitDefEqProofs only [↓slp, ↓reduceIte, reduceCtorEq, jA, jB, jE, jF, Yj, h30, pI] | apply hX; clear hX X | intro hlen; unfold maxLen at hlen))
  obtain ⟨Ij, hIj⟩ : ∃ I : F → M → Prop, ∀ f m', I f m' = (∃ (j : Nat), j ≤ Q[i].arms.length ∧ f 3 = .bp m.nb 0 ∧ f 28 = .sl .no (Q.map Qu.pv) ∧ f 29 = pI Q.length ∧ f 30 = pI i ∧ f 38 = .sl .no (Q[i].arms.map Am.pv) ∧ f 39 = pI Q[i].arms.length ∧ f 40 = pI j ∧ m' = m.ext [some (cN ((Q[i].arms.take j).foldl (dpA sb) (eachF dpS Q[i] ((Q.take i).foldl (dpQ sb) n1))))]) := ⟨_, fun _ _ => rfl⟩
  refine aLoop Ij (fun f m => Q[i].arms.length - numOf (f 40)) ?_ ?_
  ·rw [hIj]; exact ⟨0, by omega, (by first | rfl | assumption), (by first | rfl | assumption), (by first | rfl | assumption), (by first | rfl | assumption), (by first | rfl | assumption), (by first | rfl | assumption), (by first | rfl | assumption), rfl⟩
  intro f m' hrel
  rw [hIj] at hrel
  obtain ⟨j, hkj, h3, h28, h29, h30, h38, h39, h40, rfl⟩ := hrel
  have hmuj : numOf (f 40) = j := by rw [h40]; exact Int.toNat_natCast _
  (repeat (first | refine aSeq fun X hX => ?_ | refine aReg ?_; simp -implicitDefEqProofs only [↓slp, slb, ↓reduceIte, jF, h39, h40, pI] | apply hX; clear hX X))
  refine aIf ?_; simp -implicitDefEqProofs only [slb, ↓reduceIte]; refine ⟨fun hb => ?_, fun hb => ?_⟩
  ·have hltj : j < Q[i].arms.length := by simpa using hb
   have g2 := getD_map Am.pv Q[i].arms j hltj
   have hij : IntKind.i64.wrap ((j : Int) + 1) = ((j + 1 : Nat) : Int) := by rw [wrap64 (by omega)]; omega
   have hfa := fold_take (dpA sb) Q[i].arms j hltj (eachF dpS Q[i] ((Q.take i).foldl (dpQ sb) n1))
   obtain ⟨hwl, hBk⟩ := hA Q[i] (List.getElem_mem hlti) Q[i].arms[j] (List.getElem_mem hltj)
   have hcc := fun m1 => concatT_any .full [Q[i].arms[j].unl, Q[i].arms[j].til] m1 (by rw [show [Q[i].arms[j].unl, Q[i].arms[j].til].flatten = Q[i].arms[j].unl ++ Q[i].arms[j].til by simp, List.length_append]; omega)
   (repeat (first | refine aSeq fun X hX => ?_ | refine aSkip ?_ | refine aReg ?_; simp -implicitDefEqProofs only [↓slp, ↓reduceIte, jA, jB, jE, jF, Yj, h38, h40, pI, g2] | apply hX; clear hX X | apply And.intro; focus omega))
   refine aDrwE (fun m2 => m2 = m.ext [some (cN ((Q[i].arms.take j).foldl (dpA sb) (eachF dpS Q[i] ((Q.take i).foldl (dpQ sb) n1))))]) (hne := List.cons_ne_nil _ _) rfl (by kernel_rfl) (by kernel_rfl) rfl ?_
   simp -implicitDefEqProofs only [↓slp, ↓reduceIte, reduceCtorEq, jA, jB, jE, jF, Yj, h3, h40, pI, List.dropLast_cons_cons, List.dropLast_singleton, List.getLast_cons_cons, List.getLast_singleton]
   refine callE (hBk _) ?_
   simp -implicitDefEqProofs only [↓slp, slb, ↓reduceIte, jA, jB, jE, jF, h3, pI]
   (repeat (first | refine aSeq fun X hX => ?_ | refine aReg ?_; simp -implicitDefEqProofs only [forall_eq, ↓slp, ↓reduceIte, reduceCtorEq, jA, jB, jC, jE, jF, Yj] | apply hX; clear hX X))
   refine callE (hcc _) ?_
   rw [show [Q[i].arms[j].unl, Q[i].arms[j].til].flatten = Q[i].arms[j].unl ++ Q[i].arms[j].til by simp]
   simp -implicitDefEqProofs only [↓slp, ↓reduceIte, jF, Yj, h40]
   generalize hW : Q[i].arms[j].unl ++ Q[i].arms[j].til = W
   (repeat (first | refine aBlk ?_ | apply hX; clear hX X | intro hlen; unfold maxLen at hlen))
   obtain ⟨It, hIt⟩ : ∃ I : F → M → Prop, ∀ f m', I f m' = (∃ (t : Nat), t ≤ W.length ∧ f 3 = .bp m.nb 0 ∧ f 28 = .sl .no (Q.map Qu.pv) ∧ f 29 = pI Q.length ∧ f 30 = pI i ∧ f 38 = .sl .no (Q[i].arms.map Am.pv) ∧ f 39 = pI Q[i].arms.length ∧ f 40 = pI j ∧ f 54 = .sl .no (W.map Tr.pv) ∧ f 55 = pI W.length ∧ f 56 = pI t ∧ m' = m.ext [some (cN ((W.take t).foldl dpT (mxI ((Q[i].arms.take j).foldl (dpA sb) (eachF dpS Q[i] ((Q.take i).foldl (dpQ sb) n1))) (sb Q[i].arms[j].vars Q[i].arms[j].eqs))))]) := ⟨_, fun _ _ => rfl⟩
   refine aLoop It (fun f m => W.length - numOf (f 56)) ?_ ?_
   ·rw [hIt]; exact ⟨0, by omega, (by first | rfl | assumption), (by first | rfl | assumption), (by first | rfl | assumption), (by first | rfl | assumption), (by first | rfl | assumption), (by first | rfl | assumption), (by first | rfl | assumption), (by first | rfl | assumption), (by first | rfl | assumption), (by first | rfl | assumption), rfl⟩
   intro f m' hrel
   rw [hIt] at hrel
   obtain ⟨t, hkt, h3, h28, h29, h30, h38, h39, h40, h54, h55, h56, rfl⟩ := hrel
   have hmut : numOf (f 56) = t := by rw [h56]; exact Int.toNat_natCast _
   (repeat (first | refine aSeq fun X hX => ?_ | refine aReg ?_; simp -implicitDefEqProofs only [↓slp, slb, ↓reduceIte, jF, h55, h56, pI] | apply hX; clear hX X))
   refine aIf ?_; simp -implicitDefEqProofs only [slb, ↓reduceIte]; refine ⟨fun hb => ?_, fun hb => ?_⟩
   ·have hltt : t < W.length := by simpa using hb
    have g3 := getD_map Tr.pv W t hltt
    have hit : IntKind.i64.wrap ((t : Int) + 1) = ((t + 1 : Nat) : Int) := by rw [wrap64 (by omega)]; omega
    have hft := fold_take dpT W t hltt (mxI ((Q[i].arms.take j).foldl (dpA sb) (eachF dpS Q[i] ((Q.take i).foldl (dpQ sb) n1))) (sb Q[i].arms[j].vars Q[i].arms[j].eqs))
    (repeat (first | refine aSeq fun X hX => ?_ | refine aSkip ?_ | refine aReg ?_; simp -implicitDefEqProofs only [↓slp, ↓reduceIte, jA, jB, jE, jF, Yj, h54, h56, pI, g3] | apply hX; clear hX X | apply And.intro; focus omega))
    refine aDrwE (fun m2 => m2 = m.ext [some (cN ((W.take t).foldl dpT (mxI ((Q[i].arms.take j).foldl (dpA sb) (eachF dpS Q[i] ((Q.take i).foldl (dpQ sb) n1))) (sb Q[i].arms[j].vars Q[i].arms[j].eqs))))]) (hne := List.cons_ne_nil _ _) rfl (by kernel_rfl) (by kernel_rfl) rfl ?_
    simp -implicitDefEqProofs only [↓slp, ↓reduceIte, reduceCtorEq, jA, jB, jE, jF, Yj, h3, h56, pI, List.dropLast_cons_cons, List.dropLast_singleton, List.getLast_cons_cons, List.getLast_singleton]; try simp only [fo]
    refine callE (depthW_any _ _) ?_
    simp -implicitDefEqProofs only [↓slp, slb, ↓reduceIte, jA, jB, jE, jF, h3, pI]; try simp only [fo]
    (repeat (first | refine aReg ?_; simp -implicitDefEqProofs only [↓slp, slb, ↓reduceIte, jA, jF, h56, pI, hit] | apply hX; clear hX X))
    rw [hIt]
    refine ⟨⟨t + 1, hltt, (by first | rfl | assumption), (by first | rfl | assumption), (by first | rfl | assumption), (by first | rfl | assumption), (by first | rfl | assumption), (by first | rfl | assumption), (by first | rfl | assumption), (by first | rfl | assumption), (by first | rfl | assumption), (by first | rfl | assumption), ?_⟩, ?_⟩
    ·rw [hft]; rfl
    ·first | omega | (simp only [↓slp, slb, ↓reduceIte, reduceCtorEq, jA, jB, jC, jD, jE, jF, jG, jH, jI, jJ, jK, h56, pI]; omega)
   obtain rfl : t = W.length := by simp at hb; omega
   rw [List.take_length]
   (repeat (first | refine aExit ?_; try simp only [slx, ↓reduceIte, jA, reduceCtorEq] | refine aReg ?_; simp -implicitDefEqProofs only [↓slp, slb, ↓reduceIte, jA, jF, h40, pI, hij] | clear hX X; apply hX; clear hX X))
   rw [hIj]
   refine ⟨⟨j + 1, hltj, (by first | rfl | assumption), (by first | rfl | assumption), (by first | rfl | assumption), (by first | rfl | assumption), (by first | rfl | assumption), (by first | rfl | assumption), (by first | rfl | assumption), ?_⟩, ?_⟩
   ·rw [hfa, dpA, hW]
   ·first | omega | (simp only [↓slp, slb, ↓reduceIte, reduceCtorEq, jA, jB, jC, jD, jE, jF, jG, jH, jI, jJ, jK, h40, pI]; omega)
  obtain rfl : j = Q[i].arms.length := by simp at hb; omega
  rw [List.take_length]
  (repeat (first | refine aExit ?_; try simp only [slx, ↓reduceIte, jA, reduceCtorEq] | refine aReg ?_; simp -implicitDefEqProofs only [↓slp, slb, ↓reduceIte, jA, jF, h30, pI, hii] | clear hX X; apply hX; clear hX X))
  rw [hIi]
  refine ⟨⟨i + 1, hlti, (by first | rfl | assumption), (by first | rfl | assumption), (by first | rfl | assumption), (by first | rfl | assumption), ?_⟩, ?_⟩
  ·rw [hfq, dpQ]
  ·first | omega | (simp only [↓slp, slb, ↓reduceIte, reduceCtorEq, jA, jB, jC, jD, jE, jF, jG, jH, jI, jJ, jK, h30, pI]; omega)
 obtain rfl : i = Q.length := by simp at hb; omega
 rw [List.take_length]
 (repeat (first | refine aSeq fun X hX => ?_ | (first | refine aExit ?_ | refine aRet ?_); try simp only [slx, ↓reduceIte, jA, reduceCtorEq] | refine aReg ?_; simp -implicitDefEqProofs only [↓slp, ↓reduceIte, jA, jB, jF, Yj, h3, pI] | apply hX; clear hX X | clear hX X; apply hX; clear hX X))
 simp only [aPost, Try.results40, aRes_n, aRes_t, aRes_c, pack_one, pack_two]
 refine leave_ext rfl ⟨?_, rfl⟩
 rw [dpBl, hn1]; rfl
end Go.Proofs.Ytibhhoknipdlpaa
