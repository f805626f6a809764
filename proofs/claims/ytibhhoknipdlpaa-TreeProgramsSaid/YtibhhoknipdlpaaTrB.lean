/-
 Texts that belong together: AbTr3, AbTr4.
-/
-- halved
import Derived.Test.YtibhhoknipdlpaaTrA
/-
 Expressions compared the second way; variables compared both ways.
-/
set_option linter.unusedVariables false
set_option linter.unusedSimpArgs false
namespace Go.Proofs.Ytibhhoknipdlpaa
open Nat renaming reduceEqDiff → jA, reduceAdd → jB, reduceMul → jC, reduceLT → jD, reduceLeDiff → jE, reduceBEq → jF, reduceBNe → jG
open Int renaming reduceLE → jH, reduceLT → jI, reduceToNat → jJ, reduceEq → jK
open Go

-- TYPES: 3 4 5 9 21 30 32 37 41 44 49 50 52 63

set_option maxRecDepth 20000 in
set_option maxHeartbeats 1000000 in
theorem rSameExpr_any (a : Ex) : ∀ (b : Ex) (m : M), ACalls Try.prog 63 [a.pv, b.pv] m (fun v m' => v = pB (a.same b) ∧ m' = m) := by
 refine Ex.ind (motive := fun a => ∀ (b : Ex) (m : M), ACalls Try.prog 63 [a.pv, b.pv] m (fun v m' => v = pB (a.same b) ∧ m' = m)) (fun a IH => ?_) a
 intro b m
 refine ACalls.enter (mu := []) ok_mix Try.func63 rfl (by kernel_rfl) (by kernel_rfl) (by simp only [List.length_cons, List.length_nil, Try.ntmps63]; omega) ?_
 have hsame := Ex.same_eq a b
 refine aSeq (fun X hX => ?_)
 refine aReg ?_; simp -implicitDefEqProofs only [↓slp, ↓reduceIte, jA, Y2]
 apply hX; clear hX X
 cases c1 : (a.kind == b.kind) with
 | false =>
  (repeat (first | refine aSeq fun X hX => ?_ | refine aReg ?_; simp -implicitDefEqProofs only [↓slp, ↓reduceIte, reduceCtorEq, jA, jB, jE, Y2, c1]; try simp only [fo] | apply hX; clear hX X))
  refine aIf ?_; simp -implicitDefEqProofs only [slb, ↓reduceIte, reduceCtorEq]
  (repeat (first | refine aSeq fun X hX => ?_ | refine aRet ?_; try simp only [slx, ↓reduceIte, jA, reduceCtorEq] | refine aReg ?_; simp -implicitDefEqProofs only [↓slp, Y2]; try simp only [fo] | apply hX; clear hX X))
  simp only [aPost, Try.results63, aRes_n, aRes_t, aRes_c, pack_one, pack_two]
  refine leave_same rfl ⟨?_, rfl⟩
  have hv : a.same b = false := by rw [hsame]; simp [c1, eqS]
  rw [hv]; rfl
 | true =>
  cases c2 : (a.op == b.op) with
  | false =>
   (repeat (first | refine aSeq fun X hX => ?_ | refine aReg ?_; simp -implicitDefEqProofs only [↓slp, ↓reduceIte, reduceCtorEq, jA, jB, jE, Y2, c1, c2]; try simp only [fo] | apply hX; clear hX X))
   refine aIf ?_; simp -implicitDefEqProofs only [slb, ↓reduceIte, reduceCtorEq]
   (repeat (first | refine aSeq fun X hX => ?_ | refine aRet ?_; try simp only [slx, ↓reduceIte, jA, reduceCtorEq] | refine aReg ?_; simp -implicitDefEqProofs only [↓slp, Y2]; try simp only [fo] | apply hX; clear hX X))
   simp only [aPost, Try.results63, aRes_n, aRes_t, aRes_c, pack_one, pack_two]
   refine leave_same rfl ⟨?_, rfl⟩
   have hv : a.same b = false := by rw [hsame]; simp [c1, c2, eqS]
   rw [hv]; rfl
  | true =>
   cases c3 : (a.n == b.n) with
   | false =>
    (repeat (first | refine aSeq fun X hX => ?_ | refine aReg ?_; simp -implicitDefEqProofs only [↓slp, ↓reduceIte, reduceCtorEq, jA, jB, jE, Y2, c1, c2, c3]; try simp only [fo] | apply hX; clear hX X))
    refine aIf ?_; simp -implicitDefEqProofs only [slb, ↓reduceIte, reduceCtorEq]
    (repeat (first | refine aSeq fun X hX => ?_ | refine aRet ?_; try simp only [slx, ↓reduceIte, jA, reduceCtorEq] | refine aReg ?_; simp -implicitDefEqProofs only [↓slp, Y2]; try simp only [fo] | apply hX; clear hX X))
    simp only [aPost, Try.results63, aRes_n, aRes_t, aRes_c, pack_one, pack_two]
    refine leave_same rfl ⟨?_, rfl⟩
    have hv : a.same b = false := by rw [hsame]; simp [c1, c2, c3, eqS]
    rw [hv]; rfl
   | true =>
    cases c4 : (a.name.toList == b.name.toList) with
    | false =>
     (repeat (first | refine aSeq fun X hX => ?_ | refine aReg ?_; simp -implicitDefEqProofs only [↓slp, ↓reduceIte, reduceCtorEq, jA, jB, jE, Y2, c1, c2, c3, c4]; try simp only [fo] | apply hX; clear hX X))
     refine aIf ?_; simp -implicitDefEqProofs only [slb, ↓reduceIte, reduceCtorEq]
     (repeat (first | refine aSeq fun X hX => ?_ | refine aRet ?_; try simp only [slx, ↓reduceIte, jA, reduceCtorEq] | refine aReg ?_; simp -implicitDefEqProofs only [↓slp, Y2]; try simp only [fo] | apply hX; clear hX X))
     simp only [aPost, Try.results63, aRes_n, aRes_t, aRes_c, pack_one, pack_two]
     refine leave_same rfl ⟨?_, rfl⟩
     have hv : a.same b = false := by rw [hsame]; simp [c1, c2, c3, c4, eqS]
     rw [hv]; rfl
    | true =>
     (repeat (first | refine aSeq fun X hX => ?_ | refine aReg ?_; simp -implicitDefEqProofs only [↓slp, ↓reduceIte, reduceCtorEq, jA, jB, jE, Y2, c1, c2, c3, c4]))
     refine callE (sameNames_any _ _ _ _ _) ?_
     cases c5 : sameSs a.names b.names with
     | false =>
      simp -implicitDefEqProofs only [↓slp, slb, ↓reduceIte, jA, c5]; try simp only [fo]
      (repeat (apply hX; clear hX X))
      refine aIf ?_; simp -implicitDefEqProofs only [slb, ↓reduceIte, reduceCtorEq]
      (repeat (first | refine aSeq fun X hX => ?_ | refine aRet ?_; try simp only [slx, ↓reduceIte, jA, reduceCtorEq] | refine aReg ?_; simp -implicitDefEqProofs only [↓slp, Y2]; try simp only [fo] | apply hX; clear hX X))
      simp only [aPost, Try.results63, aRes_n, aRes_t, aRes_c, pack_one, pack_two]
      refine leave_same rfl ⟨?_, rfl⟩
      have hv : a.same b = false := by rw [hsame]; simp [c1, c2, c3, c4, c5, eqS]
      rw [hv]; rfl
     | true =>
      simp -implicitDefEqProofs only [↓slp, ↓reduceIte, reduceCtorEq, jA, jB, jE, Y2, c5]; try simp only [fo]
      (repeat (apply hX; clear hX X))
      refine aIf ?_; simp -implicitDefEqProofs only [slb, ↓reduceIte]; refine ⟨fun hb => ?_, fun hb => ?_⟩
      ·(repeat (first | refine aSeq fun X hX => ?_ | refine aRet ?_; try simp only [slx, ↓reduceIte, jA, reduceCtorEq] | refine aReg ?_; simp -implicitDefEqProofs only [↓slp, Y2]; try simp only [fo] | apply hX; clear hX X))
       simp only [aPost, Try.results63, aRes_n, aRes_t, aRes_c, pack_one, pack_two]
       refine leave_same rfl ⟨?_, rfl⟩
       have hv : a.same b = false := by rw [hsame, sameL_ne (by simp at hb; omega)]; simp
       rw [hv]; rfl
      have hl : a.kids.length = b.kids.length := by simp at hb; omega
      have hab : a.same b = sameL Ex.same a.kids b.kids := by rw [hsame]; simp [c1, c2, c3, c4, c5, eqS]
      (repeat (first | refine aSeq fun X hX => ?_ | refine aBlk ?_ | refine aSkip ?_ | refine aReg ?_; simp -implicitDefEqProofs only [↓slp, Y2]; try simp only [fo] | apply hX; clear hX X))
      obtain ⟨I, hI⟩ : ∃ I : F → M → Prop, ∀ f m', I f m' = (∃ k : Nat, k ≤ a.kids.length ∧ f 2 = .ep a.cs ∧ f 3 = .ep b.cs ∧ f 5 = pI k ∧ sameL Ex.same a.kids b.kids = sameL Ex.same (a.kids.drop k) (b.kids.drop k) ∧ m' = m) := ⟨_, fun _ _ => rfl⟩
      refine aLoop I (fun f m => a.kids.length - numOf (f 5)) ?_ ?_
      ·rw [hI]; exact ⟨0, by omega, rfl, rfl, rfl, rfl, rfl⟩
      intro f m' hrel
      rw [hI] at hrel
      obtain ⟨k, hk, h2, h3, h5, hs, rfl⟩ := hrel
      (repeat (first | refine aSeq fun X hX => ?_ | refine aReg ?_; simp -implicitDefEqProofs only [↓slp, ↓reduceIte, reduceCtorEq, jA, jB, jE, Y2, h2, h5, pI] | apply hX; clear hX X | intro hlen; unfold maxLen at hlen))
      refine aIf ?_; simp -implicitDefEqProofs only [slb, ↓reduceIte]; refine ⟨fun hb => ?_, fun hb => ?_⟩
      ·have hlt : k < a.kids.length := by simpa using hb
       have hlt' : k < b.kids.length := by omega
       have g0 := getD_map Ex.pv a.kids k hlt
       have g1 := getD_map Ex.pv b.kids k hlt'
       have hi : IntKind.i64.wrap ((k : Int) + 1) = ((k + 1 : Nat) : Int) := by rw [wrap64 (by omega)]; omega
       have hd := sameL_drop (R := Ex.same) hlt hlt'
       (repeat (first | refine aSeq fun X hX => ?_ | refine aSkip ?_ | refine aDrE ?_; simp -implicitDefEqProofs only [↓slp, ↓reduceIte, reduceCtorEq, jA, jB, jE, Y2, h2, h3, h5, pI, g0, g1]; try simp only [fo] | apply hX; clear hX X | apply And.intro; focus omega))
       refine callE (IH k hlt _ _) ?_
       refine ⟨rfl, ?_⟩
       simp -implicitDefEqProofs only [↓slp, slb, ↓reduceIte, h5, pI, pB]; try simp only [fo]
       (repeat (apply hX; clear hX X))
       refine aIf ?_; simp -implicitDefEqProofs only [slb, ↓reduceIte]; refine ⟨fun hb => ?_, fun hb => ?_⟩
       ·(repeat (first | refine aSeq fun X hX => ?_ | refine aRet ?_; try simp only [slx, ↓reduceIte, jA, reduceCtorEq] | refine aReg ?_; simp -implicitDefEqProofs only [↓slp, Y2]; try simp only [fo] | apply hX; clear hX X))
        simp only [aPost, Try.results63, aRes_n, aRes_t, aRes_c, pack_one, pack_two]
        refine leave_same rfl ⟨?_, rfl⟩
        have hv : a.same b = false := by rw [hab, hs, hd, (show Ex.same a.kids[k] b.kids[k] = false by simpa using hb)]; rfl
        rw [hv]; rfl
       ·have he : Ex.same a.kids[k] b.kids[k] = true := by simpa using hb
        (repeat (first | refine aSkip ?_ | refine aReg ?_; simp -implicitDefEqProofs only [↓slp, ↓reduceIte, jA, Y2, h5, pI, hi]; try simp only [fo] | apply hX; clear hX X))
        rw [hI]
        refine ⟨⟨k + 1, hlt, h2, h3, rfl, by rw [hs, hd, he]; rfl, rfl⟩, ?_⟩
        first | omega | (simp only [↓slp, slb, ↓reduceIte, reduceCtorEq, jA, jB, jC, jD, jE, jF, jG, jH, jI, jJ, jK, h5, pI]; omega)
      ·have hlt : k = a.kids.length := by simp at hb; omega
       subst hlt
       (repeat (first | refine aSeq fun X hX => ?_ | (first | refine aExit ?_ | refine aRet ?_); try simp only [slx, ↓reduceIte, jA, reduceCtorEq] | refine aReg ?_; simp -implicitDefEqProofs only [↓slp, slb] | apply hX; clear hX X | clear hX X; apply hX; clear hX X))
       simp only [aPost, Try.results63, aRes_n, aRes_t, aRes_c, pack_one, pack_two]
       refine leave_same rfl ⟨?_, rfl⟩
       have hv : a.same b = true := by rw [hab, hs, sameL_end hl]
       rw [hv]; rfl
end Go.Proofs.Ytibhhoknipdlpaa

/-
 Variables compared both ways; the count of an expression's parts.
-/
set_option linter.unusedVariables false
set_option linter.unusedSimpArgs false
namespace Go.Proofs.Ytibhhoknipdlpaa
open Nat renaming reduceEqDiff → jA, reduceAdd → jB, reduceMul → jC, reduceLT → jD, reduceLeDiff → jE, reduceBEq → jF, reduceBNe → jG
open Int renaming reduceLE → jH, reduceLT → jI, reduceToNat → jJ, reduceEq → jK
open Go

-- TYPES: 3 4 5 9 21 30 32 37 41 44 49 50 52 63

set_option maxRecDepth 20000 in
set_option maxHeartbeats 1000000 in
theorem sameVar_any (a b : Va) (m : M) : ACalls Try.prog 18 [a.pv, b.pv] m (fun v m' => v = pB (a.same b) ∧ m' = m) := by
 refine ACalls.enter (mu := []) ok_mix Try.func18 rfl (by kernel_rfl) (by kernel_rfl) (by simp only [List.length_cons, List.length_nil, Try.ntmps18]; omega) ?_
 have hsame : a.same b = (eqS a.name b.name && a.t.eq b.t && sameL On.eq a.clock b.clock && (a.last == b.last) && a.first.same b.first) := rfl
 refine aSeq (fun X hX => ?_)
 refine aReg ?_; simp -implicitDefEqProofs only [↓slp, ↓reduceIte, jA, Y2]
 apply hX; clear hX X
 cases c1 : (a.name.toList == b.name.toList) with
 | false =>
  (repeat (first | refine aSeq fun X hX => ?_ | refine aRet ?_ | refine aReg ?_; simp -implicitDefEqProofs only [↓slp, ↓reduceIte, reduceCtorEq, jA, jB, jE, Y2, c1] | apply hX; clear hX X))
  simp only [aPost, Try.results18, aRes_n, aRes_t, aRes_c, pack_one, pack_two]
  refine leave_same rfl ⟨?_, rfl⟩
  have hv : a.same b = false := by rw [hsame]; simp [c1, eqS, Ty.eq]
  rw [hv]; rfl
 | true =>
  cases c2 : (a.t.kind == b.t.kind && a.t.name.toList == b.t.name.toList) with
  | false =>
   (repeat (first | refine aSeq fun X hX => ?_ | refine aRet ?_ | refine aReg ?_; simp -implicitDefEqProofs only [↓slp, ↓reduceIte, reduceCtorEq, jA, jB, jE, Y2, c1, c2] | apply hX; clear hX X))
   simp only [aPost, Try.results18, aRes_n, aRes_t, aRes_c, pack_one, pack_two]
   refine leave_same rfl ⟨?_, rfl⟩
   have hv : a.same b = false := by rw [hsame]; simp [c1, c2, eqS, Ty.eq]
   rw [hv]; rfl
  | true =>
   (repeat (first | refine aSeq fun X hX => ?_ | refine aReg ?_; simp -implicitDefEqProofs only [↓slp, ↓reduceIte, reduceCtorEq, jA, jB, jE, Y2, c1, c2]))
   refine callE (equalOn_any _ _ _ _ _) ?_
   cases c3 : (sameL On.eq a.clock b.clock) with
   | false =>
    simp -implicitDefEqProofs only [↓slp, slb, ↓reduceIte, jA]
    (repeat (first | refine aRet ?_ | apply hX; clear hX X))
    simp only [aPost, Try.results18, aRes_n, aRes_t, aRes_c, pack_one, pack_two]
    refine leave_same rfl ⟨?_, rfl⟩
    have hv : a.same b = false := by rw [hsame]; simp [c1, c2, c3, eqS, Ty.eq]
    rw [hv]; rfl
   | true =>
    cases c4 : (a.last == b.last) with
    | false =>
     simp -implicitDefEqProofs only [↓slp, ↓reduceIte, reduceCtorEq, jA, jB, jE, Y2, c4]
     (repeat (first | refine aRet ?_ | apply hX; clear hX X))
     simp only [aPost, Try.results18, aRes_n, aRes_t, aRes_c, pack_one, pack_two]
     refine leave_same rfl ⟨?_, rfl⟩
     have hv : a.same b = false := by rw [hsame]; simp [c1, c2, c3, c4, eqS, Ty.eq]
     rw [hv]; rfl
    | true =>
     simp -implicitDefEqProofs only [↓slp, ↓reduceIte, reduceCtorEq, jA, jB, jE, Y2, c4]; try simp only [fo]
     (repeat (refine And.intro (by first | assumption | omega) ?_))
     refine callE (sameExpr_any _ _ _) ?_
     simp -implicitDefEqProofs only [↓slp, slb, ↓reduceIte, jA]; try simp only [fo]
     (repeat (first | refine aRet ?_ | apply hX; clear hX X))
     simp only [aPost, Try.results18, aRes_n, aRes_t, aRes_c, pack_one, pack_two]
     refine leave_same rfl ⟨?_, rfl⟩
     have hv : a.same b = a.first.same b.first := by rw [hsame]; simp [c1, c2, c3, c4, eqS, Ty.eq]
     rw [hv]; rfl

set_option maxRecDepth 20000 in
set_option maxHeartbeats 1000000 in
theorem sameVars_any (o o' : Own) (l r : List Va) (m : M) : ACalls Try.prog 19 [.sl o (l.map Va.pv), .sl o' (r.map Va.pv)] m (fun v m' => v = pB (sameL Va.same l r) ∧ m' = m) := by
 refine ACalls.enter (mu := []) ok_mix Try.func19 rfl (by kernel_rfl) (by kernel_rfl) (by simp only [List.length_cons, List.length_nil, Try.ntmps19]; omega) ?_
 (repeat (first | refine aSeq fun X hX => ?_ | refine aReg ?_; simp -implicitDefEqProofs only [↓slp, ↓reduceIte, reduceCtorEq, jA, Y2] | apply hX; clear hX X | intro hlen; unfold maxLen at hlen))
 refine aIf ?_; simp -implicitDefEqProofs only [slb, ↓reduceIte]; refine ⟨fun hb => ?_, fun hb => ?_⟩
 ·(repeat (first | refine aSeq fun X hX => ?_ | refine aRet ?_; try simp only [slx, ↓reduceIte, jA, reduceCtorEq] | refine aReg ?_; simp -implicitDefEqProofs only [↓slp, slb] | apply hX; clear hX X))
  simp only [aPost, Try.results19, aRes_n, aRes_t, aRes_c, pack_one, pack_two]
  refine leave_same rfl ⟨?_, rfl⟩
  have hv : sameL Va.same l r = false := sameL_ne (by simp at hb; omega)
  rw [hv]; rfl
 have hl : l.length = r.length := by simp at hb; omega
 (repeat (first | refine aSeq fun X hX => ?_ | refine aBlk ?_ | refine aSkip ?_ | refine aReg ?_; simp -implicitDefEqProofs only [↓slp, slb] | apply hX; clear hX X))
 obtain ⟨I, hI⟩ : ∃ I : F → M → Prop, ∀ f m', I f m' = (∃ k : Nat, k ≤ l.length ∧ f 0 = .sl o (l.map Va.pv) ∧ f 1 = .sl o' (r.map Va.pv) ∧ f 5 = pI k ∧ sameL Va.same l r = sameL Va.same (l.drop k) (r.drop k) ∧ m' = m) := ⟨_, fun _ _ => rfl⟩
 refine aLoop I (fun f m => l.length - numOf (f 5)) ?_ ?_
 ·rw [hI]; exact ⟨0, by omega, rfl, rfl, rfl, rfl, rfl⟩
 intro f m' hrel
 rw [hI] at hrel
 obtain ⟨k, hk, h0, h1, h5, hs, rfl⟩ := hrel
 (repeat (first | refine aSeq fun X hX => ?_ | refine aReg ?_; simp -implicitDefEqProofs only [↓slp, ↓reduceIte, reduceCtorEq, jA, Y2, h0, h5, pI] | apply hX; clear hX X | intro hlen; unfold maxLen at hlen))
 refine aIf ?_; simp -implicitDefEqProofs only [slb, ↓reduceIte]; refine ⟨fun hb => ?_, fun hb => ?_⟩
 ·have hlt : k < l.length := by simpa using hb
  have hlt' : k < r.length := by omega
  have g0 := getD_map Va.pv l k hlt
  have g1 := getD_map Va.pv r k hlt'
  have hi : IntKind.i64.wrap ((k : Int) + 1) = ((k + 1 : Nat) : Int) := by rw [wrap64 (by omega)]; omega
  have hd := sameL_drop (R := Va.same) hlt hlt'
  have hsame : Va.same l[k] r[k] = (eqS l[k].name r[k].name && l[k].t.eq r[k].t && sameL On.eq l[k].clock r[k].clock && (l[k].last == r[k].last) && l[k].first.same r[k].first) := rfl
  have q0 : (k : Int) < (l.length : Int) := by omega
  have q1 : (k : Int) < (r.length : Int) := by omega
  cases c1 : (l[k].name.toList == r[k].name.toList) with
  | false =>
   (repeat (first | refine aSeq fun X hX => ?_ | refine aSkip ?_ | refine aDrE ?_; simp -implicitDefEqProofs only [↓slp, ↓reduceIte, reduceCtorEq, jA, jB, jE, Y2, c1, h0, h1, h5, pI, g0, g1, q0] | apply hX; clear hX X | apply And.intro; focus omega))
   refine aIf ?_; simp -implicitDefEqProofs only [slb, ↓reduceIte, reduceCtorEq, h5, pI]
   (repeat (first | refine aSeq fun X hX => ?_ | refine aRet ?_; try simp only [slx, ↓reduceIte, jA, reduceCtorEq] | refine aReg ?_; simp -implicitDefEqProofs only [↓slp, slb] | apply hX; clear hX X))
   simp only [aPost, Try.results19, aRes_n, aRes_t, aRes_c, pack_one, pack_two]
   refine leave_same rfl ⟨?_, rfl⟩
   have hv : sameL Va.same l r = false := by rw [hs, hd, hsame]; simp [c1, eqS, Ty.eq]
   rw [hv]; rfl
  | true =>
   cases c2 : (l[k].t.kind == r[k].t.kind && l[k].t.name.toList == r[k].t.name.toList) with
   | false =>
    (repeat (first | refine aSeq fun X hX => ?_ | refine aSkip ?_ | refine aDrE ?_; simp -implicitDefEqProofs only [↓slp, ↓reduceIte, reduceCtorEq, jA, jB, jE, Y2, c1, c2, h0, h1, h5, pI, g0, g1, q0] | apply hX; clear hX X | apply And.intro; focus omega))
    refine aIf ?_; simp -implicitDefEqProofs only [slb, ↓reduceIte, reduceCtorEq, h5, pI]
    (repeat (first | refine aSeq fun X hX => ?_ | refine aRet ?_; try simp only [slx, ↓reduceIte, jA, reduceCtorEq] | refine aReg ?_; simp -implicitDefEqProofs only [↓slp, slb] | apply hX; clear hX X))
    simp only [aPost, Try.results19, aRes_n, aRes_t, aRes_c, pack_one, pack_two]
    refine leave_same rfl ⟨?_, rfl⟩
    have hv : sameL Va.same l r = false := by rw [hs, hd, hsame]; simp [c1, c2, eqS, Ty.eq]
    rw [hv]; rfl
   | true =>
    (repeat (first | refine aSeq fun X hX => ?_ | refine aSkip ?_ | refine aDrE ?_; simp -implicitDefEqProofs only [↓slp, ↓reduceIte, reduceCtorEq, jA, jB, jE, Y2, c1, c2, h0, h1, h5, pI, g0, g1, q0] | apply hX; clear hX X | apply And.intro; focus omega))
    refine callE (sameClock_any _ _ _ _ _) ?_
    cases c3 : (sameL On.eq l[k].clock r[k].clock) with
    | false =>
     simp -implicitDefEqProofs only [↓slp, slb, ↓reduceIte, jA]
     (repeat (apply hX; clear hX X))
     refine aIf ?_; simp -implicitDefEqProofs only [slb, ↓reduceIte, reduceCtorEq, h5, pI]
     (repeat (first | refine aSeq fun X hX => ?_ | refine aRet ?_; try simp only [slx, ↓reduceIte, jA, reduceCtorEq] | refine aReg ?_; simp -implicitDefEqProofs only [↓slp, slb] | apply hX; clear hX X))
     simp only [aPost, Try.results19, aRes_n, aRes_t, aRes_c, pack_one, pack_two]
     refine leave_same rfl ⟨?_, rfl⟩
     have hv : sameL Va.same l r = false := by rw [hs, hd, hsame]; simp [c1, c2, c3, eqS, Ty.eq]
     rw [hv]; rfl
    | true =>
     cases c4 : (l[k].last == r[k].last) with
     | false =>
      simp -implicitDefEqProofs only [↓slp, ↓reduceIte, reduceCtorEq, jA, jB, jE, Y2, c4, h0, h1, h5, pI, g0, g1]
      (repeat (first | apply hX; clear hX X | apply And.intro; focus omega))
      refine aIf ?_; simp -implicitDefEqProofs only [slb, ↓reduceIte, reduceCtorEq, h5, pI]
      (repeat (first | refine aSeq fun X hX => ?_ | refine aRet ?_; try simp only [slx, ↓reduceIte, jA, reduceCtorEq] | refine aReg ?_; simp -implicitDefEqProofs only [↓slp, slb] | apply hX; clear hX X))
      simp only [aPost, Try.results19, aRes_n, aRes_t, aRes_c, pack_one, pack_two]
      refine leave_same rfl ⟨?_, rfl⟩
      have hv : sameL Va.same l r = false := by rw [hs, hd, hsame]; simp [c1, c2, c3, c4, eqS, Ty.eq]
      rw [hv]; rfl
     | true =>
      simp -implicitDefEqProofs only [↓slp, ↓reduceIte, reduceCtorEq, jA, jB, jE, Y2, c4, h0, h1, h5, pI, g0, g1]; try simp only [fo]
      (repeat (refine And.intro (by first | assumption | omega) ?_))
      refine callE (rSameExpr_any _ _ _) ?_
      cases c5 : l[k].first.same r[k].first with
      | false =>
       simp -implicitDefEqProofs only [↓slp, slb, ↓reduceIte, jA]; try simp only [fo]
       (repeat (apply hX; clear hX X))
       refine aIf ?_; simp -implicitDefEqProofs only [slb, ↓reduceIte, reduceCtorEq, h5, pI]
       (repeat (first | refine aSeq fun X hX => ?_ | refine aRet ?_; try simp only [slx, ↓reduceIte, jA, reduceCtorEq] | refine aReg ?_; simp -implicitDefEqProofs only [↓slp, slb] | apply hX; clear hX X))
       simp only [aPost, Try.results19, aRes_n, aRes_t, aRes_c, pack_one, pack_two]
       refine leave_same rfl ⟨?_, rfl⟩
       have hv : sameL Va.same l r = false := by rw [hs, hd, hsame]; simp [c1, c2, c3, c4, c5, eqS, Ty.eq]
       rw [hv]; rfl
      | true =>
       simp -implicitDefEqProofs only [↓slp, slb, ↓reduceIte, jA]; try simp only [fo]
       (repeat (apply hX; clear hX X))
       refine aIf ?_; simp -implicitDefEqProofs only [slb, ↓reduceIte, h5, pI]
       have he : Va.same l[k] r[k] = true := by rw [hsame]; simp [c1, c2, c3, c4, c5, eqS, Ty.eq]
       (repeat (first | refine aSkip ?_ | refine aReg ?_; simp -implicitDefEqProofs only [↓slp, slb, ↓reduceIte, jA, h5, pI, hi] | apply hX; clear hX X))
       rw [hI]
       refine ⟨⟨k + 1, hlt, h0, h1, rfl, by rw [hs, hd, he]; rfl, rfl⟩, ?_⟩
       first | omega | (simp only [↓slp, slb, ↓reduceIte, reduceCtorEq, jA, jB, jC, jD, jE, jF, jG, jH, jI, jJ, jK, h5, pI]; omega)
 ·have hlt : k = l.length := by simp at hb; omega
  subst hlt
  (repeat (first | refine aSeq fun X hX => ?_ | (first | refine aExit ?_ | refine aRet ?_); try simp only [slx, ↓reduceIte, jA, reduceCtorEq] | refine aReg ?_; simp -implicitDefEqProofs only [↓slp, slb] | apply hX; clear hX X | clear hX X; apply hX; clear hX X))
  simp only [aPost, Try.results19, aRes_n, aRes_t, aRes_c, pack_one, pack_two]
  refine leave_same rfl ⟨?_, rfl⟩
  have hv : sameL Va.same l r = true := by rw [hs, sameL_end hl]
  rw [hv]; rfl
end Go.Proofs.Ytibhhoknipdlpaa
