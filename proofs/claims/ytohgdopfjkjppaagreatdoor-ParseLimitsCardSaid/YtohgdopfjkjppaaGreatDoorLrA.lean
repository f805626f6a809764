/-
 The reference's lexer: its small functions.
-/
-- halved
import Derived.Test.YtohgdopfjkjppaaGreatDoorAbMac
import Derived.Test.YtohgdopfjkjppaaGreatDoorLexPlain
import Derived.Test.YtohgdopfjkjppaaGreatDoorQA
import Derived.Test.YtohgdopfjkjppaaGreatDoorPsR1
set_option linter.unusedVariables false
set_option linter.unusedSimpArgs false
namespace Go.Proofs.YtohgdopfjkjppaaGreatDoor
open Nat renaming reduceEqDiff → jA, reduceAdd → jB, reduceMul → jC, reduceLT → jD, reduceLeDiff → jE, reduceBEq → jF, reduceBNe → jG
open Int renaming reduceLE → jH, reduceLT → jI, reduceToNat → jJ, reduceEq → jK
open Go
set_option maxRecDepth 20000
set_option linter.defProp false
def tfLrA := tfPsC

abbrev pC (c : Nat) : PV := .v (.int .u8 (c : Int))
set_option maxHeartbeats 400000 in
theorem rdigit_any (c : Nat) (m : M) : ACalls Tryz.prog 38 [pC c] m (fun v m' => v = pB (isDigit c) ∧ m' = m) := by
 have e1 : decide ((c : Int) ≥ 48) = decide (48 ≤ c) := by congr 1; apply propext; omega
 have e2 : decide ((c : Int) ≤ 57) = decide (c ≤ 57) := by congr 1; apply propext; omega
 unfold isDigit
 generalize decide (48 ≤ c) = b1 at *
 generalize decide (c ≤ 57) = b2 at *
 cases b1 <;> cases b2
 all_goals
  refine eN [] Tryz.func38 ?_
  (repeat revert X); refine wE (And.intro @pC.eq_1 (And.intro e1 e2)) ?_; repeat intro X hX
  refine wR Tryz.results38 ?_
  exact leave_same rfl ⟨rfl, rfl⟩
set_option maxHeartbeats 4000000 in
theorem rletter_any (c : Nat) (m : M) : ACalls Tryz.prog 40 [pC c] m (fun v m' => v = pB (isLetter c) ∧ m' = m) := by
 have e1 : decide ((c : Int) ≥ 97) = decide (97 ≤ c) := by congr 1; apply propext; omega
 have e2 : decide ((c : Int) ≤ 122) = decide (c ≤ 122) := by congr 1; apply propext; omega
 have e3 : decide ((c : Int) ≥ 65) = decide (65 ≤ c) := by congr 1; apply propext; omega
 have e4 : decide ((c : Int) ≤ 90) = decide (c ≤ 90) := by congr 1; apply propext; omega
 have e5 : ((c : Int) == 95) = (c == 95) := by rw [Bool.eq_iff_iff]; simp only [beq_iff_eq]; omega
 unfold isLetter
 generalize decide (97 ≤ c) = b1 at *
 generalize decide (c ≤ 122) = b2 at *
 generalize decide (65 ≤ c) = b3 at *
 generalize decide (c ≤ 90) = b4 at *
 generalize (c == 95) = b5 at *
 cases b1 <;> cases b2 <;> cases b3 <;> cases b4 <;> cases b5
 all_goals
  refine eN [] Tryz.func40 ?_
  (repeat revert X); refine wE (And.intro @pC.eq_1 (And.intro e1 (And.intro e2 (And.intro e3 (And.intro e4 e5))))) ?_; repeat intro X hX
  refine wR Tryz.results40 ?_
  exact leave_same rfl ⟨rfl, rfl⟩
theorem one_drop {k : Nat} (h : k < oneSigns.length) (c : UInt8) : (oneSigns.drop k).contains c = (oneSigns[k] == c || (oneSigns.drop (k + 1)).contains c) := by
 rw [List.drop_eq_getElem_cons h, List.contains_cons]
 congr 1
 rw [Bool.eq_iff_iff]; simp only [beq_iff_eq]; exact eq_comm
set_option maxHeartbeats 800000 in
theorem rone_any (c : UInt8) (m : M) : ACalls Tryz.prog 42 [pC c.toNat] m (fun v m' => v = pB (oneSigns.contains c) ∧ m' = m) := by
 refine eN [] Tryz.func42 ?_
 (repeat revert X); refine wW @pC.eq_1 ?_; repeat intro X hX
 obtain ⟨sg, hsg⟩ : ∃ s : Str, (⟨#[40, 41, 61, 43, 45, 42, 47, 60, 62, 59, 58, 44, 124]⟩ : Str) = s := ⟨_, rfl⟩
 have hz : sg.size = 13 := by rw [← hsg]; rfl
 have hd : sg.data.toList = oneSigns := by rw [← hsg]; rfl
 obtain ⟨I, hI⟩ : ∃ I : F → M → Prop, ∀ f m', I f m' = (∃ k : Nat, k ≤ 13 ∧ f 0 = pC c.toNat ∧ f 3 = .v (.string sg) ∧ f 4 = pI k ∧ oneSigns.contains c = (oneSigns.drop k).contains c ∧ m = m') := ⟨_, fun _ _ => rfl⟩
 refine aLoop I (fun f m => 13 - numOf (f 4)) ?_ ?_
 ·rw [hI]; exact ⟨0, by omega, rfl, by rw [← hsg]; rfl, rfl, rfl, rfl⟩
 intro f m' hrel
 rw [hI] at hrel
 obtain ⟨k, hk, h0, h3, h4, hs, rfl⟩ := hrel
 have hzi : ((sg.size : Nat) : Int) = 13 := by rw [hz]; rfl
 cases hb : decide ((k : Int) < 13) with
 | true =>
  have hlt : k < 13 := by simp at hb; omega
  have hlt2 : k < oneSigns.length := hlt
  have hi : IntKind.i64.wrap ((k : Int) + 1) = ((k + 1 : Nat) : Int) := by rw [wrap64 (by omega)]; omega
  have hd1 := one_drop hlt2 c
  have hg : sg.data.toList.getD k 0 = oneSigns[k] := by rw [hd, List.getD_eq_getElem?_getD, List.getElem?_eq_getElem hlt2]; rfl
  have hlz : k < sg.size := by omega
  have hb1 : (0 : Int) ≤ (k : Int) := by omega
  have hc2 : (((oneSigns[k]).toNat : Int) == (c.toNat : Int)) = (oneSigns[k] == c) := by
   rw [Bool.eq_iff_iff]; simp only [beq_iff_eq, Int.ofNat_inj, UInt8.toNat_inj]
  cases c1 : (oneSigns[k] == c) with
  | true =>
   rw [c1] at hc2
   (repeat revert X); refine wE (And.intro tfLrA (And.intro h0 (And.intro h3 (And.intro h4 (And.intro @pI.eq_1 (And.intro @pC.eq_1 (And.intro hzi (And.intro hb (And.intro hg (And.intro hlz (And.intro hb1 hc2))))))))))) ?_; repeat intro X hX
   refine wR Tryz.results42 ?_
   refine leave_same rfl ⟨?_, rfl⟩
   rw [hs, hd1, c1]; rfl
  | false =>
   rw [c1] at hc2
   (repeat (first | refine aSeq fun X hX => ?_ | refine aSkip ?_ | (first | apply aReg | apply aIf); simp -implicitDefEqProofs only [↓slp, slb, ↓reduceIte, reduceCtorEq, jA, tfLrA, h0, h3, h4, pI, pC, hzi, hb, hg, hlz, hb1, hc2, hi] | apply hX; clear hX X))
   rw [hI]
   refine ⟨⟨k + 1, hlt, h0, h3, rfl, by rw [hs, hd1, c1]; rfl, rfl⟩, ?_⟩
   first | omega | (simp only [↓slp, slb, ↓reduceIte, reduceCtorEq, jA, jB, jC, jD, jE, jF, jG, jH, jI, jJ, jK, h4, pI, numOf, Int.toNat_natCast]; omega)
 | false =>
  have hlt : k = 13 := by simp at hb; omega
  subst hlt
  (repeat revert X); refine wE (And.intro tfLrA (And.intro h3 (And.intro h4 (And.intro @pI.eq_1 (And.intro hzi hb))))) ?_; repeat intro X hX
  refine wR Tryz.results42 ?_
  refine leave_same rfl ⟨?_, rfl⟩
  rw [hs]; rfl
def keyStrs : List Str := keyList.map fun l => ⟨l.toArray⟩
theorem bytes_tl2 {a k : Str} : (a.toList == k.toList) = true ↔ a = k := eqS_iff
theorem isKeyS (s : Str) : isKeyB s.data.toList = keyStrs.any (fun k => k.toList == s.toList) := by
 unfold isKeyB keyStrs
 generalize keyList = K
 rw [Bool.eq_iff_iff]
 simp only [List.contains_iff_mem, List.any_eq_true, List.mem_map, bytes_tl2]
 constructor
 ·intro h
  exact ⟨_, ⟨_, h, rfl⟩, by cases s; rfl⟩
 ·rintro ⟨_, ⟨l, h, rfl⟩, rfl⟩
  exact h
set_option maxHeartbeats 800000 in
theorem rkeys_any (m : M) : ACalls Tryz.prog 70 [] m (fun v m' => v = .sl .no (keyStrs.map pS) ∧ m' = m) := by
 refine eN [] Tryz.func70 ?_
 (repeat (first | refine aSeq fun X hX => ?_ | refine aReg ?_; simp -implicitDefEqProofs only [forall_eq, ↓slp, slb, ↓reduceIte, jB, jC, jE, tfLrA] | apply hX; clear hX X))
 refine ⟨rfl, ?_⟩
 (repeat (first | refine aRet ?_ | apply hX; clear hX X))
 refine wR Tryz.results70 ?_
 exact leave_same rfl ⟨rfl, rfl⟩
set_option maxHeartbeats 800000 in
theorem riskey_any (s : Str) (m : M) : ACalls Tryz.prog 41 [pS s] m (fun v m' => v = pB (isKeyB s.data.toList) ∧ m' = m) := by
 rw [isKeyS]
 refine eN [] Tryz.func41 ?_
 (repeat revert X); refine wE aEQ_t ?_; repeat intro X hX
 refine callM (rkeys_any _) ?_
 rintro v m' ⟨h1, h2⟩
 subst h1; rw [h2]; clear h2 m'
 obtain ⟨K, hK⟩ : ∃ K, keyStrs = K := ⟨_, rfl⟩
 have hl : K.length = 32 := by rw [← hK]; rfl
 rw [hK]
 refine wS aEQ_t ?_
 (repeat revert X); refine wE aEQ_t ?_; repeat intro X hX
 obtain ⟨I, hI⟩ : ∃ I : F → M → Prop, ∀ f m', I f m' = (∃ k : Nat, k ≤ 32 ∧ f 0 = pS s ∧ f 3 = .sl .no (K.map pS) ∧ f 4 = pI k ∧ K.any (fun k => k.toList == s.toList) = (K.drop k).any (fun k => k.toList == s.toList) ∧ m = m') := ⟨_, fun _ _ => rfl⟩
 refine aLoop I (fun f m => 32 - numOf (f 4)) ?_ ?_
 ·rw [hI]; exact ⟨0, by omega, rfl, rfl, rfl, rfl, rfl⟩
 intro f m' hrel
 rw [hI] at hrel
 obtain ⟨k, hk, h0, h3, h4, hs, rfl⟩ := hrel
 cases hb : decide ((k : Int) < (K.length : Int)) with
 | true =>
  have hlt : k < K.length := by simp at hb; omega
  have hi : IntKind.i64.wrap ((k : Int) + 1) = ((k + 1 : Nat) : Int) := by rw [wrap64 (by omega)]; omega
  have hd1 : (K.drop k).any (fun k => k.toList == s.toList) = (K[k].toList == s.toList || (K.drop (k + 1)).any (fun k => k.toList == s.toList)) := by rw [List.drop_eq_getElem_cons hlt, List.any_cons]
  have g0 := getD_map pS K k hlt
  have hb1 : (0 : Int) ≤ (k : Int) := by omega
  cases c1 : (K[k].toList == s.toList) with
  | true =>
   (repeat revert X); refine wE (And.intro tfLrA (And.intro h0 (And.intro h3 (And.intro h4 (And.intro @pI.eq_1 (And.intro @pS.eq_1 (And.intro hb (And.intro g0 (And.intro hlt (And.intro hb1 c1)))))))))) ?_; repeat intro X hX
   refine wR Tryz.results41 ?_
   refine leave_same rfl ⟨?_, rfl⟩
   rw [hK, hs, hd1, c1]; rfl
  | false =>
   (repeat (first | refine aSeq fun X hX => ?_ | refine aSkip ?_ | (first | apply aReg | apply aIf); simp -implicitDefEqProofs only [↓slp, slb, ↓reduceIte, reduceCtorEq, jA, jB, tfLrA, h0, h3, h4, pI, pS, hb, g0, hlt, hb1, c1, hi] | apply hX; clear hX X | intro hlen; unfold maxLen at hlen))
   rw [hI]
   refine ⟨⟨k + 1, by omega, h0, h3, rfl, by rw [hs, hd1, c1]; rfl, rfl⟩, ?_⟩
   first | omega | (simp only [↓slp, slb, ↓reduceIte, reduceCtorEq, jA, jB, jC, jD, jE, jF, jG, jH, jI, jJ, jK, h4, pI, numOf, Int.toNat_natCast]; omega)
 | false =>
  have hlt : k = 32 := by simp at hb; omega
  subst hlt
  (repeat revert X); refine wE (And.intro tfLrA (And.intro h3 (And.intro h4 (And.intro @pI.eq_1 hb)))) ?_; repeat intro X hX
  refine wR Tryz.results41 ?_
  refine leave_same rfl ⟨?_, rfl⟩
  rw [hK, hs, List.drop_of_length_le (by omega)]; rfl
def numP (l : List UInt8) (n v : Nat) : Int × Int := match numGo l n v with
 | some (a, b) => ((a : Int), (b : Int))
 | none => (0, 2147483649)
theorem digit_sub (c : Nat) (h : isDigit c = true) : IntKind.u8.wrap ((c : Int) - 48) = ((c - 48 : Nat) : Int) := by
 unfold isDigit at h
 simp only [Bool.and_eq_true, decide_eq_true_eq] at h
 have : ((c : Int) - 48) = ((c - 48 : Nat) : Int) := by omega
 rw [this]
 exact IntWalk.u8_in _ (by omega)
theorem num_step (s : Str) {k : Nat} (h : k < s.size) (n v : Nat) (hd : isDigit (s.data.toList.getD k 0).toNat = true) : numGo (s.data.toList.drop k) n v = if 2147483648 < 10 * v + ((s.data.toList.getD k 0).toNat - 48) then none else numGo (s.data.toList.drop (k + 1)) (n + 1) (10 * v + ((s.data.toList.getD k 0).toNat - 48)) := by
 have e : s.data.toList.getD k 0 = s[k] := by rw [List.getD_eq_getElem?_getD, List.getElem?_eq_getElem (by simpa using h)]; rfl
 rw [e] at hd ⊢
 rw [drop_cons s k h]
 simp only [numGo, hd, if_pos]
theorem num_stop (s : Str) {k : Nat} (n v : Nat) (hd : s.size ≤ k ∨ isDigit (s.data.toList.getD k 0).toNat = false) : numGo (s.data.toList.drop k) n v = some (n, v) := by
 by_cases h : k < s.size
 ·have e : s.data.toList.getD k 0 = s[k] := by rw [List.getD_eq_getElem?_getD, List.getElem?_eq_getElem (by simpa using h)]; rfl
  rw [e] at hd
  have hd := hd.resolve_left (by omega)
  rw [drop_cons s k h]
  simp [numGo, hd]
 ·rw [drop_end s k (by omega)]; rfl
set_option maxHeartbeats 800000 in
theorem rnumber_any (s : Str) (hs : s.size ≤ 65536) (i : Nat) (hi : i ≤ s.size) (m : M) : ACalls Tryz.prog 39 [pS s, pI i] m (fun v m' => (∃ a, v = .tp [pI a, .v (.int .i64 (numP (s.data.toList.drop i) 0 0).2)] ∧ ∀ n w, numGo (s.data.toList.drop i) 0 0 = some (n, w) → a = (n : Int)) ∧ m' = m) := by
 refine eN [] Tryz.func39 ?_
 (repeat revert X); refine wE aEQ_t ?_; repeat intro X hX
 obtain ⟨I, hI⟩ : ∃ I : F → M → Prop, ∀ f m', I f m' = (∃ n w : Nat, i + n ≤ s.size ∧ w ≤ 2147483648 ∧ f 0 = pS s ∧ f 1 = pI i ∧ f 6 = pI n ∧ f 7 = .v (.int .i64 (w : Int)) ∧ numGo (s.data.toList.drop i) 0 0 = numGo (s.data.toList.drop (i + n)) n w ∧ m = m') := ⟨_, fun _ _ => rfl⟩
 refine aLoop I (fun f m => s.size + 1 - numOf (f 6)) ?_ ?_
 ·rw [hI]; exact ⟨0, 0, by omega, by omega, rfl, rfl, rfl, rfl, rfl, rfl⟩
 intro f m' hrel
 rw [hI] at hrel
 obtain ⟨n, w, hn, hw, h0, h1, h6, h7, hg, rfl⟩ := hrel
 have hwi : IntKind.i64.wrap ((i : Int) + (n : Int)) = ((i + n : Nat) : Int) := by rw [wrap64 (by omega)]; omega
 cases hb : decide (((i + n : Nat) : Int) < (s.size : Int)) with
 | false =>
  have hlt : s.size ≤ i + n := by simp at hb; omega
  have hv := num_stop s n w (.inl hlt)
  (repeat revert X); refine wE (And.intro tfLrA (And.intro h0 (And.intro h1 (And.intro h6 (And.intro h7 (And.intro @pI.eq_1 (And.intro @pS.eq_1 (And.intro hwi hb)))))))) ?_; repeat intro X hX
  refine wR Tryz.results39 ?_
  refine leave_same rfl ⟨⟨(n : Int), ?_, ?_⟩, rfl⟩
  ·unfold numP; rw [hg, hv]; rfl
  ·intro a b hab; rw [hg, hv] at hab; cases hab; rfl
 | true =>
  have hlt : i + n < s.size := by simp at hb; omega
  have hb1 : (0 : Int) ≤ ((i + n : Nat) : Int) := by omega
  (repeat (first | refine aSeq fun X hX => ?_ | refine aReg ?_; simp -implicitDefEqProofs only [↓slp, slb, ↓reduceIte, reduceCtorEq, jA, tfLrA, h0, h1, h6, pI, pS, hwi, hb, hb1, hlt]))
  refine callM (rdigit_any (s.data.toList.getD (i + n) 0).toNat _) ?_
  rintro v m' ⟨hv1, hv2⟩
  subst hv1; rw [hv2]; clear hv2 m'
  have hst := num_step s hlt n w
  have hsp := num_stop s (k := i + n) n w
  obtain ⟨c, hc⟩ : ∃ c, (s.data.toList.getD (i + n) 0).toNat = c := ⟨_, rfl⟩
  have hc2 : c < 256 := by rw [← hc]; exact UInt8.toNat_lt _
  rw [hc] at hst hsp ⊢
  cases c1 : isDigit c with
  | false =>
   have hv := hsp (.inr c1)
   refine wS aEQ_t ?_
   (repeat revert X); refine wE (And.intro h6 (And.intro h7 @pI.eq_1)) ?_; repeat intro X hX
   refine wR Tryz.results39 ?_
   refine leave_same rfl ⟨⟨(n : Int), ?_, ?_⟩, rfl⟩
   ·unfold numP; rw [hg, hv]; rfl
   ·intro a b hab; rw [hg, hv] at hab; cases hab; rfl
  | true =>
   have hst := hst c1
   have hds := digit_sub c c1
   have hm : IntKind.i64.wrap (10 * (w : Int)) = ((10 * w : Nat) : Int) := by rw [wrap64 (by omega)]; omega
   have hcv : IntKind.i64.wrap ((c - 48 : Nat) : Int) = ((c - 48 : Nat) : Int) := wrap64 (by omega)
   have had : IntKind.i64.wrap (((10 * w : Nat) : Int) + ((c - 48 : Nat) : Int)) = ((10 * w + (c - 48) : Nat) : Int) := by rw [wrap64 (by omega)]; omega
   have hnx : IntKind.i64.wrap ((n : Int) + 1) = ((n + 1 : Nat) : Int) := by rw [wrap64 (by omega)]; omega
   obtain ⟨w2, hw2⟩ : ∃ w2, 10 * w + (c - 48) = w2 := ⟨_, rfl⟩
   rw [hw2] at had hst
   cases c2 : decide ((w2 : Int) > 2147483648) with
   | true =>
    have hv : 2147483648 < w2 := by simp at c2; omega
    rw [if_pos hv] at hst
    refine wS aEQ_t ?_
    (repeat revert X); refine wE (And.intro tfLrA (And.intro h0 (And.intro h1 (And.intro h6 (And.intro h7 (And.intro @pI.eq_1 (And.intro @pS.eq_1 (And.intro hwi (And.intro hb1 (And.intro hlt (And.intro hc (And.intro hds (And.intro hm (And.intro hcv (And.intro had c2))))))))))))))) ?_; repeat intro X hX
    refine wR Tryz.results39 ?_
    refine leave_same rfl ⟨⟨(n : Int), ?_, ?_⟩, rfl⟩
    ·unfold numP; rw [hg, hst]; rfl
    ·intro a b hab; rw [hg, hst] at hab; cases hab
   | false =>
    have hv : ¬ 2147483648 < w2 := by simp at c2; omega
    rw [if_neg hv] at hst
    refine wS aEQ_t ?_
    (repeat (first | refine aSeq fun X hX => ?_ | refine aSkip ?_ | (first | apply aReg | apply aIf); simp -implicitDefEqProofs only [↓slp, slb, ↓reduceIte, reduceCtorEq, jA, tfLrA, h0, h1, h6, h7, pI, pS, hwi, hb1, hlt, hc, hds, hm, hcv, had, hnx, c2] | apply hX; clear hX X))
    rw [hI]
    refine ⟨⟨n + 1, w2, by omega, by omega, h0, h1, rfl, rfl, by rw [hg, hst]; rfl, rfl⟩, ?_⟩
    first | omega | (simp only [↓slp, slb, ↓reduceIte, reduceCtorEq, jA, jB, jC, jD, jE, jF, jG, jH, jI, jJ, jK, h6, pI, numOf, Int.toNat_natCast]; omega)
end Go.Proofs.YtohgdopfjkjppaaGreatDoor
