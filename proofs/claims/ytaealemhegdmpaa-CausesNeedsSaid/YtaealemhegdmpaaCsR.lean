/-
 What expressions read: tree.Reads, and the reference's Reads.
-/
-- halved
import Derived.Test.YtaealemhegdmpaaAbNa
import Derived.Test.YtaealemhegdmpaaExA
set_option linter.unusedVariables false
set_option linter.unusedSimpArgs false
namespace Go.Proofs.Ytaealemhegdmpaa
open Nat renaming reduceEqDiff → jA, reduceAdd → jB, reduceMul → jC, reduceLT → jD, reduceLeDiff → jE, reduceBEq → jF, reduceBNe → jG
open Int renaming reduceLE → jH, reduceLT → jI, reduceToNat → jJ, reduceEq → jK
open Go
set_option maxRecDepth 20000
-- TNAMES: int; uint8; int32; string; bool; []string; []api.Expr; api.Expr; api.Pos


mutual
/-- The names that an expression reads (b: at once; else in all), after those of a list. -/
def Ex.reads (b : Bool) (out : List Str) : Ex → List Str
 | .mk k _ _ nm _ kids _ _ => if k == 4 || k == 13 then Ex.readsL b (addS out nm) kids else if k == 12 then addS (Ex.readsHd b out kids) nm else if k == 10 && b then out else if k == 9 && b then Ex.readsHd b out kids else Ex.readsL b out kids
def Ex.readsL (b : Bool) (out : List Str) : List Ex → List Str
 | [] => out
 | e :: l => Ex.readsL b (Ex.reads b out e) l
def Ex.readsHd (b : Bool) (out : List Str) : List Ex → List Str
 | [] => out
 | e :: _ => Ex.reads b out e
end
theorem Ex.reads_eq (b : Bool) (out : List Str) (e : Ex) : e.reads b out = if e.kind == 4 || e.kind == 13 then Ex.readsL b (addS out e.name) e.kids else if e.kind == 12 then addS (Ex.readsHd b out e.kids) e.name else if e.kind == 10 && b then out else if e.kind == 9 && b then Ex.readsHd b out e.kids else Ex.readsL b out e.kids := by cases e; rfl
theorem readsHd_eq (b : Bool) (out : List Str) (l : List Ex) (h : 0 < l.length) : Ex.readsHd b out l = l[0].reads b out := by
 cases l with
 | nil => simp at h
 | cons a l => rfl
theorem readsL_drop (b : Bool) (out : List Str) (l : List Ex) (k : Nat) (h : k < l.length) : Ex.readsL b out (l.drop k) = Ex.readsL b (l[k].reads b out) (l.drop (k + 1)) := by
 rw [List.drop_eq_getElem_cons h, Ex.readsL]
mutual
theorem reads_len (b : Bool) (out : List Str) : ∀ e : Ex, (e.reads b out).length ≤ out.length + e.size
 | .mk k o n nm ns kids x y => by
  have h1 := readsHd_len b out kids
  have h2 := readsL_len b out kids
  have h3 := addS_len out nm
  have h5 := readsL_len b (addS out nm) kids
  have h4 := addS_len (Ex.readsHd b out kids) nm
  simp only [Ex.reads, Ex.size]
  repeat' split
  all_goals omega
theorem readsL_len (b : Bool) (out : List Str) : ∀ l : List Ex, (Ex.readsL b out l).length ≤ out.length + Ex.sizes l
 | [] => by simp [Ex.readsL, Ex.sizes]
 | e :: l => by
  have h1 := reads_len b out e
  have h2 := readsL_len b (e.reads b out) l
  simp only [Ex.readsL, Ex.sizes]
  omega
theorem readsHd_len (b : Bool) (out : List Str) : ∀ l : List Ex, (Ex.readsHd b out l).length ≤ out.length + Ex.sizes l
 | [] => by simp [Ex.readsHd, Ex.sizes]
 | e :: l => by
  have h1 := reads_len b out e
  simp only [Ex.readsHd, Ex.sizes]
  omega
end
mutual
/-- Where a part is wanted, there is one. -/
def Ex.okr : Ex → Bool
 | .mk k _ _ _ _ kids _ _ => (!(k == 12 || k == 9) || !kids.isEmpty) && Ex.okrs kids
def Ex.okrs : List Ex → Bool
 | [] => true
 | e :: l => e.okr && Ex.okrs l
end
theorem okrs_at : ∀ (l : List Ex), Ex.okrs l = true → ∀ k (h : k < l.length), l[k].okr = true
 | [], _, k, h => by simp at h
 | e :: l, h, k, hk => by
  simp only [Ex.okrs, Bool.and_eq_true] at h
  cases k with
  | zero => exact h.1
  | succ k => exact okrs_at l h.2 k (by simpa using hk)
theorem Ex.okr_eq (e : Ex) : e.okr = ((!(e.kind == 12 || e.kind == 9) || !e.kids.isEmpty) && Ex.okrs e.kids) := by cases e; rfl
set_option maxRecDepth 20000 in
set_option maxHeartbeats 1000000 in
theorem reads_any (b : Bool) (e : Ex) : ∀ (o : Own) (l : List Str) (m : M), o.free m 1 → e.okr = true → l.length + e.size < 2 ^ 40 → ACalls Try.prog 77 [.sl o (l.map pS), e.pv, pB b] m (fun v m' => v = .sl (.tok m.nt) ((e.reads b l).map pS) ∧ m' = (o.use m).fresh 1) := by
 refine Ex.ind (motive := fun e => ∀ (o : Own) (l : List Str) (m : M), o.free m 1 → e.okr = true → l.length + e.size < 2 ^ 40 → ACalls Try.prog 77 [.sl o (l.map pS), e.pv, pB b] m (fun v m' => v = .sl (.tok m.nt) ((e.reads b l).map pS) ∧ m' = (o.use m).fresh 1)) (fun e IH => ?_) e
 intro o l m hf hok hsz
 rw [e.okr_eq, Bool.and_eq_true] at hok
 obtain ⟨hok1, hok2⟩ := hok
 rw [e.size_eq] at hsz
 have hre := e.reads_eq b l
 refine ACalls.enter (mu := []) ok_mix Try.func77 rfl (by kernel_rfl) (by kernel_rfl) (by simp only [List.length_cons, List.length_nil, Try.ntmps77]; omega) ?_
 refine aSeq (fun X hX => ?_)
 refine aReg ?_; simp -implicitDefEqProofs only [↓slp, ↓reduceIte, Y0, pB]
 apply hX; clear hX X
 refine aSeq (fun X hX => ?_)
 have hloop : ∀ (f : F) (m1 : M) (o1 : Own) (l1 : List Str), f 0 = .sl o1 (l1.map pS) → f 2 = pB b → f 4 = .ep e.cs → App m o 1 m1 o1 → Ex.readsL b l1 e.kids = e.reads b l → l1.length + Ex.sizes e.kids < 2 ^ 40 → X f m1 := by
  intro f m1 o1 l1 h0 h2 h4 happ hr hb1
  refine hX _ _ ?_
  clear hX X
  (repeat (first | refine aSeq fun X hX => ?_ | refine aBlk ?_ | refine aReg ?_; simp -implicitDefEqProofs only [↓slp, ↓reduceIte, reduceCtorEq, jB, jE, Y0, h4] | apply hX; clear hX X | intro hlen; unfold maxLen at hlen))
  obtain ⟨I, hI⟩ : ∃ I : F → M → Prop, ∀ f m', I f m' = (∃ (k : Nat) (ok : Own) (lk : List Str), k ≤ e.kids.length ∧ f 0 = .sl ok (lk.map pS) ∧ f 2 = pB b ∧ f 46 = .sl .no (e.kids.map Ex.pv) ∧ f 47 = pI e.kids.length ∧ f 48 = pI k ∧ App m o 1 m' ok ∧ Ex.readsL b lk (e.kids.drop k) = e.reads b l ∧ lk.length + Ex.sizes (e.kids.drop k) < 2 ^ 40) := ⟨_, fun _ _ => rfl⟩
  refine aLoop I (fun f m => e.kids.length - numOf (f 48)) ?_ ?_
  ·rw [hI]; exact ⟨0, o1, l1, by omega, h0, h2, rfl, rfl, rfl, happ, hr, hb1⟩
  intro f m' hrel
  rw [hI] at hrel
  obtain ⟨k, ok, lk, hk, h0, h2, h46, h47, h48, happ, hr, hb1⟩ := hrel
  (repeat (first | refine aSeq fun X hX => ?_ | refine aReg ?_; simp -implicitDefEqProofs only [↓slp, slb, ↓reduceIte, h47, h48, pI] | apply hX; clear hX X))
  refine aIf ?_; simp -implicitDefEqProofs only [slb, ↓reduceIte]; refine ⟨fun hb => ?_, fun hb => ?_⟩
  ·have hlt : k < e.kids.length := by simpa using hb
   have g0 := getD_map Ex.pv e.kids k hlt
   have hi : IntKind.i64.wrap ((k : Int) + 1) = ((k + 1 : Nat) : Int) := by rw [wrap64 (by omega)]; omega
   have hd := readsL_drop b lk e.kids k hlt
   have hs : Ex.sizes (e.kids.drop k) = e.kids[k].size + Ex.sizes (e.kids.drop (k + 1)) := by rw [List.drop_eq_getElem_cons hlt, Ex.sizes]
   have hrl := reads_len b lk e.kids[k]
   (repeat (first | refine aSeq fun X hX => ?_ | refine aSkip ?_ | refine aReg ?_; simp -implicitDefEqProofs only [↓slp, ↓reduceIte, reduceCtorEq, jA, jB, jE, jF, Y0, h0, h2, h46, h48, pI, g0]; try simp only [fo] | apply hX; clear hX X | apply And.intro; focus omega))
   refine callE (IH k hlt ok lk m' happ.free (okrs_at _ hok2 k hlt) (by omega)) ?_
   simp -implicitDefEqProofs only [↓slp, ↓reduceIte, Y0, h48, pI]; try simp only [fo]
   (repeat (first | refine aReg ?_; simp -implicitDefEqProofs only [↓slp, ↓reduceIte, reduceCtorEq, jA, Y0, h48, pI, hi]; try simp only [fo] | apply hX; clear hX X))
   rw [hI]
   refine ⟨⟨k + 1, _, _, hlt, rfl, h2, h46, h47, rfl, App.step happ, by rw [← hr, hd], by omega⟩, ?_⟩
   first | omega | (simp only [↓slp, slb, ↓reduceIte, reduceCtorEq, jA, jB, jC, jD, jE, jF, jG, jH, jI, jJ, jK, h48, pI]; omega)
  ·have hlt : k = e.kids.length := by simp at hb; omega
   subst hlt
   (repeat (first | refine aSeq fun X hX => ?_ | (first | refine aExit ?_ | refine aRet ?_); try simp only [slx, ↓reduceIte, jA, reduceCtorEq] | refine aReg ?_; simp -implicitDefEqProofs only [↓slp, slb, ↓reduceIte, reduceCtorEq, h0] | apply hX; clear hX X | clear hX X; apply hX; clear hX X))
   simp only [aPost, Try.results77, aRes_n, aRes_t, aRes_c, pack_one, pack_two]
   have hv : e.reads b l = lk := by rw [← hr, List.drop_length]; rfl
   rw [hv]
   exact leave_app (o := ok) (o0 := o) (xs := lk.map pS) happ (strs_one _) ⟨rfl, rfl⟩
 clear hX
 cases k4 : (e.kind == 4) with
 | true =>
  (repeat (first | refine aSeq fun X hX => ?_ | refine aSkip ?_ | (first | apply aReg | apply aIf); simp -implicitDefEqProofs only [↓slp, ↓reduceIte, reduceCtorEq, jA, jB, jE, Y0, k4]; try simp only [fo] | apply hX; clear hX X))
  refine callE (add_any o l e.name m hf (by omega)) ?_
  simp -implicitDefEqProofs only [↓slp, ↓reduceIte, Y0]; try simp only [fo]
  (repeat (first | refine aSeq fun X hX => ?_ | apply aBlk | refine aSkip ?_ | (first | refine aExit ?_ | refine aRet ?_); try simp only [slx, ↓reduceIte, jA, reduceCtorEq] | (first | apply aReg | refine aDrE ?_ | apply aIf); simp -implicitDefEqProofs only [forall_eq, ↓slp, ↓reduceIte, reduceCtorEq, jA, jB, jC, jD, jE, jF, jG, jH, jI, jJ, jK, Y0]; try simp only [fo] | apply hX; clear hX X | clear hX X; apply hX; clear hX X | clear hX X; clear hX X; apply hX; clear hX X | intro hlen; unfold maxLen at hlen | apply And.intro; · first | assumption | and_intros <;> first | omega | assumption))
  have := addS_len l e.name
  exact hloop _ _ _ _ rfl rfl rfl (App.step (.refl hf)) (by rw [hre]; simp [k4]) (by omega)
 | false =>
 cases k13 : (e.kind == 13) with
 | true =>
  (repeat (first | refine aSeq fun X hX => ?_ | (first | apply aReg | apply aIf); simp -implicitDefEqProofs only [↓slp, ↓reduceIte, reduceCtorEq, jA, jB, jE, Y0, k4, k13]; try simp only [fo] | apply hX; clear hX X))
  refine callE (add_any o l e.name m hf (by omega)) ?_
  simp -implicitDefEqProofs only [↓slp, ↓reduceIte, Y0]; try simp only [fo]
  (repeat (first | refine aSeq fun X hX => ?_ | apply aBlk | refine aSkip ?_ | (first | refine aExit ?_ | refine aRet ?_); try simp only [slx, ↓reduceIte, jA, reduceCtorEq] | (first | apply aReg | refine aDrE ?_ | apply aIf); simp -implicitDefEqProofs only [forall_eq, ↓slp, ↓reduceIte, reduceCtorEq, jA, jB, jC, jD, jE, jF, jG, jH, jI, jJ, jK, Y0]; try simp only [fo] | apply hX; clear hX X | clear hX X; apply hX; clear hX X | clear hX X; clear hX X; apply hX; clear hX X | intro hlen; unfold maxLen at hlen | apply And.intro; · first | assumption | and_intros <;> first | omega | assumption))
  have := addS_len l e.name
  exact hloop _ _ _ _ rfl rfl rfl (App.step (.refl hf)) (by rw [hre]; simp [k4, k13]) (by omega)
 | false =>
 cases k12 : (e.kind == 12) with
 | true =>
  have hpos : 0 < e.kids.length := by
   rw [k12] at hok1
   cases h : e.kids with
   | nil => simp [h] at hok1
   | cons a r => simp
  have g0 := getD_map Ex.pv e.kids 0 hpos
  have hsk := size_kid e.kids 0 hpos
  have hrl := reads_len b l e.kids[0]
  have happ := App.step (App.refl hf)
  (repeat (first | refine aSeq fun X hX => ?_ | (first | apply aReg | apply aIf); simp -implicitDefEqProofs only [↓slp, ↓reduceIte, reduceCtorEq, jA, jB, jE, jH, jJ, Y0, k4, k13, k12, g0]; try simp only [fo] | apply hX; clear hX X | apply And.intro; focus omega))
  refine callE (IH 0 hpos o l m hf (okrs_at _ hok2 0 hpos) (by omega)) ?_
  simp -implicitDefEqProofs only [↓slp, ↓reduceIte, Y0]; try simp only [fo]
  (repeat (first | refine aSeq fun X hX => ?_ | refine aReg ?_; simp -implicitDefEqProofs only [↓slp, ↓reduceIte, reduceCtorEq, jA, jB, jE, Y0] | apply hX; clear hX X))
  refine callE (add_any _ _ e.name _ happ.free (by omega)) ?_
  simp -implicitDefEqProofs only [↓slp, ↓reduceIte, Y0]; try simp only [fo]
  (repeat (first | refine aRet ?_; try simp only [slx, ↓reduceIte, jA, reduceCtorEq] | apply hX; clear hX X))
  simp only [aPost, Try.results77, aRes_n, aRes_t, aRes_c, pack_one, pack_two]
  have hv : e.reads b l = addS (e.kids[0].reads b l) e.name := by rw [hre, readsHd_eq b l _ hpos]; simp [k4, k13, k12]
  rw [hv]
  exact leave_app (o0 := o) (App.step happ) (strs_one _) ⟨rfl, rfl⟩
 | false =>
 cases k10 : (e.kind == 10) with
 | true =>
  cases b with
  | true =>
   (repeat (first | refine aSeq fun X hX => ?_ | refine aRet ?_; try simp only [slx, ↓reduceIte, jA, reduceCtorEq] | (first | apply aReg | apply aIf); simp -implicitDefEqProofs only [↓slp, ↓reduceIte, reduceCtorEq, jA, jB, jE, Y0, k4, k13, k12, k10]; try simp only [fo] | apply hX; clear hX X))
   simp only [aPost, Try.results77, aRes_n, aRes_t, aRes_c, pack_one, pack_two]
   have hv : e.reads true l = l := by rw [hre]; simp [k4, k13, k12, k10]
   rw [hv]
   exact leave_app (o := o) (o0 := o) (xs := l.map pS) (.refl hf) (strs_one _) ⟨rfl, rfl⟩
  | false =>
   (repeat (first | refine aSeq fun X hX => ?_ | refine aSkip ?_ | (first | apply aReg | apply aIf); simp -implicitDefEqProofs only [↓slp, ↓reduceIte, reduceCtorEq, jA, jB, jE, Y0, k4, k13, k12, k10]; try simp only [fo] | apply hX; clear hX X))
   exact hloop _ _ _ _ rfl rfl rfl (.refl hf) (by rw [hre]; simp [k4, k13, k12]) (by omega)
 | false =>
 cases k9 : (e.kind == 9) with
 | true =>
  cases b with
  | true =>
   have hpos : 0 < e.kids.length := by
    rw [k9] at hok1
    cases h : e.kids with
    | nil => simp [h] at hok1
    | cons a r => simp
   have g0 := getD_map Ex.pv e.kids 0 hpos
   have hsk := size_kid e.kids 0 hpos
   (repeat (first | refine aSeq fun X hX => ?_ | (first | apply aReg | apply aIf); simp -implicitDefEqProofs only [↓slp, ↓reduceIte, reduceCtorEq, jA, jB, jE, jH, jJ, Y0, k4, k13, k12, k10, k9, g0]; try simp only [fo] | apply hX; clear hX X | apply And.intro; focus omega))
   refine callE (IH 0 hpos o l m hf (okrs_at _ hok2 0 hpos) (by omega)) ?_
   simp -implicitDefEqProofs only [↓slp, ↓reduceIte, Y0]; try simp only [fo]
   (repeat (first | refine aRet ?_; try simp only [slx, ↓reduceIte, jA, reduceCtorEq] | apply hX; clear hX X))
   simp only [aPost, Try.results77, aRes_n, aRes_t, aRes_c, pack_one, pack_two]
   have hv : e.reads true l = e.kids[0].reads true l := by rw [hre, readsHd_eq true l _ hpos]; simp [k4, k13, k12, k10, k9]
   rw [hv]
   exact leave_app (o0 := o) (App.step (.refl hf)) (strs_one _) ⟨rfl, rfl⟩
  | false =>
   (repeat (first | refine aSeq fun X hX => ?_ | refine aSkip ?_ | (first | apply aReg | apply aIf); simp -implicitDefEqProofs only [↓slp, ↓reduceIte, reduceCtorEq, jA, jB, jE, Y0, k4, k13, k12, k10, k9]; try simp only [fo] | apply hX; clear hX X))
   exact hloop _ _ _ _ rfl rfl rfl (.refl hf) (by rw [hre]; simp [k4, k13, k12, k10]) (by omega)
 | false =>
  (repeat (first | refine aSeq fun X hX => ?_ | refine aSkip ?_ | (first | apply aReg | apply aIf); simp -implicitDefEqProofs only [↓slp, ↓reduceIte, reduceCtorEq, jA, jB, jE, Y0, k4, k13, k12, k10, k9]; try simp only [fo] | apply hX; clear hX X))
  exact hloop _ _ _ _ rfl rfl rfl (.refl hf) (by rw [hre]; simp [k4, k13, k12, k10, k9]) (by omega)
set_option maxRecDepth 20000 in
set_option maxHeartbeats 1000000 in
theorem Reads_any (e : Ex) (m : M) (hok : e.okr = true) (hsz : e.size < 2 ^ 40) : ACalls Try.prog 69 [e.pv] m (fun v m' => v = .sl (.tok m.nt) ((e.reads true []).map pS) ∧ m' = m.fresh 1) := by
 refine ACalls.enter (mu := []) ok_mix Try.func69 rfl (by kernel_rfl) (by kernel_rfl) (by simp only [List.length_cons, List.length_nil, Try.ntmps69]; omega) ?_
 (repeat (first | refine aSeq fun X hX => ?_ | refine aReg ?_; simp -implicitDefEqProofs only [↓slp, ↓reduceIte, jA, jB, jE, Y0]; try simp only [fo] | apply hX; clear hX X))
 refine callE (reads_any true e .full [] m trivial hok (by simpa using hsz)) ?_
 simp -implicitDefEqProofs only [↓slp, ↓reduceIte, Y0]; try simp only [fo]
 (repeat (first | refine aRet ?_ | apply hX; clear hX X))
 simp only [aPost, Try.results69, aRes_n, aRes_t, aRes_c, pack_one, pack_two]
 exact leave_app (o0 := .full) (App.step (App.refl (o := .full) (m := m) trivial)) (strs_one _) ⟨rfl, rfl⟩

set_option maxRecDepth 20000 in
set_option maxHeartbeats 400000 in
theorem rHas_any (o : Own) (l : List Str) (s : Str) (m : M) : ACalls Try.prog 66 [.sl o (l.map pS), pS s] m (fun v m' => v = pB (hasS l s) ∧ m' = m) := by
 refine ACalls.enter (mu := []) ok_mix Try.func66 rfl (by kernel_rfl) (by kernel_rfl) (by simp only [List.length_cons, List.length_nil, Try.ntmps66]; omega) ?_
 (repeat (first | refine aSeq fun X hX => ?_ | refine aBlk ?_ | refine aReg ?_; simp -implicitDefEqProofs only [↓slp, slb] | apply hX; clear hX X))
 obtain ⟨I, hI⟩ : ∃ I : F → M → Prop, ∀ f m', I f m' = (∃ k : Nat, k ≤ l.length ∧ f 0 = .sl o (l.map pS) ∧ f 1 = pS s ∧ f 5 = pI k ∧ hasS l s = hasS (l.drop k) s ∧ m' = m) := ⟨_, fun _ _ => rfl⟩
 refine aLoop I (fun f m => l.length - numOf (f 5)) ?_ ?_
 ·rw [hI]; exact ⟨0, by omega, rfl, rfl, rfl, rfl, rfl⟩
 intro f m' hrel
 rw [hI] at hrel
 obtain ⟨k, hk, h0, h1, h5, hs, rfl⟩ := hrel
 (repeat (first | refine aSeq fun X hX => ?_ | refine aReg ?_; simp -implicitDefEqProofs only [↓slp, ↓reduceIte, reduceCtorEq, jA, Y0, h0, h5, pI] | apply hX; clear hX X | intro hlen; unfold maxLen at hlen))
 refine aIf ?_; simp -implicitDefEqProofs only [slb, ↓reduceIte]; refine ⟨fun hb => ?_, fun hb => ?_⟩
 ·have hlt : k < l.length := by simpa using hb
  have g0 := getD_map pS l k hlt
  have hi : IntKind.i64.wrap ((k : Int) + 1) = ((k + 1 : Nat) : Int) := by rw [wrap64 (by omega)]; omega
  have hd := hasS_drop l s k hlt
  cases c1 : (l[k].toList == s.toList) with
  | true =>
   have c2 : eqS l[k] s = true := c1
   (repeat (first | refine aSeq fun X hX => ?_ | refine aSkip ?_ | refine aRet ?_; try simp only [slx, ↓reduceIte, jA, reduceCtorEq] | (first | apply aReg | apply aIf); simp -implicitDefEqProofs only [↓slp, ↓reduceIte, reduceCtorEq, jA, jB, Y0, h0, h1, h5, pI, pS, g0, c1] | apply hX; clear hX X | apply And.intro; focus omega))
   simp only [aPost, Try.results66, aRes_n, aRes_t, aRes_c, pack_one, pack_two]
   have hv : hasS l s = true := by rw [hs, hd, c2]; rfl
   exact leave_same rfl ⟨by rw [hv]; rfl, rfl⟩
  | false =>
   have c2 : eqS l[k] s = false := c1
   (repeat (first | refine aSeq fun X hX => ?_ | refine aSkip ?_ | (first | apply aReg | apply aIf); simp -implicitDefEqProofs only [↓slp, ↓reduceIte, reduceCtorEq, jA, jB, Y0, h0, h1, h5, pI, pS, g0, c1, hi] | apply hX; clear hX X | apply And.intro; focus omega))
   rw [hI]
   exact ⟨⟨k + 1, hlt, h0, h1, rfl, by rw [hs, hd, c2]; rfl, rfl⟩, by omega⟩
 ·have hlt : k = l.length := by simp at hb; omega
  subst hlt
  (repeat (first | refine aSeq fun X hX => ?_ | (first | refine aExit ?_ | refine aRet ?_); try simp only [slx, ↓reduceIte, jA, reduceCtorEq] | refine aReg ?_; simp -implicitDefEqProofs only [↓slp, slb] | apply hX; clear hX X | clear hX X; apply hX; clear hX X))
  simp only [aPost, Try.results66, aRes_n, aRes_t, aRes_c, pack_one, pack_two]
  have hv : hasS l s = false := by rw [hs, List.drop_length]; exact hasS_nil s
  exact leave_same rfl ⟨by rw [hv]; rfl, rfl⟩

set_option maxRecDepth 20000 in
set_option maxHeartbeats 400000 in
theorem rAdd_any (l : List Str) (s : Str) (m : M) (hlen : l.length < 2 ^ 40) : ACalls Try.prog 53 [.sl .no (l.map pS), pS s] m (fun v m' => v = .sl .no ((addS l s).map pS) ∧ m' = m) := by
 have h1 := strs_one l
 have h2 : l.length ≤ maxLen := by unfold maxLen; omega
 have h3 : l.length + 1 ≤ maxLen := by unfold maxLen; omega
 have h5 : (m.fresh 1).alive m.nt 1 := by simp [M.alive, M.fresh, M.nt]
 refine ACalls.enter (mu := []) ok_mix Try.func53 rfl (by kernel_rfl) (by kernel_rfl) (by simp only [List.length_cons, List.length_nil, Try.ntmps53]; omega) ?_
 (repeat (first | refine aSeq fun X hX => ?_ | refine aReg ?_; simp -implicitDefEqProofs only [↓slp, ↓reduceIte, reduceCtorEq, jA, Y0] | apply hX; clear hX X))
 refine callE (rHas_any .no l s m) ?_
 simp -implicitDefEqProofs only [slb]
 cases c : hasS l s with
 | true =>
  have hv : addS l s = l := by unfold addS; rw [c]; rfl
  (repeat (first | refine aSeq fun X hX => ?_ | refine aRet ?_; try simp only [slx, ↓reduceIte, jA, reduceCtorEq] | (first | apply aReg | apply aIf); simp -implicitDefEqProofs only [↓slp, slb, ↓reduceIte, reduceCtorEq, pB] | apply hX; clear hX X))
  simp only [aPost, Try.results53, aRes_n, aRes_t, aRes_c, pack_one, pack_two]
  exact leave_same rfl ⟨by rw [hv]; rfl, rfl⟩
 | false =>
  have hv : addS l s = l ++ [s] := by unfold addS; rw [c]; rfl
  (repeat (first | refine aSeq fun X hX => ?_ | refine aSkip ?_ | refine aRet ?_ | (first | apply aReg | apply aIf); simp -implicitDefEqProofs only [forall_eq, ↓slp, ↓reduceIte, reduceCtorEq, jA, jB, jC, jE, Y0, pB, pS] | apply hX; clear hX X | apply And.intro; focus ((repeat' apply And.intro) <;> first | omega | assumption)))
  simp only [aPost, Try.results53, aRes_n, aRes_t, aRes_c, pack_one, pack_two]
  simp -implicitDefEqProofs only [slb, ↓reduceIte]
  have t1 : Toks m (m.fresh 1) := (Toks.refl m).use (o := .full) (s := 1) (s' := 1) Mine.full
  have t2 : Toks m (((m.fresh 1).kill m.nt).fresh 1) := t1.use (o := .tok m.nt) (s := 1) (Mine.new (o := .full) (Toks.refl m) 1)
  exact leave_toks0 t2 rfl ⟨by rw [hv, List.map_append]; rfl, rfl⟩
mutual
/-- As many parts as there should be. -/
def Ex.shp : Ex → Bool
 | .mk k _ _ _ _ kids _ _ => (!(k == 12) || kids.length == 1) && (!(k == 9) || kids.length == 2) && Ex.shps kids
def Ex.shps : List Ex → Bool
 | [] => true
 | e :: l => e.shp && Ex.shps l
end
theorem Ex.shp_eq (e : Ex) : e.shp = ((!(e.kind == 12) || e.kids.length == 1) && (!(e.kind == 9) || e.kids.length == 2) && Ex.shps e.kids) := by cases e; rfl
theorem shps_at : ∀ (l : List Ex), Ex.shps l = true → ∀ k (h : k < l.length), l[k].shp = true
 | [], _, k, h => by simp at h
 | e :: l, h, k, hk => by
  simp only [Ex.shps, Bool.and_eq_true] at h
  cases k with
  | zero => exact h.1
  | succ k => exact shps_at l h.2 k (by simpa using hk)
mutual
theorem shp_okr : ∀ e : Ex, e.shp = true → e.okr = true
 | .mk k o n nm ns kids x y, h => by
  simp only [Ex.shp, Bool.and_eq_true] at h
  have hk := shps_okrs kids h.2
  simp only [Ex.okr, hk, Bool.and_true]
  cases h12 : (k == 12) with
  | true =>
   have := h.1.1
   rw [h12] at this
   cases kids with
   | nil => simp at this
   | cons a l => rfl
  | false =>
   cases h9 : (k == 9) with
   | true =>
    have := h.1.2
    rw [h9] at this
    cases kids with
    | nil => simp at this
    | cons a l => rfl
   | false => rfl
theorem shps_okrs : ∀ l : List Ex, Ex.shps l = true → Ex.okrs l = true
 | [], _ => rfl
 | e :: l, h => by
  simp only [Ex.shps, Bool.and_eq_true] at h
  simp only [Ex.okrs, shp_okr e h.1, shps_okrs l h.2, Bool.and_self]
end
/-- The parts, one behind the other: what stands behind a fby or a pre is left out. -/
def rrL (b : Bool) (kind : Int) : Nat → List Str → List Ex → List Str
 | _, out, [] => out
 | i, out, e :: l => rrL b kind (i + 1) (if b && (kind == 10 || (kind == 9 && (i : Int) == 1)) then out else e.reads b out) l
theorem rrL_drop (b : Bool) (kind : Int) (i : Nat) (out : List Str) (l : List Ex) (k : Nat) (h : k < l.length) : rrL b kind i out (l.drop k) = rrL b kind (i + 1) (if b && (kind == 10 || (kind == 9 && (i : Int) == 1)) then out else l[k].reads b out) (l.drop (k + 1)) := by
 rw [List.drop_eq_getElem_cons h, rrL]
theorem rrL_skip (kind : Int) (hk : kind = 10) (out : List Str) : ∀ (l : List Ex) (i : Nat), rrL true kind i out l = out
 | [], i => rfl
 | e :: l, i => by rw [rrL, hk]; exact rrL_skip 10 rfl out l (i + 1)
theorem rrL_all (b : Bool) (kind : Int) (h : (b && (kind == 10 || kind == 9)) = false) (out : List Str) : ∀ (l : List Ex) (i : Nat), rrL b kind i out l = Ex.readsL b out l
 | [], i => rfl
 | e :: l, i => by
  have hc : (b && (kind == 10 || (kind == 9 && (i : Int) == 1))) = false := by
   cases b with
   | false => rfl
   | true =>
    simp only [Bool.true_and, Bool.or_eq_false_iff] at h ⊢
    exact ⟨h.1, by rw [h.2]; rfl⟩
  rw [rrL, hc, Ex.readsL]
  exact rrL_all b kind h _ l (i + 1)
theorem rreads_eq (b : Bool) (out : List Str) (e : Ex) (h : e.shp = true) : (if e.kind == 12 then addS (rrL b e.kind 0 (if e.kind == 4 || e.kind == 13 then addS out e.name else out) e.kids) e.name else rrL b e.kind 0 (if e.kind == 4 || e.kind == 13 then addS out e.name else out) e.kids) = e.reads b out := by
 rw [e.shp_eq] at h
 simp only [Bool.and_eq_true] at h
 rw [e.reads_eq]
 generalize e.kids = kids at *
 cases k4 : (e.kind == 4 || e.kind == 13) with
 | true =>
  have k12 : (e.kind == 12) = false := by
   rcases Bool.or_eq_true_iff.1 k4 with h | h <;> simp at h <;> rw [h] <;> rfl
  have kb : (b && (e.kind == 10 || e.kind == 9)) = false := by
   rcases Bool.or_eq_true_iff.1 k4 with h | h <;> simp at h <;> rw [h] <;> cases b <;> rfl
  simp only [k12, if_true, if_false, Bool.false_eq_true]
  exact rrL_all b e.kind kb _ kids 0
 | false =>
  simp only [if_false, Bool.false_eq_true]
  cases k12 : (e.kind == 12) with
  | true =>
   have kb : (b && (e.kind == 10 || e.kind == 9)) = false := by
    simp at k12; rw [k12]; cases b <;> rfl
   simp only [if_true]
   rw [rrL_all b e.kind kb]
   have := h.1.1
   rw [k12] at this
   match kids, this with
   | [a], _ => rfl
  | false =>
   simp only [if_false, Bool.false_eq_true]
   cases b with
   | false =>
    simp only [Bool.and_false, if_false, Bool.false_eq_true]
    exact rrL_all false e.kind rfl _ kids 0
   | true =>
    simp only [Bool.and_true]
    cases k10 : (e.kind == 10) with
    | true => simp only [if_true]; exact rrL_skip _ (by simpa using k10) _ _ _
    | false =>
     simp only [if_false, Bool.false_eq_true]
     cases k9 : (e.kind == 9) with
     | true =>
      have := h.1.2
      rw [k9] at this
      simp only [if_true]
      match kids, this with
      | [a, c], _ => simp only [rrL, k9, k10, Ex.readsHd]; rfl
     | false =>
      simp only [if_false, Bool.false_eq_true]
      exact rrL_all true e.kind (by rw [k10, k9]; rfl) _ kids 0
theorem reads_if_len (b : Bool) (c : Bool) (out : List Str) (e : Ex) : (if c then out else e.reads b out).length ≤ out.length + e.size := by
 have := reads_len b out e
 split <;> omega
set_option maxRecDepth 20000 in
set_option maxHeartbeats 2000000 in
theorem rReads_any (b : Bool) (e : Ex) : ∀ (l : List Str) (m : M), e.shp = true → l.length + e.size < 2 ^ 40 → ACalls Try.prog 51 [.sl .no (l.map pS), e.pv, pB b] m (fun v m' => v = .sl .no ((e.reads b l).map pS) ∧ m' = m) := by
 refine Ex.ind (motive := fun e => ∀ (l : List Str) (m : M), e.shp = true → l.length + e.size < 2 ^ 40 → ACalls Try.prog 51 [.sl .no (l.map pS), e.pv, pB b] m (fun v m' => v = .sl .no ((e.reads b l).map pS) ∧ m' = m)) (fun e IH => ?_) e
 intro l m hshp hsz
 have hre := rreads_eq b l e hshp
 rw [e.shp_eq, Bool.and_eq_true] at hshp
 have hok2 := hshp.2
 rw [e.size_eq] at hsz
 refine ACalls.enter (mu := []) ok_mix Try.func51 rfl (by kernel_rfl) (by kernel_rfl) (by simp only [List.length_cons, List.length_nil, Try.ntmps51]; omega) ?_
 refine aSeq (fun X hX => ?_)
 refine aReg ?_; simp -implicitDefEqProofs only [↓slp, ↓reduceIte, Y0, pB]
 apply hX; clear hX X
 refine aSeq (fun X hX => ?_)
 have hloop : ∀ (f : F) (l1 : List Str), f 0 = .sl .no (l1.map pS) → f 2 = pB b → f 4 = .ep e.cs → l1 = (if e.kind == 4 || e.kind == 13 then addS l e.name else l) → X f m := by
  intro f l1 h0 h2 h4 hl1
  refine hX _ _ ?_
  clear hX X
  have hl1b : l1.length + Ex.sizes e.kids < 2 ^ 40 := by
   have := addS_len l e.name
   rw [hl1]; split <;> omega
  rw [← hl1] at hre
  (repeat (first | refine aSeq fun X hX => ?_ | refine aBlk ?_ | refine aReg ?_; simp -implicitDefEqProofs only [↓slp, slb] | apply hX; clear hX X))
  obtain ⟨I, hI⟩ : ∃ I : F → M → Prop, ∀ f m', I f m' = (∃ (k : Nat) (lk : List Str), k ≤ e.kids.length ∧ f 0 = .sl .no (lk.map pS) ∧ f 2 = pB b ∧ f 4 = .ep e.cs ∧ f 7 = pI k ∧ m' = m ∧ rrL b e.kind k lk (e.kids.drop k) = rrL b e.kind 0 l1 e.kids ∧ lk.length + Ex.sizes (e.kids.drop k) < 2 ^ 40) := ⟨_, fun _ _ => rfl⟩
  refine aLoop I (fun f m => e.kids.length - numOf (f 7)) ?_ ?_
  ·rw [hI]; exact ⟨0, l1, by omega, h0, h2, h4, rfl, rfl, rfl, hl1b⟩
  intro f m' hrel
  rw [hI] at hrel
  clear h0 h2 h4
  obtain ⟨k, lk, hk, h0, h2, h4, h7, rfl, hr, hb1⟩ := hrel
  (repeat (first | refine aSeq fun X hX => ?_ | refine aReg ?_; simp -implicitDefEqProofs only [↓slp, ↓reduceIte, reduceCtorEq, jA, jB, jE, Y0, h4, h7, pI, Ex.cs] | apply hX; clear hX X | intro hlen; unfold maxLen at hlen))
  refine aIf ?_; simp -implicitDefEqProofs only [slb, ↓reduceIte]; refine ⟨fun hb => ?_, fun hb => ?_⟩
  ·have hlt : k < e.kids.length := by simpa using hb
   have g0 := getD_map Ex.pv e.kids k hlt
   have hi : IntKind.i64.wrap ((k : Int) + 1) = ((k + 1 : Nat) : Int) := by rw [wrap64 (by omega)]; omega
   have hd := rrL_drop b e.kind k lk e.kids k hlt
   have hs : Ex.sizes (e.kids.drop k) = e.kids[k].size + Ex.sizes (e.kids.drop (k + 1)) := by rw [List.drop_eq_getElem_cons hlt, Ex.sizes]
   have hrl := reads_if_len b (b && (e.kind == 10 || (e.kind == 9 && (k : Int) == 1))) lk e.kids[k]
   have hmu : numOf (f 7) = k := by rw [h7]; rfl
   cases b with
   | false =>
    have hc : (false && (e.kind == 10 || (e.kind == 9 && (k : Int) == 1))) = false := by rfl
    rw [hc] at hd hrl
    simp only [if_false, Bool.false_eq_true] at hd hrl
    (repeat (first | refine aSeq fun X hX => ?_ | refine aSkip ?_ | (first | apply aReg | apply aIf); simp -implicitDefEqProofs only [↓slp, ↓reduceIte, reduceCtorEq, jA, jB, jE, Y0, h0, h2, h4, h7, pI, pB, g0, Ex.cs]; try simp only [fo] | apply hX; clear hX X | apply And.intro; focus omega))
    refine callM (IH k hlt lk _ (shps_at _ hok2 k hlt) (by omega)) ?_
    rintro v m' ⟨rfl, rfl⟩
    simp -implicitDefEqProofs only [↓slp, slb, ↓reduceIte, h7, pI]; try simp only [fo]
    (repeat (first | refine aReg ?_; simp -implicitDefEqProofs only [↓slp, slb, ↓reduceIte, reduceCtorEq, jA, h7, pI, Ex.cs, hi]; try simp only [fo] | apply hX; clear hX X))
    rw [hI]
    exact ⟨⟨k + 1, _, hlt, rfl, h2, h4, rfl, rfl, by rw [← hr, hd], by omega⟩, by omega⟩
   | true =>
    cases k10 : (e.kind == 10) with
    | true =>
     have hc : (true && (true || (e.kind == 9 && (k : Int) == 1))) = true := by rfl
     rw [k10, hc] at hd hrl
     simp only [if_true] at hd hrl
     (repeat (first | refine aSeq fun X hX => ?_ | refine aSkip ?_ | refine aExit ?_; try simp only [slx, ↓reduceIte, jA, reduceCtorEq] | (first | apply aReg | apply aIf); simp -implicitDefEqProofs only [↓slp, ↓reduceIte, reduceCtorEq, jA, jB, jE, Y0, h2, h4, h7, pI, pB, Ex.cs, k10, hi]; try simp only [fo] | apply hX; clear hX X | clear hX X; apply hX; clear hX X))
     rw [hI]
     exact ⟨⟨k + 1, _, hlt, h0, h2, h4, rfl, rfl, by rw [← hr, hd], by omega⟩, by omega⟩
    | false =>
     cases k9 : (e.kind == 9) with
     | false =>
      have hc : (true && (false || (false && (k : Int) == 1))) = false := by rfl
      rw [k10, k9, hc] at hd hrl
      simp only [if_false, Bool.false_eq_true] at hd hrl
      (repeat (first | refine aSeq fun X hX => ?_ | refine aSkip ?_ | (first | apply aReg | apply aIf); simp -implicitDefEqProofs only [↓slp, ↓reduceIte, reduceCtorEq, jA, jB, jE, Y0, h0, h2, h4, h7, pI, pB, g0, Ex.cs, k10, k9]; try simp only [fo] | apply hX; clear hX X | apply And.intro; focus omega))
      refine callM (IH k hlt lk _ (shps_at _ hok2 k hlt) (by omega)) ?_
      rintro v m' ⟨rfl, rfl⟩
      simp -implicitDefEqProofs only [↓slp, slb, ↓reduceIte, h7, pI, Ex.cs]; try simp only [fo]
      (repeat (first | refine aReg ?_; simp -implicitDefEqProofs only [↓slp, slb, ↓reduceIte, reduceCtorEq, jA, h7, pI, Ex.cs, hi]; try simp only [fo] | apply hX; clear hX X))
      rw [hI]
      exact ⟨⟨k + 1, _, hlt, rfl, h2, h4, rfl, rfl, by rw [← hr, hd], by omega⟩, by omega⟩
     | true =>
      cases k1 : ((k : Int) == 1) with
      | true =>
       have hc : (true && (false || (true && true))) = true := by rfl
       rw [k10, k9, k1, hc] at hd hrl
       simp only [if_true] at hd hrl
       (repeat (first | refine aSeq fun X hX => ?_ | refine aSkip ?_ | refine aExit ?_; try simp only [slx, ↓reduceIte, jA, reduceCtorEq] | (first | apply aReg | apply aIf); simp -implicitDefEqProofs only [↓slp, ↓reduceIte, reduceCtorEq, jA, jB, jE, Y0, h2, h4, h7, pI, pB, Ex.cs, k10, k9, k1, hi]; try simp only [fo] | apply hX; clear hX X | clear hX X; apply hX; clear hX X))
       rw [hI]
       exact ⟨⟨k + 1, _, hlt, h0, h2, h4, rfl, rfl, by rw [← hr, hd], by omega⟩, by omega⟩
      | false =>
       have hc : (true && (false || (true && false))) = false := by rfl
       rw [k10, k9, k1, hc] at hd hrl
       simp only [if_false, Bool.false_eq_true] at hd hrl
       (repeat (first | refine aSeq fun X hX => ?_ | refine aSkip ?_ | (first | apply aReg | apply aIf); simp -implicitDefEqProofs only [↓slp, ↓reduceIte, reduceCtorEq, jA, jB, jE, Y0, h0, h2, h4, h7, pI, pB, g0, Ex.cs, k10, k9, k1]; try simp only [fo] | apply hX; clear hX X | apply And.intro; focus omega))
       refine callM (IH k hlt lk _ (shps_at _ hok2 k hlt) (by omega)) ?_
       rintro v m' ⟨rfl, rfl⟩
       simp -implicitDefEqProofs only [↓slp, slb, ↓reduceIte, h7, pI, Ex.cs]; try simp only [fo]
       (repeat (first | refine aReg ?_; simp -implicitDefEqProofs only [↓slp, slb, ↓reduceIte, reduceCtorEq, jA, h7, pI, Ex.cs, hi]; try simp only [fo] | apply hX; clear hX X))
       rw [hI]
       exact ⟨⟨k + 1, _, hlt, rfl, h2, h4, rfl, rfl, by rw [← hr, hd], by omega⟩, by omega⟩
  ·have hlt : k = e.kids.length := by simp at hb; omega
   subst hlt
   rw [List.drop_length] at hr hb1
   simp only [rrL, Ex.sizes] at hr hb1
   rw [← hr] at hre
   cases k12 : (e.kind == 12) with
   | true =>
    rw [k12] at hre
    (repeat (first | refine aSeq fun X hX => ?_ | refine aExit ?_; try simp only [slx, ↓reduceIte, jA, reduceCtorEq] | (first | apply aReg | apply aIf); simp -implicitDefEqProofs only [↓slp, ↓reduceIte, reduceCtorEq, jA, jB, jE, Y0, h0, h4, k12, Ex.cs]; try simp only [fo] | apply hX; clear hX X | clear hX X; apply hX; clear hX X))
    refine callM (rAdd_any lk e.name _ (by omega)) ?_
    rintro v m' ⟨rfl, rfl⟩
    simp -implicitDefEqProofs only [↓slp, ↓reduceIte, Y0]; try simp only [fo]
    (repeat (first | refine aSeq fun X hX => ?_ | refine aRet ?_ | refine aReg ?_; simp -implicitDefEqProofs only [↓slp, ↓reduceIte, Y0]; try simp only [fo] | apply hX; clear hX X))
    simp only [aPost, Try.results51, aRes_n, aRes_t, aRes_c, pack_one, pack_two]
    exact leave_same rfl ⟨by rw [← hre]; rfl, rfl⟩
   | false =>
    rw [k12] at hre
    (repeat (first | refine aSeq fun X hX => ?_ | refine aSkip ?_ | (first | refine aExit ?_ | refine aRet ?_); try simp only [slx, ↓reduceIte, jA, reduceCtorEq] | (first | apply aReg | apply aIf); simp -implicitDefEqProofs only [↓slp, ↓reduceIte, reduceCtorEq, jA, jB, jE, Y0, h0, h4, k12, Ex.cs]; try simp only [fo] | apply hX; clear hX X | clear hX X; apply hX; clear hX X))
    simp only [aPost, Try.results51, aRes_n, aRes_t, aRes_c, pack_one, pack_two]
    exact leave_same rfl ⟨by rw [← hre]; rfl, rfl⟩
 clear hX
 cases k4 : (e.kind == 4) with
 | true =>
  (repeat (first | refine aSeq fun X hX => ?_ | (first | apply aReg | apply aIf); simp -implicitDefEqProofs only [↓slp, ↓reduceIte, reduceCtorEq, jA, jB, jE, Y0, k4]; try simp only [fo] | apply hX; clear hX X))
  refine callM (rAdd_any l e.name m (by omega)) ?_
  rintro v m' ⟨rfl, rfl⟩
  simp -implicitDefEqProofs only [↓slp, ↓reduceIte, Y0]; try simp only [fo]
  (repeat (first | refine aSeq fun X hX => ?_ | apply aBlk | refine aSkip ?_ | (first | refine aExit ?_ | refine aRet ?_); try simp only [slx, ↓reduceIte, jA, reduceCtorEq] | (first | apply aReg | refine aDrE ?_ | apply aIf); simp -implicitDefEqProofs only [forall_eq, ↓slp, ↓reduceIte, reduceCtorEq, jA, jB, jC, jD, jE, jF, jG, jH, jI, jJ, jK, Y0]; try simp only [fo] | apply hX; clear hX X | clear hX X; apply hX; clear hX X | clear hX X; clear hX X; apply hX; clear hX X | intro hlen; unfold maxLen at hlen | apply And.intro; · first | assumption | and_intros <;> first | omega | assumption))
  exact hloop _ _ rfl rfl rfl (by rw [k4]; rfl)
 | false =>
  cases k13 : (e.kind == 13) with
  | true =>
   (repeat (first | refine aSeq fun X hX => ?_ | (first | apply aReg | apply aIf); simp -implicitDefEqProofs only [↓slp, ↓reduceIte, reduceCtorEq, jA, jB, jE, Y0, k4, k13]; try simp only [fo] | apply hX; clear hX X))
   refine callM (rAdd_any l e.name m (by omega)) ?_
   rintro v m' ⟨rfl, rfl⟩
   simp -implicitDefEqProofs only [↓slp, ↓reduceIte, Y0]; try simp only [fo]
   (repeat (first | refine aSeq fun X hX => ?_ | apply aBlk | refine aSkip ?_ | (first | refine aExit ?_ | refine aRet ?_); try simp only [slx, ↓reduceIte, jA, reduceCtorEq] | (first | apply aReg | refine aDrE ?_ | apply aIf); simp -implicitDefEqProofs only [forall_eq, ↓slp, ↓reduceIte, reduceCtorEq, jA, jB, jC, jD, jE, jF, jG, jH, jI, jJ, jK, Y0]; try simp only [fo] | apply hX; clear hX X | clear hX X; apply hX; clear hX X | clear hX X; clear hX X; apply hX; clear hX X | intro hlen; unfold maxLen at hlen | apply And.intro; · first | assumption | and_intros <;> first | omega | assumption))
   exact hloop _ _ rfl rfl rfl (by rw [k4, k13]; rfl)
  | false =>
   (repeat (first | refine aSeq fun X hX => ?_ | refine aSkip ?_ | (first | apply aReg | apply aIf); simp -implicitDefEqProofs only [↓slp, ↓reduceIte, reduceCtorEq, jA, jB, jE, Y0, k4, k13]; try simp only [fo] | apply hX; clear hX X))
   exact hloop _ _ rfl rfl rfl (by rw [k4, k13]; rfl)
end Go.Proofs.Ytaealemhegdmpaa
