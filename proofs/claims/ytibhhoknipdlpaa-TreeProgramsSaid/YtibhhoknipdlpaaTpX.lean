/-
 Size, Depth, Reads, All; the law's own example.
-/
-- halved
import Derived.Test.YtibhhoknipdlpaaNvA
set_option linter.unusedVariables false
set_option linter.unusedSimpArgs false
namespace Go.Proofs.Ytibhhoknipdlpaa
open Nat renaming reduceEqDiff → jA, reduceAdd → jB, reduceMul → jC, reduceLT → jD, reduceLeDiff → jE, reduceBEq → jF, reduceBNe → jG
open Int renaming reduceLE → jH, reduceLT → jI, reduceToNat → jJ, reduceEq → jK
open Go
set_option linter.defProp false
def Yn := And.intro @slb (And.intro @td_3 (And.intro @zv_3 (And.intro @Try.underlying3 (And.intro @td_4 (And.intro @zv_4 (And.intro @Try.underlying4 (And.intro @td_5 (And.intro @zv_5 (And.intro @Try.underlying5 (And.intro @td_9 (And.intro @zv_9 (And.intro @Try.underlying9 (And.intro @td_21 (And.intro @zv_21 (And.intro @Try.underlying21 (And.intro @td_30 (And.intro @zv_30 (And.intro @tel_30 (And.intro @Try.underlying30 (And.intro @td_32 (And.intro @zv_32 (And.intro @tel_32 (And.intro @Try.underlying32 (And.intro @td_37 (And.intro @zv_37 (And.intro @tf_37 (And.intro @fl_37 (And.intro @td_41 (And.intro @zv_41 (And.intro @tel_41 (And.intro @Try.underlying41 (And.intro @td_44 (And.intro @zv_44 (And.intro @tf_44 (And.intro @td_49 (And.intro @zv_49 (And.intro @tf_49 (And.intro @fl_49 (And.intro @td_50 (And.intro @zv_50 (And.intro @tel_50 (And.intro @Try.underlying50 (And.intro @td_52 (And.intro @zv_52 (And.intro @tf_52 (And.intro @td_63 (And.intro @zv_63 (And.intro @tf_63 (And.intro @fl_63 (And.intro @Ex.settle_pv (And.intro @Ex.pure_pv (And.intro @Ex.cells_pv (And.intro @Ex.cs.eq_1 (And.intro @On.pv.eq_1 (And.intro @Ty.pv.eq_1 (And.intro @Va.settle_pv (And.intro @Va.pure_pv (And.intro @Va.cells_pv @Va.cs.eq_1))))))))))))))))))))))))))))))))))))))))))))))))))))))))))
-- TYPES: 3 4 5 9 21 30 32 37 41 44 49 50 52 63

set_option maxRecDepth 20000 in
set_option maxHeartbeats 400000 in
theorem size_any (b : Nat) : ∀ (e : Ex) (m : M), e.size ≤ b → b < 2 ^ 62 → ACalls Try.prog 51 [e.pv] m (fun v m' => v = pI e.size ∧ m' = m) := by
 induction b with
 | zero => intro e m h; rw [e.size_eq] at h; omega
 | succ b IH =>
 intro e m hsz hbd
 rw [e.size_eq] at hsz
 refine ACalls.enter (mu := []) ok_mix Try.func51 rfl (by kernel_rfl) (by kernel_rfl) (by simp only [List.length_cons, List.length_nil, Try.ntmps51]; omega) ?_
 (repeat (first | refine aSeq fun X hX => ?_ | refine aBlk ?_ | refine aReg ?_; simp -implicitDefEqProofs only [↓slp, ↓reduceIte, reduceCtorEq, jA, jB, jE, Yn]; try simp only [fo] | apply hX; clear hX X | intro hlen; unfold maxLen at hlen))
 obtain ⟨I, hI⟩ : ∃ I : F → M → Prop, ∀ f m', I f m' = (∃ k : Nat, k ≤ e.kids.length ∧ f 7 = .sl .no (e.kids.map Ex.pv) ∧ f 8 = pI e.kids.length ∧ f 9 = pI k ∧ f 3 = pI ((1 + Ex.sizes (e.kids.take k) : Nat) : Int) ∧ m' = m) := ⟨_, fun _ _ => rfl⟩
 refine aLoop I (fun f m => e.kids.length - numOf (f 9)) ?_ ?_
 ·rw [hI]; exact ⟨0, by omega, rfl, rfl, rfl, rfl, rfl⟩
 ·intro f m' hrel
  rw [hI] at hrel
  obtain ⟨k, hk, h7, h8, h9, h3, rfl⟩ := hrel
  (repeat (first | refine aSeq fun X hX => ?_ | refine aReg ?_; simp -implicitDefEqProofs only [↓slp, slb, ↓reduceIte, h8, h9, pI] | apply hX; clear hX X))
  refine aIf ?_; simp -implicitDefEqProofs only [slb, ↓reduceIte]; refine ⟨fun hb => ?_, fun hb => ?_⟩
  ·have hlt : k < e.kids.length := by simpa using hb
   have hg := getD_map Ex.pv e.kids k hlt
   have hst := sizes_take e.kids k hlt
   have hsl := sizes_take_le e.kids (k + 1)
   have hw : IntKind.i64.wrap (((1 + Ex.sizes (e.kids.take k) : Nat) : Int) + (e.kids[k].size : Int)) = ((1 + Ex.sizes (e.kids.take (k + 1)) : Nat) : Int) := by rw [wrap64 (by omega)]; omega
   have hi : IntKind.i64.wrap ((k : Int) + 1) = ((k + 1 : Nat) : Int) := by rw [wrap64 (by omega)]; omega
   (repeat (first | refine aSeq fun X hX => ?_ | refine aSkip ?_ | refine aReg ?_; simp -implicitDefEqProofs only [↓slp, ↓reduceIte, jA, jB, jE, jF, Yn, h3, h7, h9, pI, hg]; try simp only [fo] | apply hX; clear hX X | apply And.intro; focus omega))
   refine callE (IH e.kids[k] _ (by omega) (by omega)) ?_
   simp -implicitDefEqProofs only [↓slp, ↓reduceIte, jA, Yn, h9, pI, hw]; try simp only [fo]
   (repeat (first | refine aReg ?_; simp -implicitDefEqProofs only [↓slp, ↓reduceIte, jA, Yn, h9, pI, hi]; try simp only [fo] | apply hX; clear hX X))
   rw [hI]
   exact ⟨⟨k + 1, by omega, h7, h8, rfl, rfl, rfl⟩, by omega⟩
  ·obtain rfl : k = e.kids.length := by simp at hb; omega
   (repeat (first | refine aSeq fun X hX => ?_ | (first | refine aExit ?_ | refine aRet ?_); try simp only [slx, ↓reduceIte, jA, reduceCtorEq] | refine aReg ?_; simp -implicitDefEqProofs only [↓slp, slb, ↓reduceIte, jA, h3, pI, List.take_length] | apply hX; clear hX X | clear hX X; apply hX; clear hX X))
   simp only [aPost, Try.results51, aRes_n, aRes_t, aRes_c, pack_one, pack_two]
   exact leave_same rfl ⟨by rw [e.size_eq]; rfl, rfl⟩

mutual
def Ex.depth : Ex → Nat
 | .mk _ _ _ _ _ kids _ _ => 1 + Ex.depths kids
def Ex.depths : List Ex → Nat
 | [] => 0
 | k :: l => max k.depth (Ex.depths l)
end
theorem Ex.depth_eq (e : Ex) : e.depth = 1 + Ex.depths e.kids := by cases e; rfl
theorem depths_take (kids : List Ex) (k : Nat) (h : k < kids.length) : Ex.depths (kids.take (k + 1)) = max (Ex.depths (kids.take k)) kids[k].depth := by
 induction kids generalizing k with
 | nil => simp at h
 | cons a l ih =>
  cases k with
  | zero => simp [Ex.depths]
  | succ k =>
   have h1 : k < l.length := by simpa using h
   have := ih k h1
   simp only [List.take_succ_cons, Ex.depths, List.getElem_cons_succ] at this ⊢
   omega
theorem depths_take_le (kids : List Ex) (k : Nat) : Ex.depths (kids.take k) ≤ Ex.depths kids := by
 induction kids generalizing k with
 | nil => simp [Ex.depths]
 | cons a l ih =>
  cases k with
  | zero => simp [Ex.depths]
  | succ k =>
   have := ih k
   simp only [List.take_succ_cons, Ex.depths]
   omega

set_option maxRecDepth 20000 in
set_option maxHeartbeats 400000 in
theorem depth_any (b : Nat) : ∀ (e : Ex) (m : M), e.depth ≤ b → b < 2 ^ 62 → ACalls Try.prog 52 [e.pv] m (fun v m' => v = pI e.depth ∧ m' = m) := by
 induction b with
 | zero => intro e m h; rw [e.depth_eq] at h; omega
 | succ b IH =>
 intro e m hsz hbd
 rw [e.depth_eq] at hsz
 refine ACalls.enter (mu := []) ok_mix Try.func52 rfl (by kernel_rfl) (by kernel_rfl) (by simp only [List.length_cons, List.length_nil, Try.ntmps52]; omega) ?_
 (repeat (first | refine aSeq fun X hX => ?_ | refine aBlk ?_ | refine aReg ?_; simp -implicitDefEqProofs only [↓slp, ↓reduceIte, reduceCtorEq, jA, jB, jE, Yn]; try simp only [fo] | apply hX; clear hX X | intro hlen; unfold maxLen at hlen))
 obtain ⟨I, hI⟩ : ∃ I : F → M → Prop, ∀ f m', I f m' = (∃ k : Nat, k ≤ e.kids.length ∧ f 7 = .sl .no (e.kids.map Ex.pv) ∧ f 8 = pI e.kids.length ∧ f 9 = pI k ∧ f 3 = pI ((Ex.depths (e.kids.take k) : Nat) : Int) ∧ m' = m) := ⟨_, fun _ _ => rfl⟩
 refine aLoop I (fun f m => e.kids.length - numOf (f 9)) ?_ ?_
 ·rw [hI]; exact ⟨0, by omega, rfl, rfl, rfl, rfl, rfl⟩
 ·intro f m' hrel
  rw [hI] at hrel
  obtain ⟨k, hk, h7, h8, h9, h3, rfl⟩ := hrel
  (repeat (first | refine aSeq fun X hX => ?_ | refine aReg ?_; simp -implicitDefEqProofs only [↓slp, slb, ↓reduceIte, h8, h9, pI] | apply hX; clear hX X))
  refine aIf ?_; simp -implicitDefEqProofs only [slb, ↓reduceIte]; refine ⟨fun hb => ?_, fun hb => ?_⟩
  ·have hlt : k < e.kids.length := by simpa using hb
   have hg := getD_map Ex.pv e.kids k hlt
   have hst := depths_take e.kids k hlt
   have hsl := depths_take_le e.kids (k + 1)
   have hw : (if (e.kids[k].depth : Int) > (Ex.depths (e.kids.take k) : Int) then (e.kids[k].depth : Int) else (Ex.depths (e.kids.take k) : Int)) = ((Ex.depths (e.kids.take (k + 1)) : Nat) : Int) := by split <;> omega
   have hi : IntKind.i64.wrap ((k : Int) + 1) = ((k + 1 : Nat) : Int) := by rw [wrap64 (by omega)]; omega
   (repeat (first | refine aSeq fun X hX => ?_ | refine aSkip ?_ | refine aReg ?_; simp -implicitDefEqProofs only [↓slp, ↓reduceIte, jA, jB, jE, jF, Yn, h3, h7, h9, pI, hg]; try simp only [fo] | apply hX; clear hX X | apply And.intro; focus omega))
   refine callE (IH e.kids[k] _ (by omega) (by omega)) ?_
   simp -implicitDefEqProofs only [↓slp, ↓reduceIte, jA, Yn, h9, pI, hw]; try simp only [fo]
   (repeat (first | refine aReg ?_; simp -implicitDefEqProofs only [↓slp, ↓reduceIte, jA, Yn, h9, pI, hi]; try simp only [fo] | apply hX; clear hX X))
   rw [hI]
   exact ⟨⟨k + 1, by omega, h7, h8, rfl, rfl, rfl⟩, by omega⟩
  ·obtain rfl : k = e.kids.length := by simp at hb; omega
   have hw : IntKind.i64.wrap (((Ex.depths e.kids : Nat) : Int) + 1) = (e.depth : Int) := by rw [wrap64 (by omega), e.depth_eq]; omega
   (repeat (first | refine aSeq fun X hX => ?_ | (first | refine aExit ?_ | refine aRet ?_); try simp only [slx, ↓reduceIte, jA, reduceCtorEq] | refine aReg ?_; simp -implicitDefEqProofs only [↓slp, slb, ↓reduceIte, jA, h3, pI, List.take_length, hw] | apply hX; clear hX X | clear hX X; apply hX; clear hX X))
   simp only [aPost, Try.results52, aRes_n, aRes_t, aRes_c, pack_one, pack_two]
   exact leave_same rfl ⟨rfl, rfl⟩

mutual
/-- The names that an expression reads (b: at once; else in all), after those of a list. -/
def Ex.reads (b : Bool) (out : List Str) : Ex → List Str
 | .mk k _ _ nm _ kids _ _ => if k == 4 || k == 13 then Ex.readsL b (addS out nm) kids else if k == 12 then addS (Ex.readsHd b out kids) nm else if k == 10 && b then out else if k == 9 && b then Ex.readsHd b out kids else Ex.readsL b out kids
def Ex.readsL (b : Bool) (out : List Str) : List Ex → List Str
 | [] => out
 | e :: l => Ex.readsL b (Ex.reads b out e) l
def Ex.readsHd (b : Bool) (out : List Str) : List Ex → List Str
 | [] => out
 | e :: _ => Ex.reads b out e
end
theorem Ex.reads_eq (b : Bool) (out : List Str) (e : Ex) : e.reads b out = if e.kind == 4 || e.kind == 13 then Ex.readsL b (addS out e.name) e.kids else if e.kind == 12 then addS (Ex.readsHd b out e.kids) e.name else if e.kind == 10 && b then out else if e.kind == 9 && b then Ex.readsHd b out e.kids else Ex.readsL b out e.kids := by cases e; rfl
theorem readsHd_eq (b : Bool) (out : List Str) (l : List Ex) (h : 0 < l.length) : Ex.readsHd b out l = l[0].reads b out := by
 cases l with
 | nil => simp at h
 | cons a l => rfl
theorem readsL_drop (b : Bool) (out : List Str) (l : List Ex) (k : Nat) (h : k < l.length) : Ex.readsL b out (l.drop k) = Ex.readsL b (l[k].reads b out) (l.drop (k + 1)) := by
 rw [List.drop_eq_getElem_cons h, Ex.readsL]
mutual
theorem reads_len (b : Bool) (out : List Str) : ∀ e : Ex, (e.reads b out).length ≤ out.length + e.size
 | .mk k o n nm ns kids x y => by
  have h1 := readsHd_len b out kids
  have h2 := readsL_len b out kids
  have h3 := addS_len out nm
  have h5 := readsL_len b (addS out nm) kids
  have h4 := addS_len (Ex.readsHd b out kids) nm
  simp only [Ex.reads, Ex.size]
  repeat' split
  all_goals omega
theorem readsL_len (b : Bool) (out : List Str) : ∀ l : List Ex, (Ex.readsL b out l).length ≤ out.length + Ex.sizes l
 | [] => by simp [Ex.readsL, Ex.sizes]
 | e :: l => by
  have h1 := reads_len b out e
  have h2 := readsL_len b (e.reads b out) l
  simp only [Ex.readsL, Ex.sizes]
  omega
theorem readsHd_len (b : Bool) (out : List Str) : ∀ l : List Ex, (Ex.readsHd b out l).length ≤ out.length + Ex.sizes l
 | [] => by simp [Ex.readsHd, Ex.sizes]
 | e :: l => by
  have h1 := reads_len b out e
  simp only [Ex.readsHd, Ex.sizes]
  omega
end
mutual
/-- Where a part is wanted, there is one. -/
def Ex.okr : Ex → Bool
 | .mk k _ _ _ _ kids _ _ => (!(k == 12 || k == 9) || !kids.isEmpty) && Ex.okrs kids
def Ex.okrs : List Ex → Bool
 | [] => true
 | e :: l => e.okr && Ex.okrs l
end
theorem okrs_at : ∀ (l : List Ex), Ex.okrs l = true → ∀ k (h : k < l.length), l[k].okr = true
 | [], _, k, h => by simp at h
 | e :: l, h, k, hk => by
  simp only [Ex.okrs, Bool.and_eq_true] at h
  cases k with
  | zero => exact h.1
  | succ k => exact okrs_at l h.2 k (by simpa using hk)
theorem Ex.okr_eq (e : Ex) : e.okr = ((!(e.kind == 12 || e.kind == 9) || !e.kids.isEmpty) && Ex.okrs e.kids) := by cases e; rfl
set_option maxRecDepth 20000 in
set_option maxHeartbeats 1000000 in
theorem reads_any (b : Bool) (e : Ex) : ∀ (o : Own) (l : List Str) (m : M), o.free m 1 → e.okr = true → l.length + e.size < 2 ^ 40 → ACalls Try.prog 56 [.sl o (l.map pS), e.pv, pB b] m (fun v m' => v = .sl (.tok m.nt) ((e.reads b l).map pS) ∧ m' = (o.use m).fresh 1) := by
 refine Ex.ind (motive := fun e => ∀ (o : Own) (l : List Str) (m : M), o.free m 1 → e.okr = true → l.length + e.size < 2 ^ 40 → ACalls Try.prog 56 [.sl o (l.map pS), e.pv, pB b] m (fun v m' => v = .sl (.tok m.nt) ((e.reads b l).map pS) ∧ m' = (o.use m).fresh 1)) (fun e IH => ?_) e
 intro o l m hf hok hsz
 rw [e.okr_eq, Bool.and_eq_true] at hok
 obtain ⟨hok1, hok2⟩ := hok
 rw [e.size_eq] at hsz
 have hre := e.reads_eq b l
 refine ACalls.enter (mu := []) ok_mix Try.func56 rfl (by kernel_rfl) (by kernel_rfl) (by simp only [List.length_cons, List.length_nil, Try.ntmps56]; omega) ?_
 refine aSeq (fun X hX => ?_)
 refine aReg ?_; simp -implicitDefEqProofs only [↓slp, ↓reduceIte, Yn, pB]
 apply hX; clear hX X
 refine aSeq (fun X hX => ?_)
 have hloop : ∀ (f : F) (m1 : M) (o1 : Own) (l1 : List Str), f 0 = .sl o1 (l1.map pS) → f 2 = pB b → f 4 = .ep e.cs → App m o 1 m1 o1 → Ex.readsL b l1 e.kids = e.reads b l → l1.length + Ex.sizes e.kids < 2 ^ 40 → X f m1 := by
  intro f m1 o1 l1 h0 h2 h4 happ hr hb1
  refine hX _ _ ?_
  clear hX X
  (repeat (first | refine aSeq fun X hX => ?_ | refine aBlk ?_ | refine aReg ?_; simp -implicitDefEqProofs only [↓slp, ↓reduceIte, reduceCtorEq, jB, jE, Yn, h4] | apply hX; clear hX X | intro hlen; unfold maxLen at hlen))
  obtain ⟨I, hI⟩ : ∃ I : F → M → Prop, ∀ f m', I f m' = (∃ (k : Nat) (ok : Own) (lk : List Str), k ≤ e.kids.length ∧ f 0 = .sl ok (lk.map pS) ∧ f 2 = pB b ∧ f 46 = .sl .no (e.kids.map Ex.pv) ∧ f 47 = pI e.kids.length ∧ f 48 = pI k ∧ App m o 1 m' ok ∧ Ex.readsL b lk (e.kids.drop k) = e.reads b l ∧ lk.length + Ex.sizes (e.kids.drop k) < 2 ^ 40) := ⟨_, fun _ _ => rfl⟩
  refine aLoop I (fun f m => e.kids.length - numOf (f 48)) ?_ ?_
  ·rw [hI]; exact ⟨0, o1, l1, by omega, h0, h2, rfl, rfl, rfl, happ, hr, hb1⟩
  intro f m' hrel
  rw [hI] at hrel
  obtain ⟨k, ok, lk, hk, h0, h2, h46, h47, h48, happ, hr, hb1⟩ := hrel
  (repeat (first | refine aSeq fun X hX => ?_ | refine aReg ?_; simp -implicitDefEqProofs only [↓slp, slb, ↓reduceIte, h47, h48, pI] | apply hX; clear hX X))
  refine aIf ?_; simp -implicitDefEqProofs only [slb, ↓reduceIte]; refine ⟨fun hb => ?_, fun hb => ?_⟩
  ·have hlt : k < e.kids.length := by simpa using hb
   have g0 := getD_map Ex.pv e.kids k hlt
   have hi : IntKind.i64.wrap ((k : Int) + 1) = ((k + 1 : Nat) : Int) := by rw [wrap64 (by omega)]; omega
   have hd := readsL_drop b lk e.kids k hlt
   have hs : Ex.sizes (e.kids.drop k) = e.kids[k].size + Ex.sizes (e.kids.drop (k + 1)) := by rw [List.drop_eq_getElem_cons hlt, Ex.sizes]
   have hrl := reads_len b lk e.kids[k]
   (repeat (first | refine aSeq fun X hX => ?_ | refine aSkip ?_ | refine aReg ?_; simp -implicitDefEqProofs only [↓slp, ↓reduceIte, reduceCtorEq, jA, jB, jE, jF, Yn, h0, h2, h46, h48, pI, g0]; try simp only [fo] | apply hX; clear hX X | apply And.intro; focus omega))
   refine callE (IH k hlt ok lk m' happ.free (okrs_at _ hok2 k hlt) (by omega)) ?_
   simp -implicitDefEqProofs only [↓slp, ↓reduceIte, Yn, h48, pI]; try simp only [fo]
   (repeat (first | refine aReg ?_; simp -implicitDefEqProofs only [↓slp, ↓reduceIte, reduceCtorEq, jA, Yn, h48, pI, hi]; try simp only [fo] | apply hX; clear hX X))
   rw [hI]
   refine ⟨⟨k + 1, _, _, hlt, rfl, h2, h46, h47, rfl, App.step happ, by rw [← hr, hd], by omega⟩, ?_⟩
   first | omega | (simp only [↓slp, slb, ↓reduceIte, reduceCtorEq, jA, jB, jC, jD, jE, jF, jG, jH, jI, jJ, jK, h48, pI]; omega)
  ·have hlt : k = e.kids.length := by simp at hb; omega
   subst hlt
   (repeat (first | refine aSeq fun X hX => ?_ | (first | refine aExit ?_ | refine aRet ?_); try simp only [slx, ↓reduceIte, jA, reduceCtorEq] | refine aReg ?_; simp -implicitDefEqProofs only [↓slp, slb, ↓reduceIte, reduceCtorEq, h0] | apply hX; clear hX X | clear hX X; apply hX; clear hX X))
   simp only [aPost, Try.results56, aRes_n, aRes_t, aRes_c, pack_one, pack_two]
   have hv : e.reads b l = lk := by rw [← hr, List.drop_length]; rfl
   rw [hv]
   exact leave_app (o := ok) (o0 := o) (xs := lk.map pS) happ (strs_one _) ⟨rfl, rfl⟩
 clear hX
 cases k4 : (e.kind == 4) with
 | true =>
  (repeat (first | refine aSeq fun X hX => ?_ | refine aSkip ?_ | (first | apply aReg | apply aIf); simp -implicitDefEqProofs only [↓slp, ↓reduceIte, reduceCtorEq, jA, jB, jE, Yn, k4]; try simp only [fo] | apply hX; clear hX X))
  refine callE (add_any o l e.name m hf (by omega)) ?_
  simp -implicitDefEqProofs only [↓slp, ↓reduceIte, Yn]; try simp only [fo]
  (repeat (first | refine aSeq fun X hX => ?_ | apply aBlk | refine aSkip ?_ | (first | refine aExit ?_ | refine aRet ?_); try simp only [slx, ↓reduceIte, jA, reduceCtorEq] | (first | apply aReg | refine aDrE ?_ | apply aIf); simp -implicitDefEqProofs only [forall_eq, ↓slp, ↓reduceIte, reduceCtorEq, jA, jB, jC, jD, jE, jF, jG, jH, jI, jJ, jK, Yn]; try simp only [fo] | apply hX; clear hX X | clear hX X; apply hX; clear hX X | clear hX X; clear hX X; apply hX; clear hX X | intro hlen; unfold maxLen at hlen | apply And.intro; · first | assumption | and_intros <;> first | omega | assumption))
  have := addS_len l e.name
  exact hloop _ _ _ _ rfl rfl rfl (App.step (.refl hf)) (by rw [hre]; simp [k4]) (by omega)
 | false =>
 cases k13 : (e.kind == 13) with
 | true =>
  (repeat (first | refine aSeq fun X hX => ?_ | (first | apply aReg | apply aIf); simp -implicitDefEqProofs only [↓slp, ↓reduceIte, reduceCtorEq, jA, jB, jE, Yn, k4, k13]; try simp only [fo] | apply hX; clear hX X))
  refine callE (add_any o l e.name m hf (by omega)) ?_
  simp -implicitDefEqProofs only [↓slp, ↓reduceIte, Yn]; try simp only [fo]
  (repeat (first | refine aSeq fun X hX => ?_ | apply aBlk | refine aSkip ?_ | (first | refine aExit ?_ | refine aRet ?_); try simp only [slx, ↓reduceIte, jA, reduceCtorEq] | (first | apply aReg | refine aDrE ?_ | apply aIf); simp -implicitDefEqProofs only [forall_eq, ↓slp, ↓reduceIte, reduceCtorEq, jA, jB, jC, jD, jE, jF, jG, jH, jI, jJ, jK, Yn]; try simp only [fo] | apply hX; clear hX X | clear hX X; apply hX; clear hX X | clear hX X; clear hX X; apply hX; clear hX X | intro hlen; unfold maxLen at hlen | apply And.intro; · first | assumption | and_intros <;> first | omega | assumption))
  have := addS_len l e.name
  exact hloop _ _ _ _ rfl rfl rfl (App.step (.refl hf)) (by rw [hre]; simp [k4, k13]) (by omega)
 | false =>
 cases k12 : (e.kind == 12) with
 | true =>
  have hpos : 0 < e.kids.length := by
   rw [k12] at hok1
   cases h : e.kids with
   | nil => simp [h] at hok1
   | cons a r => simp
  have g0 := getD_map Ex.pv e.kids 0 hpos
  have hsk := size_kid e.kids 0 hpos
  have hrl := reads_len b l e.kids[0]
  have happ := App.step (App.refl hf)
  (repeat (first | refine aSeq fun X hX => ?_ | (first | apply aReg | apply aIf); simp -implicitDefEqProofs only [↓slp, ↓reduceIte, reduceCtorEq, jA, jB, jE, jH, jJ, Yn, k4, k13, k12, g0]; try simp only [fo] | apply hX; clear hX X | apply And.intro; focus omega))
  refine callE (IH 0 hpos o l m hf (okrs_at _ hok2 0 hpos) (by omega)) ?_
  simp -implicitDefEqProofs only [↓slp, ↓reduceIte, Yn]; try simp only [fo]
  (repeat (first | refine aSeq fun X hX => ?_ | refine aReg ?_; simp -implicitDefEqProofs only [↓slp, ↓reduceIte, reduceCtorEq, jA, jB, jE, Yn] | apply hX; clear hX X))
  refine callE (add_any _ _ e.name _ happ.free (by omega)) ?_
  simp -implicitDefEqProofs only [↓slp, ↓reduceIte, Yn]; try simp only [fo]
  (repeat (first | refine aRet ?_; try simp only [slx, ↓reduceIte, jA, reduceCtorEq] | apply hX; clear hX X))
  simp only [aPost, Try.results56, aRes_n, aRes_t, aRes_c, pack_one, pack_two]
  have hv : e.reads b l = addS (e.kids[0].reads b l) e.name := by rw [hre, readsHd_eq b l _ hpos]; simp [k4, k13, k12]
  rw [hv]
  exact leave_app (o0 := o) (App.step happ) (strs_one _) ⟨rfl, rfl⟩
 | false =>
 cases k10 : (e.kind == 10) with
 | true =>
  cases b with
  | true =>
   (repeat (first | refine aSeq fun X hX => ?_ | refine aRet ?_; try simp only [slx, ↓reduceIte, jA, reduceCtorEq] | (first | apply aReg | apply aIf); simp -implicitDefEqProofs only [↓slp, ↓reduceIte, reduceCtorEq, jA, jB, jE, Yn, k4, k13, k12, k10]; try simp only [fo] | apply hX; clear hX X))
   simp only [aPost, Try.results56, aRes_n, aRes_t, aRes_c, pack_one, pack_two]
   have hv : e.reads true l = l := by rw [hre]; simp [k4, k13, k12, k10]
   rw [hv]
   exact leave_app (o := o) (o0 := o) (xs := l.map pS) (.refl hf) (strs_one _) ⟨rfl, rfl⟩
  | false =>
   (repeat (first | refine aSeq fun X hX => ?_ | refine aSkip ?_ | (first | apply aReg | apply aIf); simp -implicitDefEqProofs only [↓slp, ↓reduceIte, reduceCtorEq, jA, jB, jE, Yn, k4, k13, k12, k10]; try simp only [fo] | apply hX; clear hX X))
   exact hloop _ _ _ _ rfl rfl rfl (.refl hf) (by rw [hre]; simp [k4, k13, k12]) (by omega)
 | false =>
 cases k9 : (e.kind == 9) with
 | true =>
  cases b with
  | true =>
   have hpos : 0 < e.kids.length := by
    rw [k9] at hok1
    cases h : e.kids with
    | nil => simp [h] at hok1
    | cons a r => simp
   have g0 := getD_map Ex.pv e.kids 0 hpos
   have hsk := size_kid e.kids 0 hpos
   (repeat (first | refine aSeq fun X hX => ?_ | (first | apply aReg | apply aIf); simp -implicitDefEqProofs only [↓slp, ↓reduceIte, reduceCtorEq, jA, jB, jE, jH, jJ, Yn, k4, k13, k12, k10, k9, g0]; try simp only [fo] | apply hX; clear hX X | apply And.intro; focus omega))
   refine callE (IH 0 hpos o l m hf (okrs_at _ hok2 0 hpos) (by omega)) ?_
   simp -implicitDefEqProofs only [↓slp, ↓reduceIte, Yn]; try simp only [fo]
   (repeat (first | refine aRet ?_; try simp only [slx, ↓reduceIte, jA, reduceCtorEq] | apply hX; clear hX X))
   simp only [aPost, Try.results56, aRes_n, aRes_t, aRes_c, pack_one, pack_two]
   have hv : e.reads true l = e.kids[0].reads true l := by rw [hre, readsHd_eq true l _ hpos]; simp [k4, k13, k12, k10, k9]
   rw [hv]
   exact leave_app (o0 := o) (App.step (.refl hf)) (strs_one _) ⟨rfl, rfl⟩
  | false =>
   (repeat (first | refine aSeq fun X hX => ?_ | refine aSkip ?_ | (first | apply aReg | apply aIf); simp -implicitDefEqProofs only [↓slp, ↓reduceIte, reduceCtorEq, jA, jB, jE, Yn, k4, k13, k12, k10, k9]; try simp only [fo] | apply hX; clear hX X))
   exact hloop _ _ _ _ rfl rfl rfl (.refl hf) (by rw [hre]; simp [k4, k13, k12, k10]) (by omega)
 | false =>
  (repeat (first | refine aSeq fun X hX => ?_ | refine aSkip ?_ | (first | apply aReg | apply aIf); simp -implicitDefEqProofs only [↓slp, ↓reduceIte, reduceCtorEq, jA, jB, jE, Yn, k4, k13, k12, k10, k9]; try simp only [fo] | apply hX; clear hX X))
  exact hloop _ _ _ _ rfl rfl rfl (.refl hf) (by rw [hre]; simp [k4, k13, k12, k10, k9]) (by omega)
set_option maxRecDepth 20000 in
set_option maxHeartbeats 1000000 in
theorem Reads_any (e : Ex) (m : M) (hok : e.okr = true) (hsz : e.size < 2 ^ 40) : ACalls Try.prog 12 [e.pv] m (fun v m' => v = .sl (.tok m.nt) ((e.reads true []).map pS) ∧ m' = m.fresh 1) := by
 refine ACalls.enter (mu := []) ok_mix Try.func12 rfl (by kernel_rfl) (by kernel_rfl) (by simp only [List.length_cons, List.length_nil, Try.ntmps12]; omega) ?_
 (repeat (first | refine aSeq fun X hX => ?_ | refine aReg ?_; simp -implicitDefEqProofs only [↓slp, ↓reduceIte, jA, jB, jE, Yn]; try simp only [fo] | apply hX; clear hX X))
 refine callE (reads_any true e .full [] m trivial hok (by simpa using hsz)) ?_
 simp -implicitDefEqProofs only [↓slp, ↓reduceIte, Yn]; try simp only [fo]
 (repeat (first | refine aRet ?_ | apply hX; clear hX X))
 simp only [aPost, Try.results12, aRes_n, aRes_t, aRes_c, pack_one, pack_two]
 exact leave_app (o0 := .full) (App.step (App.refl (o := .full) (m := m) trivial)) (strs_one _) ⟨rfl, rfl⟩

set_option maxRecDepth 20000 in
set_option maxHeartbeats 1000000 in
theorem All_any (e : Ex) (m : M) (hok : e.okr = true) (hsz : e.size < 2 ^ 40) : ACalls Try.prog 14 [e.pv] m (fun v m' => v = .sl (.tok m.nt) ((e.reads false []).map pS) ∧ m' = m.fresh 1) := by
 refine ACalls.enter (mu := []) ok_mix Try.func14 rfl (by kernel_rfl) (by kernel_rfl) (by simp only [List.length_cons, List.length_nil, Try.ntmps14]; omega) ?_
 (repeat (first | refine aSeq fun X hX => ?_ | refine aReg ?_; simp -implicitDefEqProofs only [↓slp, ↓reduceIte, jA, jB, jE, Yn]; try simp only [fo] | apply hX; clear hX X))
 refine callE (reads_any false e .full [] m trivial hok (by simpa using hsz)) ?_
 simp -implicitDefEqProofs only [↓slp, ↓reduceIte, Yn]; try simp only [fo]
 (repeat (first | refine aRet ?_ | apply hX; clear hX X))
 simp only [aPost, Try.results14, aRes_n, aRes_t, aRes_c, pack_one, pack_two]
 exact leave_app (o0 := .full) (App.step (App.refl (o := .full) (m := m) trivial)) (strs_one _) ⟨rfl, rfl⟩

abbrev sA9 : Str := ⟨#[97]⟩
abbrev sB9 : Str := ⟨#[98]⟩
abbrev sN9 : Str := ⟨#[]⟩
def exA : Ex := .mk 4 0 0 sA9 [] [] 0 0
def exI : Ex := .mk 1 0 0 sN9 [] [] 0 0
def exB0 : Ex := .mk 4 0 0 sB9 [] [] 0 0
def exB : Ex := .mk 9 0 0 sN9 [] [exI, exB0] 0 0
def exE : Ex := .mk 7 3 0 sN9 [] [exA, exB] 0 0
theorem exE_ok : exE.okr = true := by decide +kernel
theorem exE_size : exE.size = 5 := by decide +kernel
theorem exE_depth : exE.depth = 3 := by decide +kernel
theorem exE_reads : exE.reads true [] = [sA9] := by decide +kernel
theorem exE_all : exE.reads false [] = [sA9, sB9] := by decide +kernel

theorem cast1 : ((1 : Nat) : Int) = 1 := rfl
theorem cast2 : ((2 : Nat) : Int) = 2 := rfl
theorem cast3 : ((3 : Nat) : Int) = 3 := rfl
theorem cast5 : ((5 : Nat) : Int) = 5 := rfl
set_option maxRecDepth 20000 in
set_option maxHeartbeats 1000000 in
theorem awake_any (m : M) : ACalls Try.prog 8 [] m (fun v m' => v = pB true ∧ m' = m) := by
 refine ACalls.enter (mu := []) ok_mix Try.func8 rfl (by kernel_rfl) (by kernel_rfl) (by simp only [List.length_cons, List.length_nil, Try.ntmps8]; omega) ?_
 (repeat (first | refine aSeq fun X hX => ?_ | refine aReg ?_; simp -implicitDefEqProofs only [forall_eq, ↓slp, ↓reduceIte, jA, jB, jC, jD, jE, jF, Yn] | apply hX; clear hX X))
 refine callE (Reads_any exE m exE_ok (by rw [exE_size]; omega)) ?_
 rw [exE_reads]
 simp -implicitDefEqProofs only [↓slp, slb, ↓reduceIte]
 (repeat (first | refine aSeq fun X hX => ?_ | refine aReg ?_; simp -implicitDefEqProofs only [↓slp, ↓reduceIte, jA, jB, jE, Yn] | apply hX; clear hX X))
 refine callE (All_any exE _ exE_ok (by rw [exE_size]; omega)) ?_
 rw [exE_all]
 simp -implicitDefEqProofs only [↓slp, slb, ↓reduceIte]
 (repeat (first | refine aSeq fun X hX => ?_ | apply hX; clear hX X))
 refine aReg ?_
 simp -implicitDefEqProofs only [↓slp, ↓reduceIte, jA, jB, jE, jH, jJ, Yn, cast1, cast2]
 intro hlen
 refine callE (size_any 5 exE _ (by rw [exE_size]; omega) (by omega)) ?_
 rw [exE_size]
 simp -implicitDefEqProofs only [↓slp, ↓reduceIte, jA, jB, jE, Yn, pI, cast5]
 refine callE (depth_any 3 exE _ (by rw [exE_depth]; omega) (by omega)) ?_
 rw [exE_depth]
 simp -implicitDefEqProofs only [↓slp, slb, ↓reduceIte, jA, pI, cast3]
 (repeat (first | refine aRet ?_ | apply hX; clear hX X))
 simp only [aPost, Try.results8, aRes_n, aRes_t, aRes_c, pack_one, pack_two]
 refine leave_plain ?_ ?_ rfl ⟨rfl, rfl⟩
 ·show m.boxes.take m.boxes.length = m.boxes
  simp
 ·show ((m.toks ++ [some 1]) ++ [some 1]).take m.toks.length = m.toks
  simp
end Go.Proofs.Ytibhhoknipdlpaa
