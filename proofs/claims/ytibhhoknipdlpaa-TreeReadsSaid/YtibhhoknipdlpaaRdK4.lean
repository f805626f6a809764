/-
  Part 4 of what stands ahead of the law.
-/
import Derived.Test.YtibhhoknipdlpaaRdK3
/-
  The last values that an expression reads: by layer 4, and as the document has it.
-/
set_option linter.unusedVariables false
set_option linter.unusedSimpArgs false
namespace Go.Proofs.Ytibhhoknipdlpaa
open Go
set_option linter.defProp false
def tfAbRd3 := And.intro @td_3 (And.intro @zv_3 (And.intro @Try.underlying3 (And.intro @td_4 (And.intro @zv_4 (And.intro @Try.underlying4 (And.intro @td_5 (And.intro @zv_5 (And.intro @Try.underlying5 (And.intro @td_9 (And.intro @zv_9 (And.intro @Try.underlying9 (And.intro @td_21 (And.intro @zv_21 (And.intro @Try.underlying21 (And.intro @td_30 (And.intro @zv_30 (And.intro @tel_30 (And.intro @Try.underlying30 (And.intro @td_41 (And.intro @zv_41 (And.intro @tel_41 (And.intro @Try.underlying41 (And.intro @td_44 (And.intro @zv_44 (And.intro @tf_44 (And.intro @Ex.settle_pv (And.intro @Ex.pure_pv (And.intro @Ex.cells_pv (And.intro @Ex.cs.eq_1 (And.intro @On.pv.eq_1 (And.intro @Ty.pv.eq_1 (And.intro @Va.settle_pv (And.intro @Va.pure_pv (And.intro @Va.cells_pv @Va.cs.eq_1))))))))))))))))))))))))))))))))))
-- TYPES: 3 4 5 9 21 30 41 44

mutual
def Ex.lasts (out : List Str) : Ex → List Str
  | .mk k _ _ nm _ kids _ _ => Ex.lastsL (if k == 5 then addS out nm else out) kids
def Ex.lastsL (out : List Str) : List Ex → List Str
  | [] => out
  | e :: l => Ex.lastsL (Ex.lasts out e) l
end
theorem Ex.lasts_eq (out : List Str) (e : Ex) : e.lasts out = Ex.lastsL (if e.kind == 5 then addS out e.name else out) e.kids := by cases e; rfl
theorem lastsL_drop (out : List Str) (l : List Ex) (k : Nat) (h : k < l.length) : Ex.lastsL out (l.drop k) = Ex.lastsL (l[k].lasts out) (l.drop (k + 1)) := by
  rw [List.drop_eq_getElem_cons h, Ex.lastsL]
mutual
theorem lasts_len (out : List Str) : ∀ e : Ex, (e.lasts out).length ≤ out.length + e.size
  | .mk k o n nm ns kids x y => by
    have h1 := lastsL_len out kids
    have h2 := lastsL_len (addS out nm) kids
    have h3 := addS_len out nm
    simp only [Ex.lasts, Ex.size]
    split <;> omega
theorem lastsL_len (out : List Str) : ∀ l : List Ex, (Ex.lastsL out l).length ≤ out.length + Ex.sizes l
  | [] => by simp [Ex.lastsL, Ex.sizes]
  | e :: l => by
    have h1 := lasts_len out e
    have h2 := lastsL_len (e.lasts out) l
    simp only [Ex.lastsL, Ex.sizes]
    omega
end
set_option maxRecDepth 20000 in
set_option maxHeartbeats 2000000 in
theorem rLasts_any (e : Ex) : ∀ (l : List Str) (m : M), l.length + e.size < 2 ^ 40 → ACalls Try.prog 16 [.sl .no (l.map pS), e.pv] m (fun v m' => v = .sl .no ((e.lasts l).map pS) ∧ m' = m) := by
  refine Ex.ind (motive := fun e => ∀ (l : List Str) (m : M), l.length + e.size < 2 ^ 40 → ACalls Try.prog 16 [.sl .no (l.map pS), e.pv] m (fun v m' => v = .sl .no ((e.lasts l).map pS) ∧ m' = m)) (fun e IH => ?_) e
  intro l m hsz
  have hre := e.lasts_eq l
  rw [e.size_eq] at hsz
  refine ACalls.enter (mu := []) ok_mix Try.func16 rfl (by kernel_rfl) (by kernel_rfl) (by simp only [List.length_cons, List.length_nil, Try.ntmps16]; omega) ?_
  refine aSeq (fun X hX => ?_)
  refine aReg ?_; simp -implicitDefEqProofs only [↓slp, slb, ↓reduceIte, reduceCtorEq, Nat.reduceEqDiff, Nat.reduceAdd, Nat.reduceMul, Nat.reduceLT, Nat.reduceLeDiff, Nat.reduceBEq, Nat.reduceBNe, Int.reduceLE, Int.reduceLT, Int.reduceToNat, Int.reduceEq, tfAbRd3]
  refine hX _ _ ?_; clear hX X
  refine aSeq (fun X hX => ?_)
  have hloop : ∀ (f : F) (l1 : List Str), f 0 = .sl .no (l1.map pS) → f 3 = .ep e.cs → l1 = (if e.kind == 5 then addS l e.name else l) → X f m := by
    intro f l1 h0 h3 hl1
    refine hX _ _ ?_
    clear hX X
    have hl1b : l1.length + Ex.sizes e.kids < 2 ^ 40 := by
      have := addS_len l e.name
      rw [hl1]; split <;> omega
    rw [← hl1] at hre
    (repeat (first | (refine aSeq (fun X hX => ?_)) | (refine aBlk ?_) | (refine aSkip ?_) | ((first | refine aReg ?_ | refine aDrw (fun m2 => m2 = _) (by kernel_rfl) rfl ?_); simp -implicitDefEqProofs only [forall_eq, ↓slp, slb, ↓reduceIte, reduceCtorEq, Nat.reduceEqDiff, Nat.reduceAdd, Nat.reduceMul, Nat.reduceLT, Nat.reduceLeDiff, Nat.reduceBEq, Nat.reduceBNe, Int.reduceLE, Int.reduceLT, Int.reduceToNat, Int.reduceEq, tfAbRd3, h0, h3]; try simp only [Ex.fold, Ex.foldcs, ← Va.pv.eq_1]) | (refine aExit ?_; simp only [slx, ↓reduceIte, Nat.reduceEqDiff, reduceCtorEq]) | (refine aRet ?_; try simp only [slx, ↓reduceIte, Nat.reduceEqDiff, reduceCtorEq]) | (refine hX _ _ ?_; clear hX X) | (clear hX X; refine hX _ _ ?_; clear hX X) | (clear hX X; clear hX X; refine hX _ _ ?_; clear hX X) | (intro hlen; unfold maxLen at hlen) | (apply And.intro; (focus (first | omega | assumption | (repeat' apply And.intro) <;> first | omega | assumption)))))
    obtain ⟨I, hI⟩ : ∃ I : F → M → Prop, ∀ f m', I f m' = (∃ (k : Nat) (lk : List Str), k ≤ e.kids.length ∧ f 0 = .sl .no (lk.map pS) ∧ f 3 = .ep e.cs ∧ f 5 = pI k ∧ m' = m ∧ Ex.lastsL lk (e.kids.drop k) = e.lasts l ∧ lk.length + Ex.sizes (e.kids.drop k) < 2 ^ 40) := ⟨_, fun _ _ => rfl⟩
    refine aLoop I (fun f m => e.kids.length - numOf (f 5)) ?_ ?_
    · rw [hI]; exact ⟨0, l1, by omega, h0, h3, rfl, rfl, hre.symm, hl1b⟩
    intro f m' hrel
    rw [hI] at hrel
    clear h0 h3
    obtain ⟨k, lk, hk, h0, h3, h5, rfl, hr, hb1⟩ := hrel
    (repeat (first | (refine aSeq (fun X hX => ?_)) | (refine aBlk ?_) | (refine aSkip ?_) | ((first | refine aReg ?_ | refine aDrw (fun m2 => m2 = _) (by kernel_rfl) rfl ?_); simp -implicitDefEqProofs only [forall_eq, ↓slp, slb, ↓reduceIte, reduceCtorEq, Nat.reduceEqDiff, Nat.reduceAdd, Nat.reduceMul, Nat.reduceLT, Nat.reduceLeDiff, Nat.reduceBEq, Nat.reduceBNe, Int.reduceLE, Int.reduceLT, Int.reduceToNat, Int.reduceEq, tfAbRd3, h0, h3, h5, pI, Ex.cs]; try simp only [Ex.fold, Ex.foldcs, ← Va.pv.eq_1]) | (refine aExit ?_; simp only [slx, ↓reduceIte, Nat.reduceEqDiff, reduceCtorEq]) | (refine aRet ?_; try simp only [slx, ↓reduceIte, Nat.reduceEqDiff, reduceCtorEq]) | (refine hX _ _ ?_; clear hX X) | (clear hX X; refine hX _ _ ?_; clear hX X) | (clear hX X; clear hX X; refine hX _ _ ?_; clear hX X) | (intro hlen; unfold maxLen at hlen) | (apply And.intro; (focus (first | omega | assumption | (repeat' apply And.intro) <;> first | omega | assumption)))))
    refine aIf ?_; simp -implicitDefEqProofs only [↓slp, slb, ↓reduceIte, reduceCtorEq, Nat.reduceEqDiff, Nat.reduceAdd, Nat.reduceMul, Nat.reduceLT, Nat.reduceLeDiff, Nat.reduceBEq, Nat.reduceBNe, Int.reduceLE, Int.reduceLT, Int.reduceToNat, Int.reduceEq]; refine ⟨fun hb => ?_, fun hb => ?_⟩
    · have hlt : k < e.kids.length := by simpa using hb
      have g0 := getD_map Ex.pv e.kids k hlt
      have hi : IntKind.i64.wrap ((k : Int) + 1) = ((k + 1 : Nat) : Int) := by rw [wrap64 (by omega)]; omega
      have hd := lastsL_drop lk e.kids k hlt
      have hs : Ex.sizes (e.kids.drop k) = e.kids[k].size + Ex.sizes (e.kids.drop (k + 1)) := by rw [List.drop_eq_getElem_cons hlt, Ex.sizes]
      have hrl := lasts_len lk e.kids[k]
      have hmu : numOf (f 5) = k := by rw [h5]; rfl
      (repeat (first | (refine aSeq (fun X hX => ?_)) | (refine aBlk ?_) | (refine aSkip ?_) | ((first | refine aReg ?_ | refine aDrw (fun m2 => m2 = _) (by kernel_rfl) rfl ?_); simp -implicitDefEqProofs only [forall_eq, ↓slp, slb, ↓reduceIte, reduceCtorEq, Nat.reduceEqDiff, Nat.reduceAdd, Nat.reduceMul, Nat.reduceLT, Nat.reduceLeDiff, Nat.reduceBEq, Nat.reduceBNe, Int.reduceLE, Int.reduceLT, Int.reduceToNat, Int.reduceEq, tfAbRd3, h0, h3, h5, pI, g0, Ex.cs]; try simp only [Ex.fold, Ex.foldcs, ← Va.pv.eq_1]) | (refine aIf ?_; simp -implicitDefEqProofs only [↓slp, slb, ↓reduceIte, reduceCtorEq, Nat.reduceEqDiff, Nat.reduceAdd, Nat.reduceMul, Nat.reduceLT, Nat.reduceLeDiff, Nat.reduceBEq, Nat.reduceBNe, Int.reduceLE, Int.reduceLT, Int.reduceToNat, Int.reduceEq, h0, h3, h5, pI, g0, Ex.cs]) | (refine aExit ?_; simp only [slx, ↓reduceIte, Nat.reduceEqDiff, reduceCtorEq]) | (refine aRet ?_; try simp only [slx, ↓reduceIte, Nat.reduceEqDiff, reduceCtorEq]) | (refine hX _ _ ?_; clear hX X) | (clear hX X; refine hX _ _ ?_; clear hX X) | (clear hX X; clear hX X; refine hX _ _ ?_; clear hX X) | (intro hlen; unfold maxLen at hlen) | (apply And.intro; (focus (first | omega | assumption | (repeat' apply And.intro) <;> first | omega | assumption)))))
      refine callM (IH k hlt lk _ (by omega)) ?_
      rintro v m' ⟨rfl, rfl⟩
      simp -implicitDefEqProofs only [↓slp, slb, ↓reduceIte, reduceCtorEq, Nat.reduceEqDiff, Nat.reduceAdd, Nat.reduceMul, Nat.reduceLT, Nat.reduceLeDiff, Nat.reduceBEq, Nat.reduceBNe, Int.reduceLE, Int.reduceLT, Int.reduceToNat, Int.reduceEq, tfAbRd3, h0, h3, h5, pI, g0, Ex.cs]; try simp only [Ex.fold, Ex.foldcs, ← Va.pv.eq_1]
      (repeat (first | (refine aSeq (fun X hX => ?_)) | (refine aBlk ?_) | (refine aSkip ?_) | ((first | refine aReg ?_ | refine aDrw (fun m2 => m2 = _) (by kernel_rfl) rfl ?_); simp -implicitDefEqProofs only [forall_eq, ↓slp, slb, ↓reduceIte, reduceCtorEq, Nat.reduceEqDiff, Nat.reduceAdd, Nat.reduceMul, Nat.reduceLT, Nat.reduceLeDiff, Nat.reduceBEq, Nat.reduceBNe, Int.reduceLE, Int.reduceLT, Int.reduceToNat, Int.reduceEq, tfAbRd3, h0, h3, h5, pI, hi, Ex.cs]; try simp only [Ex.fold, Ex.foldcs, ← Va.pv.eq_1]) | (refine aIf ?_; simp -implicitDefEqProofs only [↓slp, slb, ↓reduceIte, reduceCtorEq, Nat.reduceEqDiff, Nat.reduceAdd, Nat.reduceMul, Nat.reduceLT, Nat.reduceLeDiff, Nat.reduceBEq, Nat.reduceBNe, Int.reduceLE, Int.reduceLT, Int.reduceToNat, Int.reduceEq, h0, h3, h5, pI, hi, Ex.cs]) | (refine aExit ?_; simp only [slx, ↓reduceIte, Nat.reduceEqDiff, reduceCtorEq]) | (refine aRet ?_; try simp only [slx, ↓reduceIte, Nat.reduceEqDiff, reduceCtorEq]) | (refine hX _ _ ?_; clear hX X) | (clear hX X; refine hX _ _ ?_; clear hX X) | (clear hX X; clear hX X; refine hX _ _ ?_; clear hX X) | (intro hlen; unfold maxLen at hlen) | (apply And.intro; (focus (first | omega | assumption | (repeat' apply And.intro) <;> first | omega | assumption)))))
      rw [hI]
      exact ⟨⟨k + 1, _, hlt, rfl, h3, rfl, rfl, by rw [← hr, hd], by omega⟩, by omega⟩
    · have hlt : k = e.kids.length := by simp at hb; omega
      subst hlt
      rw [List.drop_length] at hr hb1
      simp only [Ex.lastsL] at hr
      (repeat (first | (refine aSeq (fun X hX => ?_)) | (refine aBlk ?_) | (refine aSkip ?_) | ((first | refine aReg ?_ | refine aDrw (fun m2 => m2 = _) (by kernel_rfl) rfl ?_); simp -implicitDefEqProofs only [forall_eq, ↓slp, slb, ↓reduceIte, reduceCtorEq, Nat.reduceEqDiff, Nat.reduceAdd, Nat.reduceMul, Nat.reduceLT, Nat.reduceLeDiff, Nat.reduceBEq, Nat.reduceBNe, Int.reduceLE, Int.reduceLT, Int.reduceToNat, Int.reduceEq, tfAbRd3, h0, h3, h5, pI, Ex.cs]; try simp only [Ex.fold, Ex.foldcs, ← Va.pv.eq_1]) | (refine aIf ?_; simp -implicitDefEqProofs only [↓slp, slb, ↓reduceIte, reduceCtorEq, Nat.reduceEqDiff, Nat.reduceAdd, Nat.reduceMul, Nat.reduceLT, Nat.reduceLeDiff, Nat.reduceBEq, Nat.reduceBNe, Int.reduceLE, Int.reduceLT, Int.reduceToNat, Int.reduceEq, h0, h3, h5, pI, Ex.cs]) | (refine aExit ?_; simp only [slx, ↓reduceIte, Nat.reduceEqDiff, reduceCtorEq]) | (refine aRet ?_; try simp only [slx, ↓reduceIte, Nat.reduceEqDiff, reduceCtorEq]) | (refine hX _ _ ?_; clear hX X) | (clear hX X; refine hX _ _ ?_; clear hX X) | (clear hX X; clear hX X; refine hX _ _ ?_; clear hX X) | (intro hlen; unfold maxLen at hlen) | (apply And.intro; (focus (first | omega | assumption | (repeat' apply And.intro) <;> first | omega | assumption)))))
      simp only [aPost, Try.results16, aRes_n, aRes_t, aRes_c, pack_one, pack_two]
      exact leave_same rfl ⟨by rw [← hr]; rfl, rfl⟩
  clear hX
  cases k5 : (e.kind == 5) with
  | true =>
    (repeat (first | (refine aSeq (fun X hX => ?_)) | (refine aBlk ?_) | (refine aSkip ?_) | ((first | refine aReg ?_ | refine aDrw (fun m2 => m2 = _) (by kernel_rfl) rfl ?_); simp -implicitDefEqProofs only [forall_eq, ↓slp, slb, ↓reduceIte, reduceCtorEq, Nat.reduceEqDiff, Nat.reduceAdd, Nat.reduceMul, Nat.reduceLT, Nat.reduceLeDiff, Nat.reduceBEq, Nat.reduceBNe, Int.reduceLE, Int.reduceLT, Int.reduceToNat, Int.reduceEq, tfAbRd3, k5]; try simp only [Ex.fold, Ex.foldcs, ← Va.pv.eq_1]) | (refine aIf ?_; simp -implicitDefEqProofs only [↓slp, slb, ↓reduceIte, reduceCtorEq, Nat.reduceEqDiff, Nat.reduceAdd, Nat.reduceMul, Nat.reduceLT, Nat.reduceLeDiff, Nat.reduceBEq, Nat.reduceBNe, Int.reduceLE, Int.reduceLT, Int.reduceToNat, Int.reduceEq, k5]) | (refine aExit ?_; simp only [slx, ↓reduceIte, Nat.reduceEqDiff, reduceCtorEq]) | (refine aRet ?_; try simp only [slx, ↓reduceIte, Nat.reduceEqDiff, reduceCtorEq]) | (refine hX _ _ ?_; clear hX X) | (clear hX X; refine hX _ _ ?_; clear hX X) | (clear hX X; clear hX X; refine hX _ _ ?_; clear hX X) | (intro hlen; unfold maxLen at hlen) | (apply And.intro; (focus (first | omega | assumption | (repeat' apply And.intro) <;> first | omega | assumption)))))
    refine callM (rAdd_any l e.name m (by omega)) ?_
    rintro v m' ⟨rfl, rfl⟩
    simp -implicitDefEqProofs only [↓slp, slb, ↓reduceIte, reduceCtorEq, Nat.reduceEqDiff, Nat.reduceAdd, Nat.reduceMul, Nat.reduceLT, Nat.reduceLeDiff, Nat.reduceBEq, Nat.reduceBNe, Int.reduceLE, Int.reduceLT, Int.reduceToNat, Int.reduceEq, tfAbRd3]; try simp only [Ex.fold, Ex.foldcs, ← Va.pv.eq_1]
    (repeat (first | (refine aSeq (fun X hX => ?_)) | (refine aBlk ?_) | (refine aSkip ?_) | ((first | refine aReg ?_ | refine aDrw (fun m2 => m2 = _) (by kernel_rfl) rfl ?_); simp -implicitDefEqProofs only [forall_eq, ↓slp, slb, ↓reduceIte, reduceCtorEq, Nat.reduceEqDiff, Nat.reduceAdd, Nat.reduceMul, Nat.reduceLT, Nat.reduceLeDiff, Nat.reduceBEq, Nat.reduceBNe, Int.reduceLE, Int.reduceLT, Int.reduceToNat, Int.reduceEq, tfAbRd3]; try simp only [Ex.fold, Ex.foldcs, ← Va.pv.eq_1]) | (refine aIf ?_; simp -implicitDefEqProofs only [↓slp, slb, ↓reduceIte, reduceCtorEq, Nat.reduceEqDiff, Nat.reduceAdd, Nat.reduceMul, Nat.reduceLT, Nat.reduceLeDiff, Nat.reduceBEq, Nat.reduceBNe, Int.reduceLE, Int.reduceLT, Int.reduceToNat, Int.reduceEq]) | (refine aExit ?_; simp only [slx, ↓reduceIte, Nat.reduceEqDiff, reduceCtorEq]) | (refine aRet ?_; try simp only [slx, ↓reduceIte, Nat.reduceEqDiff, reduceCtorEq]) | (refine hX _ _ ?_; clear hX X) | (clear hX X; refine hX _ _ ?_; clear hX X) | (clear hX X; clear hX X; refine hX _ _ ?_; clear hX X) | (intro hlen; unfold maxLen at hlen) | (apply And.intro; (focus (first | omega | assumption | (repeat' apply And.intro) <;> first | omega | assumption)))))
    exact hloop _ _ rfl rfl (by rw [k5]; rfl)
  | false =>
    (repeat (first | (refine aSeq (fun X hX => ?_)) | (refine aBlk ?_) | (refine aSkip ?_) | ((first | refine aReg ?_ | refine aDrw (fun m2 => m2 = _) (by kernel_rfl) rfl ?_); simp -implicitDefEqProofs only [forall_eq, ↓slp, slb, ↓reduceIte, reduceCtorEq, Nat.reduceEqDiff, Nat.reduceAdd, Nat.reduceMul, Nat.reduceLT, Nat.reduceLeDiff, Nat.reduceBEq, Nat.reduceBNe, Int.reduceLE, Int.reduceLT, Int.reduceToNat, Int.reduceEq, tfAbRd3, k5]; try simp only [Ex.fold, Ex.foldcs, ← Va.pv.eq_1]) | (refine aIf ?_; simp -implicitDefEqProofs only [↓slp, slb, ↓reduceIte, reduceCtorEq, Nat.reduceEqDiff, Nat.reduceAdd, Nat.reduceMul, Nat.reduceLT, Nat.reduceLeDiff, Nat.reduceBEq, Nat.reduceBNe, Int.reduceLE, Int.reduceLT, Int.reduceToNat, Int.reduceEq, k5]) | (refine aExit ?_; simp only [slx, ↓reduceIte, Nat.reduceEqDiff, reduceCtorEq]) | (refine aRet ?_; try simp only [slx, ↓reduceIte, Nat.reduceEqDiff, reduceCtorEq]) | (refine hX _ _ ?_; clear hX X) | (clear hX X; refine hX _ _ ?_; clear hX X) | (clear hX X; clear hX X; refine hX _ _ ?_; clear hX X) | (intro hlen; unfold maxLen at hlen) | (apply And.intro; (focus (first | omega | assumption | (repeat' apply And.intro) <;> first | omega | assumption)))))
    exact hloop _ _ rfl rfl (by rw [k5]; rfl)

set_option maxRecDepth 20000 in
set_option maxHeartbeats 2000000 in
theorem tlasts_any (e : Ex) : ∀ (o : Own) (l : List Str) (m : M), o.free m 1 → l.length + e.size < 2 ^ 40 → ACalls Try.prog 58 [.sl o (l.map pS), e.pv] m (fun v m' => v = .sl (.tok m.nt) ((e.lasts l).map pS) ∧ m' = (o.use m).fresh 1) := by
  refine Ex.ind (motive := fun e => ∀ (o : Own) (l : List Str) (m : M), o.free m 1 → l.length + e.size < 2 ^ 40 → ACalls Try.prog 58 [.sl o (l.map pS), e.pv] m (fun v m' => v = .sl (.tok m.nt) ((e.lasts l).map pS) ∧ m' = (o.use m).fresh 1)) (fun e IH => ?_) e
  intro o l m hf hsz
  have hre := e.lasts_eq l
  rw [e.size_eq] at hsz
  refine ACalls.enter (mu := []) ok_mix Try.func58 rfl (by kernel_rfl) (by kernel_rfl) (by simp only [List.length_cons, List.length_nil, Try.ntmps58]; omega) ?_
  refine aSeq (fun X hX => ?_)
  refine aReg ?_; simp -implicitDefEqProofs only [↓slp, slb, ↓reduceIte, reduceCtorEq, Nat.reduceEqDiff, Nat.reduceAdd, Nat.reduceMul, Nat.reduceLT, Nat.reduceLeDiff, Nat.reduceBEq, Nat.reduceBNe, Int.reduceLE, Int.reduceLT, Int.reduceToNat, Int.reduceEq, tfAbRd3]
  refine hX _ _ ?_; clear hX X
  refine aSeq (fun X hX => ?_)
  have hloop : ∀ (f : F) (m1 : M) (o1 : Own) (l1 : List Str), f 0 = .sl o1 (l1.map pS) → f 3 = .ep e.cs → App m o 1 m1 o1 → Ex.lastsL l1 e.kids = e.lasts l → l1.length + Ex.sizes e.kids < 2 ^ 40 → X f m1 := by
    intro f m1 o1 l1 h0 h3 happ hr hb1
    refine hX _ _ ?_
    clear hX X
    (repeat (first | (refine aSeq (fun X hX => ?_)) | (refine aBlk ?_) | (refine aSkip ?_) | ((first | refine aReg ?_ | refine aDrw (fun m2 => m2 = _) (by kernel_rfl) rfl ?_); simp -implicitDefEqProofs only [forall_eq, ↓slp, slb, ↓reduceIte, reduceCtorEq, Nat.reduceEqDiff, Nat.reduceAdd, Nat.reduceMul, Nat.reduceLT, Nat.reduceLeDiff, Nat.reduceBEq, Nat.reduceBNe, Int.reduceLE, Int.reduceLT, Int.reduceToNat, Int.reduceEq, tfAbRd3, h0, h3]; try simp only [Ex.fold, Ex.foldcs, ← Va.pv.eq_1]) | (refine aExit ?_; simp only [slx, ↓reduceIte, Nat.reduceEqDiff, reduceCtorEq]) | (refine aRet ?_; try simp only [slx, ↓reduceIte, Nat.reduceEqDiff, reduceCtorEq]) | (refine hX _ _ ?_; clear hX X) | (clear hX X; refine hX _ _ ?_; clear hX X) | (clear hX X; clear hX X; refine hX _ _ ?_; clear hX X) | (intro hlen; unfold maxLen at hlen) | (apply And.intro; (focus (first | omega | assumption | (repeat' apply And.intro) <;> first | omega | assumption)))))
    obtain ⟨I, hI⟩ : ∃ I : F → M → Prop, ∀ f m', I f m' = (∃ (k : Nat) (ok : Own) (lk : List Str), k ≤ e.kids.length ∧ f 0 = .sl ok (lk.map pS) ∧ f 15 = .sl .no (e.kids.map Ex.pv) ∧ f 16 = pI e.kids.length ∧ f 17 = pI k ∧ App m o 1 m' ok ∧ Ex.lastsL lk (e.kids.drop k) = e.lasts l ∧ lk.length + Ex.sizes (e.kids.drop k) < 2 ^ 40) := ⟨_, fun _ _ => rfl⟩
    refine aLoop I (fun f m => e.kids.length - numOf (f 17)) ?_ ?_
    · rw [hI]; exact ⟨0, o1, l1, by omega, h0, rfl, rfl, rfl, happ, hr, hb1⟩
    intro f m' hrel
    rw [hI] at hrel
    obtain ⟨k, ok, lk, hk, h0, h46, h47, h48, happ, hr, hb1⟩ := hrel
    (repeat (first | (refine aSeq (fun X hX => ?_)) | (refine aBlk ?_) | (refine aSkip ?_) | ((first | refine aReg ?_ | refine aDrw (fun m2 => m2 = _) (by kernel_rfl) rfl ?_); simp -implicitDefEqProofs only [forall_eq, ↓slp, slb, ↓reduceIte, reduceCtorEq, Nat.reduceEqDiff, Nat.reduceAdd, Nat.reduceMul, Nat.reduceLT, Nat.reduceLeDiff, Nat.reduceBEq, Nat.reduceBNe, Int.reduceLE, Int.reduceLT, Int.reduceToNat, Int.reduceEq, tfAbRd3, h0, h46, h47, h48, pI]; try simp only [Ex.fold, Ex.foldcs, ← Va.pv.eq_1]) | (refine aExit ?_; simp only [slx, ↓reduceIte, Nat.reduceEqDiff, reduceCtorEq]) | (refine aRet ?_; try simp only [slx, ↓reduceIte, Nat.reduceEqDiff, reduceCtorEq]) | (refine hX _ _ ?_; clear hX X) | (clear hX X; refine hX _ _ ?_; clear hX X) | (clear hX X; clear hX X; refine hX _ _ ?_; clear hX X) | (intro hlen; unfold maxLen at hlen) | (apply And.intro; (focus (first | omega | assumption | (repeat' apply And.intro) <;> first | omega | assumption)))))
    refine aIf ?_; simp -implicitDefEqProofs only [↓slp, slb, ↓reduceIte, reduceCtorEq, Nat.reduceEqDiff, Nat.reduceAdd, Nat.reduceMul, Nat.reduceLT, Nat.reduceLeDiff, Nat.reduceBEq, Nat.reduceBNe, Int.reduceLE, Int.reduceLT, Int.reduceToNat, Int.reduceEq]; refine ⟨fun hb => ?_, fun hb => ?_⟩
    · have hlt : k < e.kids.length := by simpa using hb
      have g0 := getD_map Ex.pv e.kids k hlt
      have hi : IntKind.i64.wrap ((k : Int) + 1) = ((k + 1 : Nat) : Int) := by rw [wrap64 (by omega)]; omega
      have hd := lastsL_drop lk e.kids k hlt
      have hs : Ex.sizes (e.kids.drop k) = e.kids[k].size + Ex.sizes (e.kids.drop (k + 1)) := by rw [List.drop_eq_getElem_cons hlt, Ex.sizes]
      have hrl := lasts_len lk e.kids[k]
      have hmu : numOf (f 17) = k := by rw [h48]; rfl
      (repeat (first | (refine aSeq (fun X hX => ?_)) | (refine aBlk ?_) | (refine aSkip ?_) | ((first | refine aReg ?_ | refine aDrw (fun m2 => m2 = _) (by kernel_rfl) rfl ?_); simp -implicitDefEqProofs only [forall_eq, ↓slp, slb, ↓reduceIte, reduceCtorEq, Nat.reduceEqDiff, Nat.reduceAdd, Nat.reduceMul, Nat.reduceLT, Nat.reduceLeDiff, Nat.reduceBEq, Nat.reduceBNe, Int.reduceLE, Int.reduceLT, Int.reduceToNat, Int.reduceEq, tfAbRd3, h0, h46, h47, h48, pI, g0]; try simp only [Ex.fold, Ex.foldcs, ← Va.pv.eq_1]) | (refine aExit ?_; simp only [slx, ↓reduceIte, Nat.reduceEqDiff, reduceCtorEq]) | (refine aRet ?_; try simp only [slx, ↓reduceIte, Nat.reduceEqDiff, reduceCtorEq]) | (refine hX _ _ ?_; clear hX X) | (clear hX X; refine hX _ _ ?_; clear hX X) | (clear hX X; clear hX X; refine hX _ _ ?_; clear hX X) | (intro hlen; unfold maxLen at hlen) | (apply And.intro; (focus (first | omega | assumption | (repeat' apply And.intro) <;> first | omega | assumption)))))
      refine callE (IH k hlt ok lk m' happ.free (by omega)) ?_
      simp -implicitDefEqProofs only [↓slp, slb, ↓reduceIte, reduceCtorEq, Nat.reduceEqDiff, Nat.reduceAdd, Nat.reduceMul, Nat.reduceLT, Nat.reduceLeDiff, Nat.reduceBEq, Nat.reduceBNe, Int.reduceLE, Int.reduceLT, Int.reduceToNat, Int.reduceEq, tfAbRd3, h0, h46, h47, h48, pI, g0]; try simp only [Ex.fold, Ex.foldcs, ← Va.pv.eq_1]
      (repeat (first | (refine aSeq (fun X hX => ?_)) | (refine aBlk ?_) | (refine aSkip ?_) | ((first | refine aReg ?_ | refine aDrw (fun m2 => m2 = _) (by kernel_rfl) rfl ?_); simp -implicitDefEqProofs only [forall_eq, ↓slp, slb, ↓reduceIte, reduceCtorEq, Nat.reduceEqDiff, Nat.reduceAdd, Nat.reduceMul, Nat.reduceLT, Nat.reduceLeDiff, Nat.reduceBEq, Nat.reduceBNe, Int.reduceLE, Int.reduceLT, Int.reduceToNat, Int.reduceEq, tfAbRd3, h0, h46, h47, h48, pI, hi]; try simp only [Ex.fold, Ex.foldcs, ← Va.pv.eq_1]) | (refine aExit ?_; simp only [slx, ↓reduceIte, Nat.reduceEqDiff, reduceCtorEq]) | (refine aRet ?_; try simp only [slx, ↓reduceIte, Nat.reduceEqDiff, reduceCtorEq]) | (refine hX _ _ ?_; clear hX X) | (clear hX X; refine hX _ _ ?_; clear hX X) | (clear hX X; clear hX X; refine hX _ _ ?_; clear hX X) | (intro hlen; unfold maxLen at hlen) | (apply And.intro; (focus (first | omega | assumption | (repeat' apply And.intro) <;> first | omega | assumption)))))
      rw [hI]
      exact ⟨⟨k + 1, _, _, hlt, rfl, h46, h47, rfl, App.step happ, by rw [← hr, hd], by omega⟩, by omega⟩
    · have hlt : k = e.kids.length := by simp at hb; omega
      subst hlt
      (repeat (first | (refine aSeq (fun X hX => ?_)) | (refine aBlk ?_) | (refine aSkip ?_) | ((first | refine aReg ?_ | refine aDrw (fun m2 => m2 = _) (by kernel_rfl) rfl ?_); simp -implicitDefEqProofs only [forall_eq, ↓slp, slb, ↓reduceIte, reduceCtorEq, Nat.reduceEqDiff, Nat.reduceAdd, Nat.reduceMul, Nat.reduceLT, Nat.reduceLeDiff, Nat.reduceBEq, Nat.reduceBNe, Int.reduceLE, Int.reduceLT, Int.reduceToNat, Int.reduceEq, tfAbRd3, h0]; try simp only [Ex.fold, Ex.foldcs, ← Va.pv.eq_1]) | (refine aExit ?_; simp only [slx, ↓reduceIte, Nat.reduceEqDiff, reduceCtorEq]) | (refine aRet ?_; try simp only [slx, ↓reduceIte, Nat.reduceEqDiff, reduceCtorEq]) | (refine hX _ _ ?_; clear hX X) | (clear hX X; refine hX _ _ ?_; clear hX X) | (clear hX X; clear hX X; refine hX _ _ ?_; clear hX X) | (intro hlen; unfold maxLen at hlen) | (apply And.intro; (focus (first | omega | assumption | (repeat' apply And.intro) <;> first | omega | assumption)))))
      simp only [aPost, Try.results58, aRes_n, aRes_t, aRes_c, pack_one, pack_two]
      have hv : e.lasts l = lk := by rw [← hr, List.drop_length]; rfl
      rw [hv]
      exact leave_app (o := ok) (o0 := o) (xs := lk.map pS) happ (strs_one _) ⟨rfl, rfl⟩
  clear hX
  cases k5 : (e.kind == 5) with
  | true =>
    (repeat (first | (refine aSeq (fun X hX => ?_)) | (refine aBlk ?_) | (refine aSkip ?_) | ((first | refine aReg ?_ | refine aDrw (fun m2 => m2 = _) (by kernel_rfl) rfl ?_); simp -implicitDefEqProofs only [forall_eq, ↓slp, slb, ↓reduceIte, reduceCtorEq, Nat.reduceEqDiff, Nat.reduceAdd, Nat.reduceMul, Nat.reduceLT, Nat.reduceLeDiff, Nat.reduceBEq, Nat.reduceBNe, Int.reduceLE, Int.reduceLT, Int.reduceToNat, Int.reduceEq, tfAbRd3, k5]; try simp only [Ex.fold, Ex.foldcs, ← Va.pv.eq_1]) | (refine aIf ?_; simp -implicitDefEqProofs only [↓slp, slb, ↓reduceIte, reduceCtorEq, Nat.reduceEqDiff, Nat.reduceAdd, Nat.reduceMul, Nat.reduceLT, Nat.reduceLeDiff, Nat.reduceBEq, Nat.reduceBNe, Int.reduceLE, Int.reduceLT, Int.reduceToNat, Int.reduceEq, k5]) | (refine aExit ?_; simp only [slx, ↓reduceIte, Nat.reduceEqDiff, reduceCtorEq]) | (refine aRet ?_; try simp only [slx, ↓reduceIte, Nat.reduceEqDiff, reduceCtorEq]) | (refine hX _ _ ?_; clear hX X) | (clear hX X; refine hX _ _ ?_; clear hX X) | (clear hX X; clear hX X; refine hX _ _ ?_; clear hX X) | (intro hlen; unfold maxLen at hlen) | (apply And.intro; (focus (first | omega | assumption | (repeat' apply And.intro) <;> first | omega | assumption)))))
    refine callE (add_any o l e.name m hf (by omega)) ?_
    simp -implicitDefEqProofs only [↓slp, slb, ↓reduceIte, reduceCtorEq, Nat.reduceEqDiff, Nat.reduceAdd, Nat.reduceMul, Nat.reduceLT, Nat.reduceLeDiff, Nat.reduceBEq, Nat.reduceBNe, Int.reduceLE, Int.reduceLT, Int.reduceToNat, Int.reduceEq, tfAbRd3, k5]; try simp only [Ex.fold, Ex.foldcs, ← Va.pv.eq_1]
    (repeat (first | (refine aSeq (fun X hX => ?_)) | (refine aBlk ?_) | (refine aSkip ?_) | ((first | refine aReg ?_ | refine aDrw (fun m2 => m2 = _) (by kernel_rfl) rfl ?_); simp -implicitDefEqProofs only [forall_eq, ↓slp, slb, ↓reduceIte, reduceCtorEq, Nat.reduceEqDiff, Nat.reduceAdd, Nat.reduceMul, Nat.reduceLT, Nat.reduceLeDiff, Nat.reduceBEq, Nat.reduceBNe, Int.reduceLE, Int.reduceLT, Int.reduceToNat, Int.reduceEq, tfAbRd3]; try simp only [Ex.fold, Ex.foldcs, ← Va.pv.eq_1]) | (refine aIf ?_; simp -implicitDefEqProofs only [↓slp, slb, ↓reduceIte, reduceCtorEq, Nat.reduceEqDiff, Nat.reduceAdd, Nat.reduceMul, Nat.reduceLT, Nat.reduceLeDiff, Nat.reduceBEq, Nat.reduceBNe, Int.reduceLE, Int.reduceLT, Int.reduceToNat, Int.reduceEq]) | (refine aExit ?_; simp only [slx, ↓reduceIte, Nat.reduceEqDiff, reduceCtorEq]) | (refine aRet ?_; try simp only [slx, ↓reduceIte, Nat.reduceEqDiff, reduceCtorEq]) | (refine hX _ _ ?_; clear hX X) | (clear hX X; refine hX _ _ ?_; clear hX X) | (clear hX X; clear hX X; refine hX _ _ ?_; clear hX X) | (intro hlen; unfold maxLen at hlen) | (apply And.intro; (focus (first | omega | assumption | (repeat' apply And.intro) <;> first | omega | assumption)))))
    have := addS_len l e.name
    exact hloop _ _ _ _ rfl rfl (App.step (.refl hf)) (by rw [hre, k5]; rfl) (by omega)
  | false =>
    (repeat (first | (refine aSeq (fun X hX => ?_)) | (refine aBlk ?_) | (refine aSkip ?_) | ((first | refine aReg ?_ | refine aDrw (fun m2 => m2 = _) (by kernel_rfl) rfl ?_); simp -implicitDefEqProofs only [forall_eq, ↓slp, slb, ↓reduceIte, reduceCtorEq, Nat.reduceEqDiff, Nat.reduceAdd, Nat.reduceMul, Nat.reduceLT, Nat.reduceLeDiff, Nat.reduceBEq, Nat.reduceBNe, Int.reduceLE, Int.reduceLT, Int.reduceToNat, Int.reduceEq, tfAbRd3, k5]; try simp only [Ex.fold, Ex.foldcs, ← Va.pv.eq_1]) | (refine aIf ?_; simp -implicitDefEqProofs only [↓slp, slb, ↓reduceIte, reduceCtorEq, Nat.reduceEqDiff, Nat.reduceAdd, Nat.reduceMul, Nat.reduceLT, Nat.reduceLeDiff, Nat.reduceBEq, Nat.reduceBNe, Int.reduceLE, Int.reduceLT, Int.reduceToNat, Int.reduceEq, k5]) | (refine aExit ?_; simp only [slx, ↓reduceIte, Nat.reduceEqDiff, reduceCtorEq]) | (refine aRet ?_; try simp only [slx, ↓reduceIte, Nat.reduceEqDiff, reduceCtorEq]) | (refine hX _ _ ?_; clear hX X) | (clear hX X; refine hX _ _ ?_; clear hX X) | (clear hX X; clear hX X; refine hX _ _ ?_; clear hX X) | (intro hlen; unfold maxLen at hlen) | (apply And.intro; (focus (first | omega | assumption | (repeat' apply And.intro) <;> first | omega | assumption)))))
    exact hloop _ _ _ _ rfl rfl (.refl hf) (by rw [hre, k5]; rfl) (by omega)
set_option maxRecDepth 20000 in
set_option maxHeartbeats 1000000 in
theorem Lasts_any (e : Ex) (m : M) (hsz : e.size < 2 ^ 40) : ACalls Try.prog 15 [e.pv] m (fun v m' => v = .sl (.tok m.nt) ((e.lasts []).map pS) ∧ m' = m.fresh 1) := by
  refine ACalls.enter (mu := []) ok_mix Try.func15 rfl (by kernel_rfl) (by kernel_rfl) (by simp only [List.length_cons, List.length_nil, Try.ntmps15]; omega) ?_
  (repeat (first | (refine aSeq (fun X hX => ?_)) | (refine aBlk ?_) | (refine aSkip ?_) | ((first | refine aReg ?_ | refine aDrw (fun m2 => m2 = _) (by kernel_rfl) rfl ?_); simp -implicitDefEqProofs only [forall_eq, ↓slp, slb, ↓reduceIte, reduceCtorEq, Nat.reduceEqDiff, Nat.reduceAdd, Nat.reduceMul, Nat.reduceLT, Nat.reduceLeDiff, Nat.reduceBEq, Nat.reduceBNe, Int.reduceLE, Int.reduceLT, Int.reduceToNat, Int.reduceEq, tfAbRd3]; try simp only [Ex.fold, Ex.foldcs, ← Va.pv.eq_1]) | (refine aExit ?_; simp only [slx, ↓reduceIte, Nat.reduceEqDiff, reduceCtorEq]) | (refine aRet ?_; try simp only [slx, ↓reduceIte, Nat.reduceEqDiff, reduceCtorEq]) | (refine hX _ _ ?_; clear hX X) | (clear hX X; refine hX _ _ ?_; clear hX X) | (clear hX X; clear hX X; refine hX _ _ ?_; clear hX X) | (intro hlen; unfold maxLen at hlen) | (apply And.intro; (focus (first | omega | assumption | (repeat' apply And.intro) <;> first | omega | assumption)))))
  refine callE (tlasts_any e .full [] m trivial (by simpa using hsz)) ?_
  simp -implicitDefEqProofs only [↓slp, slb, ↓reduceIte, reduceCtorEq, Nat.reduceEqDiff, Nat.reduceAdd, Nat.reduceMul, Nat.reduceLT, Nat.reduceLeDiff, Nat.reduceBEq, Nat.reduceBNe, Int.reduceLE, Int.reduceLT, Int.reduceToNat, Int.reduceEq, tfAbRd3]; try simp only [Ex.fold, Ex.foldcs, ← Va.pv.eq_1]
  (repeat (first | (refine aSeq (fun X hX => ?_)) | (refine aBlk ?_) | (refine aSkip ?_) | ((first | refine aReg ?_ | refine aDrw (fun m2 => m2 = _) (by kernel_rfl) rfl ?_); simp -implicitDefEqProofs only [forall_eq, ↓slp, slb, ↓reduceIte, reduceCtorEq, Nat.reduceEqDiff, Nat.reduceAdd, Nat.reduceMul, Nat.reduceLT, Nat.reduceLeDiff, Nat.reduceBEq, Nat.reduceBNe, Int.reduceLE, Int.reduceLT, Int.reduceToNat, Int.reduceEq, tfAbRd3]; try simp only [Ex.fold, Ex.foldcs, ← Va.pv.eq_1]) | (refine aExit ?_; simp only [slx, ↓reduceIte, Nat.reduceEqDiff, reduceCtorEq]) | (refine aRet ?_; try simp only [slx, ↓reduceIte, Nat.reduceEqDiff, reduceCtorEq]) | (refine hX _ _ ?_; clear hX X) | (clear hX X; refine hX _ _ ?_; clear hX X) | (clear hX X; clear hX X; refine hX _ _ ?_; clear hX X) | (intro hlen; unfold maxLen at hlen) | (apply And.intro; (focus (first | omega | assumption | (repeat' apply And.intro) <;> first | omega | assumption)))))
  simp only [aPost, Try.results15, aRes_n, aRes_t, aRes_c, pack_one, pack_two]
  exact leave_app (o0 := .full) (App.step (App.refl (o := .full) (m := m) trivial)) (strs_one _) ⟨rfl, rfl⟩
end Go.Proofs.Ytibhhoknipdlpaa

/-
  Programs as data, and how they stand in memory.
-/
set_option linter.unusedVariables false
namespace Go.Proofs.Ytibhhoknipdlpaa
open Go

structure Tr where
  e : Ex
  to : Str
  resume : Bool
  line : Int
  col : Int
namespace Tr
def cs (t : Tr) : List PV := [.v (.int .u8 t.e.kind), .v (.int .u8 t.e.op), .v (.int .i32 t.e.n), .v (.string t.e.name), .sl .no (t.e.names.map pS), .sl .no (t.e.kids.map Ex.pv), .v (.int .i64 t.e.line), .v (.int .i64 t.e.col), .v (.string t.to), .v (.bool t.resume), .v (.int .i64 t.line), .v (.int .i64 t.col)]
def pv (t : Tr) : PV := .ag t.cs
end Tr
theorem Tr.cells_pv (t : Tr) : t.pv.cells = t.cs := rfl
theorem Tr.settle_pv (t : Tr) : t.pv.settle = t.pv := rfl
theorem Tr.pure_pv (t : Tr) : t.pv.pure = true := rfl

mutual
inductive Qu where
  | mk (kind : Int) (lhs : List Str) (name : Str) (args : List Ex) (has : Bool) (e : Ex) (arms : List Am) (line col : Int)
inductive Am where
  | mk (name : Str) (vars : List Va) (eqs : List Qu) (unl : List Tr) (til : List Tr) (line col : Int)
end
mutual
def Qu.pv : Qu → PV
  | .mk kind lhs name args has e arms line col => .ag [.v (.int .u8 kind), .sl .no (lhs.map pS), .v (.string name), .sl .no (args.map Ex.pv), .v (.bool has), .v (.int .u8 e.kind), .v (.int .u8 e.op), .v (.int .i32 e.n), .v (.string e.name), .sl .no (e.names.map pS), .sl .no (e.kids.map Ex.pv), .v (.int .i64 e.line), .v (.int .i64 e.col), .sl .no (Am.pvs arms), .v (.int .i64 line), .v (.int .i64 col)]
def Qu.pvs : List Qu → List PV
  | [] => []
  | q :: l => q.pv :: Qu.pvs l
def Am.pv : Am → PV
  | .mk name vars eqs unl til line col => .ag [.v (.string name), .sl .no (vars.map Va.pv), .sl .no (Qu.pvs eqs), .sl .no (unl.map Tr.pv), .sl .no (til.map Tr.pv), .v (.int .i64 line), .v (.int .i64 col)]
def Am.pvs : List Am → List PV
  | [] => []
  | a :: l => a.pv :: Am.pvs l
end
theorem Qu.pvs_eq (l : List Qu) : Qu.pvs l = l.map Qu.pv := by
  induction l with
  | nil => rfl
  | cons x l ih => simp [Qu.pvs, ih]
theorem Am.pvs_eq (l : List Am) : Am.pvs l = l.map Am.pv := by
  induction l with
  | nil => rfl
  | cons x l ih => simp [Am.pvs, ih]
namespace Qu
def kind : Qu → Int | .mk k _ _ _ _ _ _ _ _ => k
def lhs : Qu → List Str | .mk _ l _ _ _ _ _ _ _ => l
def name : Qu → Str | .mk _ _ n _ _ _ _ _ _ => n
def args : Qu → List Ex | .mk _ _ _ a _ _ _ _ _ => a
def has : Qu → Bool | .mk _ _ _ _ h _ _ _ _ => h
def e : Qu → Ex | .mk _ _ _ _ _ e _ _ _ => e
def arms : Qu → List Am | .mk _ _ _ _ _ _ a _ _ => a
def line : Qu → Int | .mk _ _ _ _ _ _ _ l _ => l
def col : Qu → Int | .mk _ _ _ _ _ _ _ _ c => c
def cs (q : Qu) : List PV := [.v (.int .u8 q.kind), .sl .no (q.lhs.map pS), .v (.string q.name), .sl .no (q.args.map Ex.pv), .v (.bool q.has), .v (.int .u8 q.e.kind), .v (.int .u8 q.e.op), .v (.int .i32 q.e.n), .v (.string q.e.name), .sl .no (q.e.names.map pS), .sl .no (q.e.kids.map Ex.pv), .v (.int .i64 q.e.line), .v (.int .i64 q.e.col), .sl .no (q.arms.map Am.pv), .v (.int .i64 q.line), .v (.int .i64 q.col)]
theorem pv_eq (q : Qu) : q.pv = .ag q.cs := by cases q; simp [Qu.pv, cs, kind, lhs, name, args, has, e, arms, line, col, Am.pvs_eq]
end Qu
theorem Qu.cells_pv (q : Qu) : q.pv.cells = q.cs := by rw [q.pv_eq]; rfl
theorem Qu.settle_pv (q : Qu) : q.pv.settle = q.pv := by rw [q.pv_eq]; rfl
theorem Qu.pure_pv (q : Qu) : q.pv.pure = true := by rw [q.pv_eq]; rfl
namespace Am
def name : Am → Str | .mk n _ _ _ _ _ _ => n
def vars : Am → List Va | .mk _ v _ _ _ _ _ => v
def eqs : Am → List Qu | .mk _ _ q _ _ _ _ => q
def unl : Am → List Tr | .mk _ _ _ u _ _ _ => u
def til : Am → List Tr | .mk _ _ _ _ u _ _ => u
def line : Am → Int | .mk _ _ _ _ _ l _ => l
def col : Am → Int | .mk _ _ _ _ _ _ c => c
def cs (a : Am) : List PV := [.v (.string a.name), .sl .no (a.vars.map Va.pv), .sl .no (a.eqs.map Qu.pv), .sl .no (a.unl.map Tr.pv), .sl .no (a.til.map Tr.pv), .v (.int .i64 a.line), .v (.int .i64 a.col)]
theorem pv_eq (a : Am) : a.pv = .ag a.cs := by cases a; simp [Am.pv, cs, name, vars, eqs, unl, til, line, col, Qu.pvs_eq]
end Am
theorem Am.cells_pv (a : Am) : a.pv.cells = a.cs := by rw [a.pv_eq]; rfl
theorem Am.settle_pv (a : Am) : a.pv.settle = a.pv := by rw [a.pv_eq]; rfl
theorem Am.pure_pv (a : Am) : a.pv.pure = true := by rw [a.pv_eq]; rfl

/-- A block; a node; a type of constructors; a program. -/
structure Bk where
  vars : List Va
  eqs : List Qu
def Bk.pv (b : Bk) : PV := .ag [.sl .no (b.vars.map Va.pv), .sl .no (b.eqs.map Qu.pv)]
structure No where
  name : Str
  ins : List Va
  outs : List Va
  b : Bk
  line : Int
  col : Int
namespace No
def cs (n : No) : List PV := [.v (.string n.name), .sl .no (n.ins.map Va.pv), .sl .no (n.outs.map Va.pv), .sl .no (n.b.vars.map Va.pv), .sl .no (n.b.eqs.map Qu.pv), .v (.int .i64 n.line), .v (.int .i64 n.col)]
def pv (n : No) : PV := .ag n.cs
end No
theorem No.cells_pv (t : No) : t.pv.cells = t.cs := rfl
theorem No.settle_pv (t : No) : t.pv.settle = t.pv := rfl
theorem No.pure_pv (t : No) : t.pv.pure = true := rfl

/-- What can be read: what is ready; all; those that have a last value. -/
structure Sc where
  ready : List Va
  all : List Va
  lasts : List Va
def Sc.pv (s : Sc) : PV := .ag [.sl .no (s.ready.map Va.pv), .sl .no (s.all.map Va.pv), .sl .no (s.lasts.map Va.pv)]
theorem Ty.ext' {a b : Ty} (h : a.eq b = true) : a = b := by
  cases a; cases b
  simp only [Ty.eq, Bool.and_eq_true, beq_iff_eq, eqS_iff] at h
  obtain ⟨rfl, rfl⟩ := h
  rfl
end Go.Proofs.Ytibhhoknipdlpaa

/-
  The expressions of an equation, of a block.
-/
set_option linter.unusedVariables false
set_option linter.unusedSimpArgs false
namespace Go.Proofs.Ytibhhoknipdlpaa
open Go
set_option linter.defProp false
def tfAbRd4 := And.intro @td_3 (And.intro @zv_3 (And.intro @Try.underlying3 (And.intro @td_4 (And.intro @zv_4 (And.intro @Try.underlying4 (And.intro @td_5 (And.intro @zv_5 (And.intro @Try.underlying5 (And.intro @td_9 (And.intro @zv_9 (And.intro @Try.underlying9 (And.intro @td_21 (And.intro @zv_21 (And.intro @Try.underlying21 (And.intro @td_30 (And.intro @zv_30 (And.intro @tel_30 (And.intro @Try.underlying30 (And.intro @td_32 (And.intro @zv_32 (And.intro @tel_32 (And.intro @Try.underlying32 (And.intro @td_33 (And.intro @zv_33 (And.intro @tel_33 (And.intro @Try.underlying33 (And.intro @td_35 (And.intro @zv_35 (And.intro @tf_35 (And.intro @td_41 (And.intro @zv_41 (And.intro @tel_41 (And.intro @Try.underlying41 (And.intro @td_44 (And.intro @zv_44 (And.intro @tf_44 (And.intro @td_84 (And.intro @zv_84 (And.intro @tel_84 (And.intro @Try.underlying84 (And.intro @td_86 (And.intro @zv_86 (And.intro @tf_86 (And.intro @td_101 (And.intro @zv_101 (And.intro @tel_101 (And.intro @Try.underlying101 (And.intro @td_103 (And.intro @zv_103 (And.intro @tf_103 (And.intro @td_105 (And.intro @zv_105 (And.intro @tf_105 (And.intro @Ex.settle_pv (And.intro @Ex.pure_pv (And.intro @Ex.cells_pv (And.intro @Ex.cs.eq_1 (And.intro @On.pv.eq_1 (And.intro @Ty.pv.eq_1 (And.intro @Va.settle_pv (And.intro @Va.pure_pv (And.intro @Va.cells_pv (And.intro @Va.cs.eq_1 (And.intro @Qu.settle_pv (And.intro @Qu.pure_pv (And.intro @Qu.cells_pv (And.intro @Qu.cs.eq_1 (And.intro @Am.settle_pv (And.intro @Am.pure_pv (And.intro @Am.cells_pv (And.intro @Am.cs.eq_1 (And.intro @Tr.settle_pv (And.intro @Tr.pure_pv (And.intro @Tr.cells_pv (And.intro @Tr.cs.eq_1 @Bk.pv.eq_1)))))))))))))))))))))))))))))))))))))))))))))))))))))))))))))))))))))))))))
-- EXX: Qu.settle_pv, Qu.pure_pv, Qu.cells_pv, Qu.cs, Am.settle_pv, Am.pure_pv, Am.cells_pv, Am.cs, Tr.settle_pv, Tr.pure_pv, Tr.cells_pv, Tr.cs, Bk.pv
-- TYPES: 3 4 5 9 21 30 32 33 35 41 44 84 86 101 103 105

def Qu.own (q : Qu) : List Ex := q.args ++ (if q.has || (!(q.kind == 2) && !(q.kind == 4)) then [q.e] else [])
mutual
def Qu.all : Qu → List Ex
  | .mk kind lhs name args has e arms line col => Qu.own (.mk kind lhs name args has e arms line col) ++ Am.alls arms
def Qu.alls : List Qu → List Ex
  | [] => []
  | q :: l => q.all ++ Qu.alls l
def Am.all : Am → List Ex
  | .mk name vars eqs unl til line col => Qu.alls eqs ++ til.map (·.e)
def Am.alls : List Am → List Ex
  | [] => []
  | a :: l => a.all ++ Am.alls l
end
theorem Qu.all_eq (q : Qu) : q.all = q.own ++ Am.alls q.arms := by cases q; rfl
theorem Am.all_eq (a : Am) : a.all = Qu.alls a.eqs ++ a.til.map (·.e) := by cases a; rfl
theorem Qu.alls_append (l r : List Qu) : Qu.alls (l ++ r) = Qu.alls l ++ Qu.alls r := by
  induction l with
  | nil => rfl
  | cons x l ih => simp [Qu.alls, ih]
theorem Qu.alls_drop (l : List Qu) (k : Nat) (h : k < l.length) : Qu.alls (l.drop k) = l[k].all ++ Qu.alls (l.drop (k + 1)) := by rw [List.drop_eq_getElem_cons h, Qu.alls]
theorem Am.alls_drop (l : List Am) (k : Nat) (h : k < l.length) : Am.alls (l.drop k) = l[k].all ++ Am.alls (l.drop (k + 1)) := by rw [List.drop_eq_getElem_cons h, Am.alls]
theorem ex_len (l : List Ex) : ∀ x ∈ l.map Ex.pv, x.cells.length = 8 := fun x hx => by
  obtain ⟨a, _, rfl⟩ := List.mem_map.1 hx
  rw [Ex.cells_pv]; rfl

set_option maxRecDepth 20000 in
set_option maxHeartbeats 1000000 in
theorem kids_any (q : Qu) (m : M) (hl : q.args.length < 2 ^ 38) : ACalls Try.prog 55 [q.pv] m (fun v m' => v = .sl .no (q.own.map Ex.pv) ∧ m' = m) := by
  have h1 := ex_len q.args
  have h2 : q.args.length ≤ maxLen := by unfold maxLen; omega
  have h3 : q.args.length + 1 ≤ maxLen := by unfold maxLen; omega
  have h5 : (m.fresh 8).alive m.nt 8 := by simp [M.alive, M.fresh, M.nt]
  have t1 : Toks m (m.fresh 8) := (Toks.refl m).use (o := .full) (s := 8) (s' := 8) Mine.full
  have t2 : Toks m (((m.fresh 8).kill m.nt).fresh 8) := t1.use (o := .tok m.nt) (s := 8) (Mine.new (o := .full) (Toks.refl m) 8)
  refine ACalls.enter (mu := []) ok_mix Try.func55 rfl (by kernel_rfl) (by kernel_rfl) (by simp only [List.length_cons, List.length_nil, Try.ntmps55]; omega) ?_
  have yes : ∀ c : Bool, c = true → q.own = q.args ++ (if c then [q.e] else []) → (q.own).map Ex.pv = q.args.map Ex.pv ++ [q.e.pv] := fun c hc h => by rw [h, hc]; simp
  have no : ∀ c : Bool, c = false → q.own = q.args ++ (if c then [q.e] else []) → (q.own).map Ex.pv = q.args.map Ex.pv := fun c hc h => by rw [h, hc]; simp
  cases kh : q.has with
  | true =>
    have hv := yes (q.has || (!(q.kind == 2) && !(q.kind == 4))) (by rw [kh]; rfl) rfl
    (repeat (first | (refine aSeq (fun X hX => ?_)) | (refine aBlk ?_) | (refine aSkip ?_) | ((first | refine aReg ?_ | refine aDrw (fun m2 => m2 = _) (by kernel_rfl) rfl ?_); simp -implicitDefEqProofs only [forall_eq, ↓slp, slb, ↓reduceIte, reduceCtorEq, Nat.reduceEqDiff, Nat.reduceAdd, Nat.reduceMul, Nat.reduceLT, Nat.reduceLeDiff, Nat.reduceBEq, Nat.reduceBNe, Int.reduceLE, Int.reduceLT, Int.reduceToNat, Int.reduceEq, tfAbRd4, kh]; try simp only [Ex.fold, Ex.foldcs, ← Va.pv.eq_1]) | (refine aIf ?_; simp -implicitDefEqProofs only [↓slp, slb, ↓reduceIte, reduceCtorEq, Nat.reduceEqDiff, Nat.reduceAdd, Nat.reduceMul, Nat.reduceLT, Nat.reduceLeDiff, Nat.reduceBEq, Nat.reduceBNe, Int.reduceLE, Int.reduceLT, Int.reduceToNat, Int.reduceEq, kh]) | (refine aExit ?_; simp only [slx, ↓reduceIte, Nat.reduceEqDiff, reduceCtorEq]) | (refine aRet ?_; try simp only [slx, ↓reduceIte, Nat.reduceEqDiff, reduceCtorEq]) | (refine hX _ _ ?_; clear hX X) | (clear hX X; refine hX _ _ ?_; clear hX X) | (clear hX X; clear hX X; refine hX _ _ ?_; clear hX X) | (intro hlen; unfold maxLen at hlen) | (apply And.intro; (focus (first | omega | assumption | (repeat' apply And.intro) <;> first | omega | assumption)))))
    simp only [aPost, Try.results55, aRes_n, aRes_t, aRes_c, pack_one, pack_two]
    simp -implicitDefEqProofs only [↓slp, slb, ↓reduceIte, reduceCtorEq, Nat.reduceEqDiff, Nat.reduceAdd, Nat.reduceMul, Nat.reduceLT, Nat.reduceLeDiff, Nat.reduceBEq, Nat.reduceBNe, Int.reduceLE, Int.reduceLT, Int.reduceToNat, Int.reduceEq, tfAbRd4]; try simp only [Ex.fold, Ex.foldcs, ← Va.pv.eq_1]
    exact leave_toks0 t2 rfl ⟨by rw [hv]; rfl, rfl⟩
  | false =>
    cases k2 : (q.kind == 2) with
    | true =>
      have hv := no (q.has || (!(q.kind == 2) && !(q.kind == 4))) (by rw [kh, k2]; rfl) rfl
      (repeat (first | (refine aSeq (fun X hX => ?_)) | (refine aBlk ?_) | (refine aSkip ?_) | ((first | refine aReg ?_ | refine aDrw (fun m2 => m2 = _) (by kernel_rfl) rfl ?_); simp -implicitDefEqProofs only [forall_eq, ↓slp, slb, ↓reduceIte, reduceCtorEq, Nat.reduceEqDiff, Nat.reduceAdd, Nat.reduceMul, Nat.reduceLT, Nat.reduceLeDiff, Nat.reduceBEq, Nat.reduceBNe, Int.reduceLE, Int.reduceLT, Int.reduceToNat, Int.reduceEq, tfAbRd4, kh, k2]; try simp only [Ex.fold, Ex.foldcs, ← Va.pv.eq_1]) | (refine aIf ?_; simp -implicitDefEqProofs only [↓slp, slb, ↓reduceIte, reduceCtorEq, Nat.reduceEqDiff, Nat.reduceAdd, Nat.reduceMul, Nat.reduceLT, Nat.reduceLeDiff, Nat.reduceBEq, Nat.reduceBNe, Int.reduceLE, Int.reduceLT, Int.reduceToNat, Int.reduceEq, kh, k2]) | (refine aExit ?_; simp only [slx, ↓reduceIte, Nat.reduceEqDiff, reduceCtorEq]) | (refine aRet ?_; try simp only [slx, ↓reduceIte, Nat.reduceEqDiff, reduceCtorEq]) | (refine hX _ _ ?_; clear hX X) | (clear hX X; refine hX _ _ ?_; clear hX X) | (clear hX X; clear hX X; refine hX _ _ ?_; clear hX X) | (intro hlen; unfold maxLen at hlen) | (apply And.intro; (focus (first | omega | assumption | (repeat' apply And.intro) <;> first | omega | assumption)))))
      simp only [aPost, Try.results55, aRes_n, aRes_t, aRes_c, pack_one, pack_two]
      simp -implicitDefEqProofs only [↓slp, slb, ↓reduceIte, reduceCtorEq, Nat.reduceEqDiff, Nat.reduceAdd, Nat.reduceMul, Nat.reduceLT, Nat.reduceLeDiff, Nat.reduceBEq, Nat.reduceBNe, Int.reduceLE, Int.reduceLT, Int.reduceToNat, Int.reduceEq, tfAbRd4]; try simp only [Ex.fold, Ex.foldcs, ← Va.pv.eq_1]
      exact leave_toks0 t1 rfl ⟨by rw [hv]; rfl, rfl⟩
    | false =>
      cases k4 : (q.kind == 4) with
      | true =>
        have hv := no (q.has || (!(q.kind == 2) && !(q.kind == 4))) (by rw [kh, k2, k4]; rfl) rfl
        (repeat (first | (refine aSeq (fun X hX => ?_)) | (refine aBlk ?_) | (refine aSkip ?_) | ((first | refine aReg ?_ | refine aDrw (fun m2 => m2 = _) (by kernel_rfl) rfl ?_); simp -implicitDefEqProofs only [forall_eq, ↓slp, slb, ↓reduceIte, reduceCtorEq, Nat.reduceEqDiff, Nat.reduceAdd, Nat.reduceMul, Nat.reduceLT, Nat.reduceLeDiff, Nat.reduceBEq, Nat.reduceBNe, Int.reduceLE, Int.reduceLT, Int.reduceToNat, Int.reduceEq, tfAbRd4, kh, k2, k4]; try simp only [Ex.fold, Ex.foldcs, ← Va.pv.eq_1]) | (refine aIf ?_; simp -implicitDefEqProofs only [↓slp, slb, ↓reduceIte, reduceCtorEq, Nat.reduceEqDiff, Nat.reduceAdd, Nat.reduceMul, Nat.reduceLT, Nat.reduceLeDiff, Nat.reduceBEq, Nat.reduceBNe, Int.reduceLE, Int.reduceLT, Int.reduceToNat, Int.reduceEq, kh, k2, k4]) | (refine aExit ?_; simp only [slx, ↓reduceIte, Nat.reduceEqDiff, reduceCtorEq]) | (refine aRet ?_; try simp only [slx, ↓reduceIte, Nat.reduceEqDiff, reduceCtorEq]) | (refine hX _ _ ?_; clear hX X) | (clear hX X; refine hX _ _ ?_; clear hX X) | (clear hX X; clear hX X; refine hX _ _ ?_; clear hX X) | (intro hlen; unfold maxLen at hlen) | (apply And.intro; (focus (first | omega | assumption | (repeat' apply And.intro) <;> first | omega | assumption)))))
        simp only [aPost, Try.results55, aRes_n, aRes_t, aRes_c, pack_one, pack_two]
        simp -implicitDefEqProofs only [↓slp, slb, ↓reduceIte, reduceCtorEq, Nat.reduceEqDiff, Nat.reduceAdd, Nat.reduceMul, Nat.reduceLT, Nat.reduceLeDiff, Nat.reduceBEq, Nat.reduceBNe, Int.reduceLE, Int.reduceLT, Int.reduceToNat, Int.reduceEq, tfAbRd4]; try simp only [Ex.fold, Ex.foldcs, ← Va.pv.eq_1]
        exact leave_toks0 t1 rfl ⟨by rw [hv]; rfl, rfl⟩
      | false =>
        have hv := yes (q.has || (!(q.kind == 2) && !(q.kind == 4))) (by rw [kh, k2, k4]; rfl) rfl
        (repeat (first | (refine aSeq (fun X hX => ?_)) | (refine aBlk ?_) | (refine aSkip ?_) | ((first | refine aReg ?_ | refine aDrw (fun m2 => m2 = _) (by kernel_rfl) rfl ?_); simp -implicitDefEqProofs only [forall_eq, ↓slp, slb, ↓reduceIte, reduceCtorEq, Nat.reduceEqDiff, Nat.reduceAdd, Nat.reduceMul, Nat.reduceLT, Nat.reduceLeDiff, Nat.reduceBEq, Nat.reduceBNe, Int.reduceLE, Int.reduceLT, Int.reduceToNat, Int.reduceEq, tfAbRd4, kh, k2, k4]; try simp only [Ex.fold, Ex.foldcs, ← Va.pv.eq_1]) | (refine aIf ?_; simp -implicitDefEqProofs only [↓slp, slb, ↓reduceIte, reduceCtorEq, Nat.reduceEqDiff, Nat.reduceAdd, Nat.reduceMul, Nat.reduceLT, Nat.reduceLeDiff, Nat.reduceBEq, Nat.reduceBNe, Int.reduceLE, Int.reduceLT, Int.reduceToNat, Int.reduceEq, kh, k2, k4]) | (refine aExit ?_; simp only [slx, ↓reduceIte, Nat.reduceEqDiff, reduceCtorEq]) | (refine aRet ?_; try simp only [slx, ↓reduceIte, Nat.reduceEqDiff, reduceCtorEq]) | (refine hX _ _ ?_; clear hX X) | (clear hX X; refine hX _ _ ?_; clear hX X) | (clear hX X; clear hX X; refine hX _ _ ?_; clear hX X) | (intro hlen; unfold maxLen at hlen) | (apply And.intro; (focus (first | omega | assumption | (repeat' apply And.intro) <;> first | omega | assumption)))))
        simp only [aPost, Try.results55, aRes_n, aRes_t, aRes_c, pack_one, pack_two]
        simp -implicitDefEqProofs only [↓slp, slb, ↓reduceIte, reduceCtorEq, Nat.reduceEqDiff, Nat.reduceAdd, Nat.reduceMul, Nat.reduceLT, Nat.reduceLeDiff, Nat.reduceBEq, Nat.reduceBNe, Int.reduceLE, Int.reduceLT, Int.reduceToNat, Int.reduceEq, tfAbRd4]; try simp only [Ex.fold, Ex.foldcs, ← Va.pv.eq_1]
        exact leave_toks0 t2 rfl ⟨by rw [hv]; rfl, rfl⟩
theorem kids_anyC (q : Qu) (m : M) (hl : q.args.length < 2 ^ 38) : ACalls Try.prog 55 [.ag q.cs] m (fun v m' => v = .sl .no (q.own.map Ex.pv) ∧ m' = m) := by
  have := kids_any q m hl
  rwa [q.pv_eq] at this
end Go.Proofs.Ytibhhoknipdlpaa

/-
  The expressions of a block, gathered.
-/
set_option linter.unusedVariables false
set_option linter.unusedSimpArgs false
namespace Go.Proofs.Ytibhhoknipdlpaa
open Go
set_option linter.defProp false
def tfAbRd5 := And.intro @td_3 (And.intro @zv_3 (And.intro @Try.underlying3 (And.intro @td_4 (And.intro @zv_4 (And.intro @Try.underlying4 (And.intro @td_5 (And.intro @zv_5 (And.intro @Try.underlying5 (And.intro @td_9 (And.intro @zv_9 (And.intro @Try.underlying9 (And.intro @td_21 (And.intro @zv_21 (And.intro @Try.underlying21 (And.intro @td_30 (And.intro @zv_30 (And.intro @tel_30 (And.intro @Try.underlying30 (And.intro @td_32 (And.intro @zv_32 (And.intro @tel_32 (And.intro @Try.underlying32 (And.intro @td_33 (And.intro @zv_33 (And.intro @tel_33 (And.intro @Try.underlying33 (And.intro @td_35 (And.intro @zv_35 (And.intro @tf_35 (And.intro @td_41 (And.intro @zv_41 (And.intro @tel_41 (And.intro @Try.underlying41 (And.intro @td_44 (And.intro @zv_44 (And.intro @tf_44 (And.intro @td_84 (And.intro @zv_84 (And.intro @tel_84 (And.intro @Try.underlying84 (And.intro @td_86 (And.intro @zv_86 (And.intro @tf_86 (And.intro @td_101 (And.intro @zv_101 (And.intro @tel_101 (And.intro @Try.underlying101 (And.intro @td_103 (And.intro @zv_103 (And.intro @tf_103 (And.intro @td_105 (And.intro @zv_105 (And.intro @tf_105 (And.intro @Ex.settle_pv (And.intro @Ex.pure_pv (And.intro @Ex.cells_pv (And.intro @Ex.cs.eq_1 (And.intro @On.pv.eq_1 (And.intro @Ty.pv.eq_1 (And.intro @Va.settle_pv (And.intro @Va.pure_pv (And.intro @Va.cells_pv (And.intro @Va.cs.eq_1 (And.intro @Qu.settle_pv (And.intro @Qu.pure_pv (And.intro @Qu.cells_pv (And.intro @Qu.cs.eq_1 (And.intro @Am.settle_pv (And.intro @Am.pure_pv (And.intro @Am.cells_pv (And.intro @Am.cs.eq_1 (And.intro @Tr.settle_pv (And.intro @Tr.pure_pv (And.intro @Tr.cells_pv (And.intro @Tr.cs.eq_1 @Bk.pv.eq_1)))))))))))))))))))))))))))))))))))))))))))))))))))))))))))))))))))))))))))
-- EXX: Qu.settle_pv, Qu.pure_pv, Qu.cells_pv, Qu.cs, Am.settle_pv, Am.pure_pv, Am.cells_pv, Am.cs, Tr.settle_pv, Tr.pure_pv, Tr.cells_pv, Tr.cs, Bk.pv
-- TYPES: 3 4 5 9 21 30 32 33 35 41 44 84 86 101 103 105

theorem arm_lt {eqs : List Qu} {q : Qu} {a : Am} (hq : q ∈ eqs) (ha : a ∈ q.arms) : SizeOf.sizeOf a.eqs < SizeOf.sizeOf eqs := by
  have h1 := List.sizeOf_lt_of_mem hq
  have h2 := List.sizeOf_lt_of_mem ha
  have h3 : SizeOf.sizeOf q.arms < SizeOf.sizeOf q := by cases q; simp only [Qu.arms, Qu.mk.sizeOf_spec]; omega
  have h4 : SizeOf.sizeOf a.eqs < SizeOf.sizeOf a := by cases a; simp only [Am.eqs, Am.mk.sizeOf_spec]; omega
  omega
theorem own_len (q : Qu) : q.args.length ≤ q.own.length := by simp [Qu.own]
theorem App.len {m0 m : M} {o o0 : Own} {s : Nat} (h : App m0 o0 s m o) : True := trivial
set_option maxRecDepth 20000 in
set_option maxHeartbeats 4000000 in
theorem gather_any (n : Nat) : ∀ (b : Bk) (o : Own) (l : List Ex) (m : M), SizeOf.sizeOf b.eqs ≤ n → o.free m 8 → l.length + (Qu.alls b.eqs).length < 2 ^ 38 → ACalls Try.prog 10 [.sl o (l.map Ex.pv), b.pv] m (fun v m' => v = .sl (.tok m.nt) ((l ++ Qu.alls b.eqs).map Ex.pv) ∧ m' = (o.use m).fresh 8) := by
  induction n with
  | zero => intro b o l m h; exfalso; have : 0 < SizeOf.sizeOf b.eqs := by cases b.eqs <;> simp <;> omega
            omega
  | succ n IH =>
  intro b o l m hsz hf hlen
  refine ACalls.enter (mu := []) ok_mix Try.func10 rfl (by kernel_rfl) (by kernel_rfl) (by simp only [List.length_cons, List.length_nil, Try.ntmps10]; omega) ?_
  (repeat (first | (refine aSeq (fun X hX => ?_)) | (refine aBlk ?_) | (refine aSkip ?_) | ((first | refine aReg ?_ | refine aDrw (fun m2 => m2 = _) (by kernel_rfl) rfl ?_); simp -implicitDefEqProofs only [forall_eq, ↓slp, slb, ↓reduceIte, reduceCtorEq, Nat.reduceEqDiff, Nat.reduceAdd, Nat.reduceMul, Nat.reduceLT, Nat.reduceLeDiff, Nat.reduceBEq, Nat.reduceBNe, Int.reduceLE, Int.reduceLT, Int.reduceToNat, Int.reduceEq, tfAbRd5]; try simp only [Ex.fold, Ex.foldcs, ← Va.pv.eq_1]) | (refine aIf ?_; simp -implicitDefEqProofs only [↓slp, slb, ↓reduceIte, reduceCtorEq, Nat.reduceEqDiff, Nat.reduceAdd, Nat.reduceMul, Nat.reduceLT, Nat.reduceLeDiff, Nat.reduceBEq, Nat.reduceBNe, Int.reduceLE, Int.reduceLT, Int.reduceToNat, Int.reduceEq]) | (refine aExit ?_; simp only [slx, ↓reduceIte, Nat.reduceEqDiff, reduceCtorEq]) | (refine aRet ?_; try simp only [slx, ↓reduceIte, Nat.reduceEqDiff, reduceCtorEq]) | (refine hX _ _ ?_; clear hX X) | (clear hX X; refine hX _ _ ?_; clear hX X) | (clear hX X; clear hX X; refine hX _ _ ?_; clear hX X) | (intro hlen; unfold maxLen at hlen) | (apply And.intro; (focus (first | omega | assumption | (repeat' apply And.intro) <;> first | omega | assumption)))))
  obtain ⟨I, hI⟩ : ∃ I : F → M → Prop, ∀ f m', I f m' = (∃ (k1 : Nat) (o1 : Own) (l1 : List Ex), k1 ≤ b.eqs.length ∧ f 0 = .sl o1 (l1.map Ex.pv) ∧ f 3 = .ep [.sl .no (b.vars.map Va.pv), .sl .no (b.eqs.map Qu.pv)] ∧ f 5 = pI k1 ∧ App m o 8 m' o1 ∧ l1 ++ Qu.alls (b.eqs.drop k1) = l ++ Qu.alls b.eqs) := ⟨_, fun _ _ => rfl⟩
  refine aLoop I (fun f m => b.eqs.length - numOf (f 5)) ?_ ?_
  · rw [hI]; exact ⟨0, o, l, by omega, rfl, rfl, rfl, .refl hf, rfl⟩
  intro f m1 hrel
  rw [hI] at hrel
  obtain ⟨k1, o1, l1, hk1, h0, h3, h5, happ, hr1⟩ := hrel
  have hrl1 := congrArg List.length hr1
  simp only [List.length_append] at hrl1
  (repeat (first | (refine aSeq (fun X hX => ?_)) | (refine aBlk ?_) | (refine aSkip ?_) | ((first | refine aReg ?_ | refine aDrw (fun m2 => m2 = _) (by kernel_rfl) rfl ?_); simp -implicitDefEqProofs only [forall_eq, ↓slp, slb, ↓reduceIte, reduceCtorEq, Nat.reduceEqDiff, Nat.reduceAdd, Nat.reduceMul, Nat.reduceLT, Nat.reduceLeDiff, Nat.reduceBEq, Nat.reduceBNe, Int.reduceLE, Int.reduceLT, Int.reduceToNat, Int.reduceEq, tfAbRd5, h3, h5, pI]; try simp only [Ex.fold, Ex.foldcs, ← Va.pv.eq_1]) | (refine aExit ?_; simp only [slx, ↓reduceIte, Nat.reduceEqDiff, reduceCtorEq]) | (refine aRet ?_; try simp only [slx, ↓reduceIte, Nat.reduceEqDiff, reduceCtorEq]) | (refine hX _ _ ?_; clear hX X) | (clear hX X; refine hX _ _ ?_; clear hX X) | (clear hX X; clear hX X; refine hX _ _ ?_; clear hX X) | (intro hlen; unfold maxLen at hlen) | (apply And.intro; (focus (first | omega | assumption | (repeat' apply And.intro) <;> first | omega | assumption)))))
  refine aIf ?_; simp -implicitDefEqProofs only [↓slp, slb, ↓reduceIte, reduceCtorEq, Nat.reduceEqDiff, Nat.reduceAdd, Nat.reduceMul, Nat.reduceLT, Nat.reduceLeDiff, Nat.reduceBEq, Nat.reduceBNe, Int.reduceLE, Int.reduceLT, Int.reduceToNat, Int.reduceEq]; refine ⟨fun hb => ?_, fun hb => ?_⟩
  · have hlt : k1 < b.eqs.length := by simpa using hb
    have g0 := getD_map Qu.pv b.eqs k1 hlt
    have hi : IntKind.i64.wrap ((k1 : Int) + 1) = ((k1 + 1 : Nat) : Int) := by rw [wrap64 (by omega)]; omega
    have hd := Qu.alls_drop b.eqs k1 hlt
    have hmu1 : numOf (f 5) = k1 := by rw [h5]; rfl
    obtain ⟨q, hq⟩ : ∃ q, b.eqs[k1] = q := ⟨_, rfl⟩
    have hqm : q ∈ b.eqs := hq ▸ List.getElem_mem hlt
    rw [hq] at g0 hd
    rw [hd, Qu.all_eq] at hr1 hrl1
    simp only [List.length_append] at hrl1
    have hol := own_len q
    have hl1 := ex_len l1
    have hl2 := ex_len q.own
    have hmx : l1.length + q.own.length ≤ maxLen := by unfold maxLen; omega
    have hf1 := happ.free
    (repeat (first | (refine aSeq (fun X hX => ?_)) | (refine aBlk ?_) | (refine aSkip ?_) | ((first | refine aReg ?_ | refine aDrw (fun m2 => m2 = _) (by kernel_rfl) rfl ?_); simp -implicitDefEqProofs only [forall_eq, ↓slp, slb, ↓reduceIte, reduceCtorEq, Nat.reduceEqDiff, Nat.reduceAdd, Nat.reduceMul, Nat.reduceLT, Nat.reduceLeDiff, Nat.reduceBEq, Nat.reduceBNe, Int.reduceLE, Int.reduceLT, Int.reduceToNat, Int.reduceEq, tfAbRd5, h0, h3, h5, g0, pI]; try simp only [Ex.fold, Ex.foldcs, ← Va.pv.eq_1]) | (refine aIf ?_; simp -implicitDefEqProofs only [↓slp, slb, ↓reduceIte, reduceCtorEq, Nat.reduceEqDiff, Nat.reduceAdd, Nat.reduceMul, Nat.reduceLT, Nat.reduceLeDiff, Nat.reduceBEq, Nat.reduceBNe, Int.reduceLE, Int.reduceLT, Int.reduceToNat, Int.reduceEq, h0, h3, h5, g0, pI]) | (refine aExit ?_; simp only [slx, ↓reduceIte, Nat.reduceEqDiff, reduceCtorEq]) | (refine aRet ?_; try simp only [slx, ↓reduceIte, Nat.reduceEqDiff, reduceCtorEq]) | (refine hX _ _ ?_; clear hX X) | (clear hX X; refine hX _ _ ?_; clear hX X) | (clear hX X; clear hX X; refine hX _ _ ?_; clear hX X) | (intro hlen; unfold maxLen at hlen) | (apply And.intro; (focus (first | omega | assumption | (repeat' apply And.intro) <;> first | omega | assumption)))))
    refine callM (kids_anyC q _ (by omega)) ?_
    rintro v m' ⟨rfl, rfl⟩
    simp -implicitDefEqProofs only [↓slp, slb, ↓reduceIte, reduceCtorEq, Nat.reduceEqDiff, Nat.reduceAdd, Nat.reduceMul, Nat.reduceLT, Nat.reduceLeDiff, Nat.reduceBEq, Nat.reduceBNe, Int.reduceLE, Int.reduceLT, Int.reduceToNat, Int.reduceEq, tfAbRd5, h0, h3, h5, g0, pI]; try simp only [Ex.fold, Ex.foldcs, ← Va.pv.eq_1]
    (repeat (first | (intro hlen; unfold maxLen at hlen) | (apply And.intro; (focus (first | omega | assumption | trivial | (repeat' apply And.intro) <;> first | omega | assumption | trivial)))))
    (repeat (first | (refine aSeq (fun X hX => ?_)) | (refine aBlk ?_) | (refine aSkip ?_) | ((first | refine aReg ?_ | refine aDrw (fun m2 => m2 = _) (by kernel_rfl) rfl ?_); simp -implicitDefEqProofs only [forall_eq, ↓slp, slb, ↓reduceIte, reduceCtorEq, Nat.reduceEqDiff, Nat.reduceAdd, Nat.reduceMul, Nat.reduceLT, Nat.reduceLeDiff, Nat.reduceBEq, Nat.reduceBNe, Int.reduceLE, Int.reduceLT, Int.reduceToNat, Int.reduceEq, tfAbRd5, h0, h3, h5, g0, pI]; try simp only [Ex.fold, Ex.foldcs, ← Va.pv.eq_1]) | (refine aIf ?_; simp -implicitDefEqProofs only [↓slp, slb, ↓reduceIte, reduceCtorEq, Nat.reduceEqDiff, Nat.reduceAdd, Nat.reduceMul, Nat.reduceLT, Nat.reduceLeDiff, Nat.reduceBEq, Nat.reduceBNe, Int.reduceLE, Int.reduceLT, Int.reduceToNat, Int.reduceEq, h0, h3, h5, g0, pI]) | (refine aExit ?_; simp only [slx, ↓reduceIte, Nat.reduceEqDiff, reduceCtorEq]) | (refine aRet ?_; try simp only [slx, ↓reduceIte, Nat.reduceEqDiff, reduceCtorEq]) | (refine hX _ _ ?_; clear hX X) | (clear hX X; refine hX _ _ ?_; clear hX X) | (clear hX X; clear hX X; refine hX _ _ ?_; clear hX X) | (intro hlen; unfold maxLen at hlen) | (apply And.intro; (focus (first | omega | assumption | (repeat' apply And.intro) <;> first | omega | assumption)))))
    obtain ⟨I2, hI2⟩ : ∃ I2 : F → M → Prop, ∀ f m', I2 f m' = (∃ (k2 : Nat) (o2 : Own) (l2 : List Ex), k2 ≤ q.arms.length ∧ f 0 = .sl o2 (l2.map Ex.pv) ∧ f 3 = .ep [.sl .no (b.vars.map Va.pv), .sl .no (b.eqs.map Qu.pv)] ∧ f 5 = pI k1 ∧ f 6 = pI k2 ∧ App m o 8 m' o2 ∧ l2 ++ Am.alls (q.arms.drop k2) = l1 ++ (q.own ++ Am.alls q.arms)) := ⟨_, fun _ _ => rfl⟩
    refine aLoop I2 (fun f m => q.arms.length - numOf (f 6)) ?_ ?_
    · rw [hI2]; exact ⟨0, .tok m'.nt, l1 ++ q.own, by omega, by rw [List.map_append]; rfl, h3, h5, rfl, App.step happ, by rw [List.drop_zero, List.append_assoc]⟩
    intro f m2 hrel
    rw [hI2] at hrel
    clear h0 h3 h5 hb
    obtain ⟨k2, o2, l2, hk2, h0, h3, h5, h6, happ2, hr2⟩ := hrel
    have hrl2 := congrArg List.length hr2
    simp only [List.length_append] at hrl2
    (repeat (first | (refine aSeq (fun X hX => ?_)) | (refine aBlk ?_) | (refine aSkip ?_) | ((first | refine aReg ?_ | refine aDrw (fun m2 => m2 = _) (by kernel_rfl) rfl ?_); simp -implicitDefEqProofs only [forall_eq, ↓slp, slb, ↓reduceIte, reduceCtorEq, Nat.reduceEqDiff, Nat.reduceAdd, Nat.reduceMul, Nat.reduceLT, Nat.reduceLeDiff, Nat.reduceBEq, Nat.reduceBNe, Int.reduceLE, Int.reduceLT, Int.reduceToNat, Int.reduceEq, tfAbRd5, h3, h5, h6, g0, pI]; try simp only [Ex.fold, Ex.foldcs, ← Va.pv.eq_1]) | (refine aExit ?_; simp only [slx, ↓reduceIte, Nat.reduceEqDiff, reduceCtorEq]) | (refine aRet ?_; try simp only [slx, ↓reduceIte, Nat.reduceEqDiff, reduceCtorEq]) | (refine hX _ _ ?_; clear hX X) | (clear hX X; refine hX _ _ ?_; clear hX X) | (clear hX X; clear hX X; refine hX _ _ ?_; clear hX X) | (intro hlen; unfold maxLen at hlen) | (apply And.intro; (focus (first | omega | assumption | (repeat' apply And.intro) <;> first | omega | assumption)))))
    refine aIf ?_; simp -implicitDefEqProofs only [↓slp, slb, ↓reduceIte, reduceCtorEq, Nat.reduceEqDiff, Nat.reduceAdd, Nat.reduceMul, Nat.reduceLT, Nat.reduceLeDiff, Nat.reduceBEq, Nat.reduceBNe, Int.reduceLE, Int.reduceLT, Int.reduceToNat, Int.reduceEq]; refine ⟨fun hb => ?_, fun hb => ?_⟩
    · have hlt2 : k2 < q.arms.length := by simpa using hb
      have g2 := getD_map Am.pv q.arms k2 hlt2
      have hi2 : IntKind.i64.wrap ((k2 : Int) + 1) = ((k2 + 1 : Nat) : Int) := by rw [wrap64 (by omega)]; omega
      have hd2 := Am.alls_drop q.arms k2 hlt2
      have hmu2 : numOf (f 6) = k2 := by rw [h6]; rfl
      obtain ⟨a, ha⟩ : ∃ a, q.arms[k2] = a := ⟨_, rfl⟩
      have ham : a ∈ q.arms := ha ▸ List.getElem_mem hlt2
      rw [ha] at g2 hd2
      rw [hd2, Am.all_eq] at hr2 hrl2
      simp only [List.length_append] at hrl2
      have hlt3 := arm_lt hqm ham
      (repeat (first | (refine aSeq (fun X hX => ?_)) | (refine aBlk ?_) | (refine aSkip ?_) | ((first | refine aReg ?_ | refine aDrw (fun m2 => m2 = _) (by kernel_rfl) rfl ?_); simp -implicitDefEqProofs only [forall_eq, ↓slp, slb, ↓reduceIte, reduceCtorEq, Nat.reduceEqDiff, Nat.reduceAdd, Nat.reduceMul, Nat.reduceLT, Nat.reduceLeDiff, Nat.reduceBEq, Nat.reduceBNe, Int.reduceLE, Int.reduceLT, Int.reduceToNat, Int.reduceEq, tfAbRd5, h0, h3, h5, h6, g0, g2, pI]; try simp only [Ex.fold, Ex.foldcs, ← Va.pv.eq_1]) | (refine aIf ?_; simp -implicitDefEqProofs only [↓slp, slb, ↓reduceIte, reduceCtorEq, Nat.reduceEqDiff, Nat.reduceAdd, Nat.reduceMul, Nat.reduceLT, Nat.reduceLeDiff, Nat.reduceBEq, Nat.reduceBNe, Int.reduceLE, Int.reduceLT, Int.reduceToNat, Int.reduceEq, h0, h3, h5, h6, g0, g2, pI]) | (refine aExit ?_; simp only [slx, ↓reduceIte, Nat.reduceEqDiff, reduceCtorEq]) | (refine aRet ?_; try simp only [slx, ↓reduceIte, Nat.reduceEqDiff, reduceCtorEq]) | (refine hX _ _ ?_; clear hX X) | (clear hX X; refine hX _ _ ?_; clear hX X) | (clear hX X; clear hX X; refine hX _ _ ?_; clear hX X) | (intro hlen; unfold maxLen at hlen) | (apply And.intro; (focus (first | omega | assumption | (repeat' apply And.intro) <;> first | omega | assumption)))))
      refine callE (IH ⟨a.vars, a.eqs⟩ o2 l2 m2 (by have : SizeOf.sizeOf a.eqs ≤ n := by omega
                                                    exact this) happ2.free (by show l2.length + (Qu.alls a.eqs).length < _; omega)) ?_
      simp -implicitDefEqProofs only [↓slp, slb, ↓reduceIte, reduceCtorEq, Nat.reduceEqDiff, Nat.reduceAdd, Nat.reduceMul, Nat.reduceLT, Nat.reduceLeDiff, Nat.reduceBEq, Nat.reduceBNe, Int.reduceLE, Int.reduceLT, Int.reduceToNat, Int.reduceEq, tfAbRd5, h0, h3, h5, h6, g0, g2, pI]; try simp only [Ex.fold, Ex.foldcs, ← Va.pv.eq_1]
      (repeat (first | (refine aSeq (fun X hX => ?_)) | (refine aBlk ?_) | (refine aSkip ?_) | ((first | refine aReg ?_ | refine aDrw (fun m2 => m2 = _) (by kernel_rfl) rfl ?_); simp -implicitDefEqProofs only [forall_eq, ↓slp, slb, ↓reduceIte, reduceCtorEq, Nat.reduceEqDiff, Nat.reduceAdd, Nat.reduceMul, Nat.reduceLT, Nat.reduceLeDiff, Nat.reduceBEq, Nat.reduceBNe, Int.reduceLE, Int.reduceLT, Int.reduceToNat, Int.reduceEq, tfAbRd5, h0, h3, h5, h6, g0, g2, pI]; try simp only [Ex.fold, Ex.foldcs, ← Va.pv.eq_1]) | (refine aIf ?_; simp -implicitDefEqProofs only [↓slp, slb, ↓reduceIte, reduceCtorEq, Nat.reduceEqDiff, Nat.reduceAdd, Nat.reduceMul, Nat.reduceLT, Nat.reduceLeDiff, Nat.reduceBEq, Nat.reduceBNe, Int.reduceLE, Int.reduceLT, Int.reduceToNat, Int.reduceEq, h0, h3, h5, h6, g0, g2, pI]) | (refine aExit ?_; simp only [slx, ↓reduceIte, Nat.reduceEqDiff, reduceCtorEq]) | (refine aRet ?_; try simp only [slx, ↓reduceIte, Nat.reduceEqDiff, reduceCtorEq]) | (refine hX _ _ ?_; clear hX X) | (clear hX X; refine hX _ _ ?_; clear hX X) | (clear hX X; clear hX X; refine hX _ _ ?_; clear hX X) | (intro hlen; unfold maxLen at hlen) | (apply And.intro; (focus (first | omega | assumption | (repeat' apply And.intro) <;> first | omega | assumption)))))
      have happ3 := App.step happ2
      obtain ⟨I3, hI3⟩ : ∃ I3 : F → M → Prop, ∀ f m', I3 f m' = (∃ (k3 : Nat) (o3 : Own) (l3 : List Ex), k3 ≤ a.til.length ∧ f 0 = .sl o3 (l3.map Ex.pv) ∧ f 3 = .ep [.sl .no (b.vars.map Va.pv), .sl .no (b.eqs.map Qu.pv)] ∧ f 5 = pI k1 ∧ f 6 = pI k2 ∧ f 7 = pI k3 ∧ App m o 8 m' o3 ∧ l3 ++ (a.til.drop k3).map (·.e) = l2 ++ (Qu.alls a.eqs ++ a.til.map (·.e))) := ⟨_, fun _ _ => rfl⟩
      refine aLoop I3 (fun f m => a.til.length - numOf (f 7)) ?_ ?_
      · rw [hI3]; exact ⟨0, _, l2 ++ Qu.alls a.eqs, by omega, rfl, h3, h5, h6, rfl, happ3, by rw [List.drop_zero, List.append_assoc]⟩
      intro f m3 hrel
      rw [hI3] at hrel
      clear h0 h3 h5 h6 hb
      obtain ⟨k3, o3, l3, hk3, h0, h3, h5, h6, h7, happ3, hr3⟩ := hrel
      have hrl3 := congrArg List.length hr3
      simp only [List.length_append, List.length_map] at hrl3 hrl2
      (repeat (first | (refine aSeq (fun X hX => ?_)) | (refine aBlk ?_) | (refine aSkip ?_) | ((first | refine aReg ?_ | refine aDrw (fun m2 => m2 = _) (by kernel_rfl) rfl ?_); simp -implicitDefEqProofs only [forall_eq, ↓slp, slb, ↓reduceIte, reduceCtorEq, Nat.reduceEqDiff, Nat.reduceAdd, Nat.reduceMul, Nat.reduceLT, Nat.reduceLeDiff, Nat.reduceBEq, Nat.reduceBNe, Int.reduceLE, Int.reduceLT, Int.reduceToNat, Int.reduceEq, tfAbRd5, h3, h5, h6, h7, g0, g2, pI]; try simp only [Ex.fold, Ex.foldcs, ← Va.pv.eq_1]) | (refine aExit ?_; simp only [slx, ↓reduceIte, Nat.reduceEqDiff, reduceCtorEq]) | (refine aRet ?_; try simp only [slx, ↓reduceIte, Nat.reduceEqDiff, reduceCtorEq]) | (refine hX _ _ ?_; clear hX X) | (clear hX X; refine hX _ _ ?_; clear hX X) | (clear hX X; clear hX X; refine hX _ _ ?_; clear hX X) | (intro hlen; unfold maxLen at hlen) | (apply And.intro; (focus (first | omega | assumption | (repeat' apply And.intro) <;> first | omega | assumption)))))
      refine aIf ?_; simp -implicitDefEqProofs only [↓slp, slb, ↓reduceIte, reduceCtorEq, Nat.reduceEqDiff, Nat.reduceAdd, Nat.reduceMul, Nat.reduceLT, Nat.reduceLeDiff, Nat.reduceBEq, Nat.reduceBNe, Int.reduceLE, Int.reduceLT, Int.reduceToNat, Int.reduceEq]; refine ⟨fun hb => ?_, fun hb => ?_⟩
      · have hlt3 : k3 < a.til.length := by simpa using hb
        have g3 := getD_map Tr.pv a.til k3 hlt3
        have hi3 : IntKind.i64.wrap ((k3 : Int) + 1) = ((k3 + 1 : Nat) : Int) := by rw [wrap64 (by omega)]; omega
        have hmu3 : numOf (f 7) = k3 := by rw [h7]; rfl
        have hd3 : (a.til.drop k3).map (·.e) = a.til[k3].e :: (a.til.drop (k3 + 1)).map (·.e) := by rw [List.drop_eq_getElem_cons hlt3, List.map_cons]
        have hl3 := ex_len l3
        rw [hd3] at hr3
        have hrl4 := congrArg List.length hr3
        simp only [List.length_append, List.length_map, List.length_cons] at hrl4
        have hmx3 : l3.length + 1 ≤ maxLen := by unfold maxLen; omega
        have hf3 := happ3.free
        (repeat (first | (refine aSeq (fun X hX => ?_)) | (refine aBlk ?_) | (refine aSkip ?_) | ((first | refine aReg ?_ | refine aDrw (fun m2 => m2 = _) (by kernel_rfl) rfl ?_); simp -implicitDefEqProofs only [forall_eq, ↓slp, slb, ↓reduceIte, reduceCtorEq, Nat.reduceEqDiff, Nat.reduceAdd, Nat.reduceMul, Nat.reduceLT, Nat.reduceLeDiff, Nat.reduceBEq, Nat.reduceBNe, Int.reduceLE, Int.reduceLT, Int.reduceToNat, Int.reduceEq, tfAbRd5, h0, h3, h5, h6, h7, g0, g2, g3, hi3, pI]; try simp only [Ex.fold, Ex.foldcs, ← Va.pv.eq_1]) | (refine aIf ?_; simp -implicitDefEqProofs only [↓slp, slb, ↓reduceIte, reduceCtorEq, Nat.reduceEqDiff, Nat.reduceAdd, Nat.reduceMul, Nat.reduceLT, Nat.reduceLeDiff, Nat.reduceBEq, Nat.reduceBNe, Int.reduceLE, Int.reduceLT, Int.reduceToNat, Int.reduceEq, h0, h3, h5, h6, h7, g0, g2, g3, hi3, pI]) | (refine aExit ?_; simp only [slx, ↓reduceIte, Nat.reduceEqDiff, reduceCtorEq]) | (refine aRet ?_; try simp only [slx, ↓reduceIte, Nat.reduceEqDiff, reduceCtorEq]) | (refine hX _ _ ?_; clear hX X) | (clear hX X; refine hX _ _ ?_; clear hX X) | (clear hX X; clear hX X; refine hX _ _ ?_; clear hX X) | (intro hlen; unfold maxLen at hlen) | (apply And.intro; (focus (first | omega | assumption | (repeat' apply And.intro) <;> first | omega | assumption)))))
        rw [hI3]
        refine ⟨⟨k3 + 1, _, l3 ++ [a.til[k3].e], hlt3, by rw [List.map_append]; rfl, h3, h5, h6, rfl, App.step happ3, by rw [List.append_assoc]; exact hr3⟩, by omega⟩
      · have hlt3 : k3 = a.til.length := by simp at hb; omega
        subst hlt3
        rw [List.drop_length] at hr3
        simp only [List.map_nil, List.append_nil] at hr3
        (repeat (first | (refine aSeq (fun X hX => ?_)) | (refine aBlk ?_) | (refine aSkip ?_) | ((first | refine aReg ?_ | refine aDrw (fun m2 => m2 = _) (by kernel_rfl) rfl ?_); simp -implicitDefEqProofs only [forall_eq, ↓slp, slb, ↓reduceIte, reduceCtorEq, Nat.reduceEqDiff, Nat.reduceAdd, Nat.reduceMul, Nat.reduceLT, Nat.reduceLeDiff, Nat.reduceBEq, Nat.reduceBNe, Int.reduceLE, Int.reduceLT, Int.reduceToNat, Int.reduceEq, tfAbRd5, h0, h3, h5, h6, h7, hi2, pI]; try simp only [Ex.fold, Ex.foldcs, ← Va.pv.eq_1]) | (refine aIf ?_; simp -implicitDefEqProofs only [↓slp, slb, ↓reduceIte, reduceCtorEq, Nat.reduceEqDiff, Nat.reduceAdd, Nat.reduceMul, Nat.reduceLT, Nat.reduceLeDiff, Nat.reduceBEq, Nat.reduceBNe, Int.reduceLE, Int.reduceLT, Int.reduceToNat, Int.reduceEq, h0, h3, h5, h6, h7, hi2, pI]) | (refine aExit ?_; simp only [slx, ↓reduceIte, Nat.reduceEqDiff, reduceCtorEq]) | (refine aRet ?_; try simp only [slx, ↓reduceIte, Nat.reduceEqDiff, reduceCtorEq]) | (refine hX _ _ ?_; clear hX X) | (clear hX X; refine hX _ _ ?_; clear hX X) | (clear hX X; clear hX X; refine hX _ _ ?_; clear hX X) | (intro hlen; unfold maxLen at hlen) | (apply And.intro; (focus (first | omega | assumption | (repeat' apply And.intro) <;> first | omega | assumption)))))
        rw [hI2]
        refine ⟨⟨k2 + 1, o3, l3, hlt2, h0, h3, h5, rfl, happ3, ?_⟩, by omega⟩
        rw [hr3, ← hr2, List.append_assoc]
    · have hlt2 : k2 = q.arms.length := by simp at hb; omega
      subst hlt2
      rw [List.drop_length] at hr2
      simp only [Am.alls, List.append_nil] at hr2
      (repeat (first | (refine aSeq (fun X hX => ?_)) | (refine aBlk ?_) | (refine aSkip ?_) | ((first | refine aReg ?_ | refine aDrw (fun m2 => m2 = _) (by kernel_rfl) rfl ?_); simp -implicitDefEqProofs only [forall_eq, ↓slp, slb, ↓reduceIte, reduceCtorEq, Nat.reduceEqDiff, Nat.reduceAdd, Nat.reduceMul, Nat.reduceLT, Nat.reduceLeDiff, Nat.reduceBEq, Nat.reduceBNe, Int.reduceLE, Int.reduceLT, Int.reduceToNat, Int.reduceEq, tfAbRd5, h0, h3, h5, h6, hi, pI]; try simp only [Ex.fold, Ex.foldcs, ← Va.pv.eq_1]) | (refine aIf ?_; simp -implicitDefEqProofs only [↓slp, slb, ↓reduceIte, reduceCtorEq, Nat.reduceEqDiff, Nat.reduceAdd, Nat.reduceMul, Nat.reduceLT, Nat.reduceLeDiff, Nat.reduceBEq, Nat.reduceBNe, Int.reduceLE, Int.reduceLT, Int.reduceToNat, Int.reduceEq, h0, h3, h5, h6, hi, pI]) | (refine aExit ?_; simp only [slx, ↓reduceIte, Nat.reduceEqDiff, reduceCtorEq]) | (refine aRet ?_; try simp only [slx, ↓reduceIte, Nat.reduceEqDiff, reduceCtorEq]) | (refine hX _ _ ?_; clear hX X) | (clear hX X; refine hX _ _ ?_; clear hX X) | (clear hX X; clear hX X; refine hX _ _ ?_; clear hX X) | (intro hlen; unfold maxLen at hlen) | (apply And.intro; (focus (first | omega | assumption | (repeat' apply And.intro) <;> first | omega | assumption)))))
      rw [hI]
      refine ⟨⟨k1 + 1, o2, l2, hlt, h0, h3, rfl, happ2, ?_⟩, by omega⟩
      rw [hr2, ← hr1, List.append_assoc]
  · have hlt : k1 = b.eqs.length := by simp at hb; omega
    subst hlt
    rw [List.drop_length] at hr1
    simp only [Qu.alls, List.append_nil] at hr1
    (repeat (first | (refine aSeq (fun X hX => ?_)) | (refine aBlk ?_) | (refine aSkip ?_) | ((first | refine aReg ?_ | refine aDrw (fun m2 => m2 = _) (by kernel_rfl) rfl ?_); simp -implicitDefEqProofs only [forall_eq, ↓slp, slb, ↓reduceIte, reduceCtorEq, Nat.reduceEqDiff, Nat.reduceAdd, Nat.reduceMul, Nat.reduceLT, Nat.reduceLeDiff, Nat.reduceBEq, Nat.reduceBNe, Int.reduceLE, Int.reduceLT, Int.reduceToNat, Int.reduceEq, tfAbRd5, h0, h3, h5, pI]; try simp only [Ex.fold, Ex.foldcs, ← Va.pv.eq_1]) | (refine aIf ?_; simp -implicitDefEqProofs only [↓slp, slb, ↓reduceIte, reduceCtorEq, Nat.reduceEqDiff, Nat.reduceAdd, Nat.reduceMul, Nat.reduceLT, Nat.reduceLeDiff, Nat.reduceBEq, Nat.reduceBNe, Int.reduceLE, Int.reduceLT, Int.reduceToNat, Int.reduceEq, h0, h3, h5, pI]) | (refine aExit ?_; simp only [slx, ↓reduceIte, Nat.reduceEqDiff, reduceCtorEq]) | (refine aRet ?_; try simp only [slx, ↓reduceIte, Nat.reduceEqDiff, reduceCtorEq]) | (refine hX _ _ ?_; clear hX X) | (clear hX X; refine hX _ _ ?_; clear hX X) | (clear hX X; clear hX X; refine hX _ _ ?_; clear hX X) | (intro hlen; unfold maxLen at hlen) | (apply And.intro; (focus (first | omega | assumption | (repeat' apply And.intro) <;> first | omega | assumption)))))
    simp only [aPost, Try.results10, aRes_n, aRes_t, aRes_c, pack_one, pack_two]
    rw [← hr1]
    exact leave_app (o := o1) (o0 := o) (xs := l1.map Ex.pv) happ (ex_len l1) ⟨rfl, rfl⟩
end Go.Proofs.Ytibhhoknipdlpaa

/-
  The maker's state: a tape, and what it counts.
-/
set_option linter.unusedVariables false
set_option linter.unusedSimpArgs false
namespace Go.Proofs.Ytibhhoknipdlpaa
open Go

abbrev pU (n : Int) : PV := .v (.int .u8 n)
structure GP where
  l : List Int
  gp : Nat
  tp : Nat
  subs : Int
  main : Bool
def GP.tape (p : GP) (i : Nat) : List PV := [.sl .no (p.l.map pU), .v (.int .i64 (i : Int))]
def GP.gen (p : GP) (n q : Int) : List PV := [.bp p.tp 0, .v (.int .i64 n), .v (.int .i64 q), .v (.int .i64 p.subs), .v (.bool p.main)]
def gst (p : GP) (m : M) (i : Nat) (n q : Int) : M := (m.upd p.tp (p.tape i)).upd p.gp (p.gen n q)
structure GP.ok (p : GP) (m : M) : Prop where
  tp : p.tp < m.nb
  gp : p.gp < m.nb
  ne : p.tp ≠ p.gp
  len : p.l.length ≤ 1000
  el : ∀ x ∈ p.l, 0 ≤ x ∧ x ≤ 255
  sub : p.subs < 100

section
variable {p : GP} {m : M} {i : Nat} {n q : Int}
theorem gst_nb : (gst p m i n q).nb = m.nb := by simp [gst, upd_nb]
theorem gst_nt : (gst p m i n q).nt = m.nt := rfl
theorem gst_fresh (s : Nat) : (gst p m i n q).fresh s = gst p (m.fresh s) i n q := rfl
theorem gst_use (o : Own) : o.use (gst p m i n q) = gst p (o.use m) i n q := by cases o <;> rfl
theorem gst_free (o : Own) (s : Nat) : o.free (gst p m i n q) s = o.free m s := by cases o <;> rfl
theorem gst_alive (t s : Nat) : (gst p m i n q).alive t s = m.alive t s := rfl
theorem gst_get {k : Nat} : (gst p m i n q).get k = if k = p.gp ∧ p.gp < m.nb then some (p.gen n q) else if k = p.tp ∧ p.tp < m.nb then some (p.tape i) else m.get k := by
  unfold gst
  rw [M.get_upd, upd_nb, M.get_upd]
theorem gst_t (hT : p.tp < m.nb) (hN : p.tp ≠ p.gp) : (gst p m i n q).get p.tp = some (p.tape i) := by
  unfold gst
  rw [M.get_upd, if_neg (fun h => hN h.1), M.get_upd, if_pos ⟨rfl, hT⟩]
theorem gst_g (hG : p.gp < m.nb) : (gst p m i n q).get p.gp = some (p.gen n q) := by
  unfold gst
  rw [M.get_upd, if_pos ⟨rfl, by rw [upd_nb]; exact hG⟩]
theorem set_comm {α : Type} (l : List α) {a b : Nat} (h : a ≠ b) (x y : α) : (l.set a x).set b y = (l.set b y).set a x := by
  apply List.ext_getElem?
  intro k
  simp only [List.getElem?_set, List.length_set]
  by_cases h1 : b = k <;> by_cases h2 : a = k <;> simp_all
theorem gst_updt (hN : p.tp ≠ p.gp) (j : Nat) : (gst p m i n q).upd p.tp [PV.sl Own.no (List.map pU p.l), PV.v (Value.int IntKind.i64 (j : Int))] = gst p m j n q := by
  unfold gst M.upd
  congr 1
  simp only []
  rw [set_comm _ hN, List.set_set, set_comm _ hN]
  rfl
theorem gst_updg (n' q' : Int) : (gst p m i n q).upd p.gp [PV.bp p.tp 0, PV.v (Value.int IntKind.i64 n'), PV.v (Value.int IntKind.i64 q'), PV.v (Value.int IntKind.i64 p.subs), PV.v (Value.bool p.main)] = gst p m i n' q' := by
  unfold gst M.upd
  congr 1
  simp only []
  rw [List.set_set]
  rfl
theorem gst_ext (bs : List (Option (List PV))) (hT : p.tp < m.nb) (hG : p.gp < m.nb) : (gst p m i n q).ext bs = gst p (m.ext bs) i n q := by
  unfold gst
  rw [ext_updOld hT, ext_updOld (by rw [upd_nb]; exact hG)]
theorem gst_ext2 (bs cs : List (Option (List PV))) (hT : p.tp < m.nb) (hG : p.gp < m.nb) : (gst p (m.ext bs) i n q).ext cs = gst p (m.ext (bs ++ cs)) i n q := by
  rw [gst_ext cs (by rw [ext_nb]; omega) (by rw [ext_nb]; omega), ext_ext]
theorem gst_et (bs : List (Option (List PV))) (hT : p.tp < m.nb) (hN : p.tp ≠ p.gp) : (gst p (m.ext bs) i n q).get p.tp = some (p.tape i) := gst_t (by rw [ext_nb]; omega) hN
theorem gst_eg (bs : List (Option (List PV))) (hG : p.gp < m.nb) : (gst p (m.ext bs) i n q).get p.gp = some (p.gen n q) := gst_g (by rw [ext_nb]; omega)
theorem gst_own {bs : List (Option (List PV))} {k j : Nat} (h : m.nb = k) (hT : p.tp < m.nb) (hG : p.gp < m.nb) : (gst p (m.ext bs) i n q).get (k + j) = (bs[j]?).join := by
  rw [← ext_get (bs := bs) (i := j) h]
  unfold gst
  rw [M.get_upd, if_neg (fun h' => by have := h'.1; omega), M.get_upd, if_neg (fun h' => by have := h'.1; omega)]
theorem gst_own0 {bs : List (Option (List PV))} {k : Nat} (h : m.nb = k) (hT : p.tp < m.nb) (hG : p.gp < m.nb) : (gst p (m.ext bs) i n q).get k = (bs[0]?).join := gst_own (j := 0) h hT hG
theorem gst_ou {bs : List (Option (List PV))} {k j : Nat} {c : List PV} (h : m.nb = k) (hT : p.tp < m.nb) (hG : p.gp < m.nb) : (gst p (m.ext bs) i n q).upd (k + j) c = gst p (m.ext (bs.set j (some c))) i n q := by
  rw [← ext_upd (i := j) h]
  unfold gst M.upd
  congr 1
  simp only []
  rw [set_comm _ (show p.gp ≠ k + j by omega), set_comm _ (show p.tp ≠ k + j by omega)]
theorem gst_ou0 {bs : List (Option (List PV))} {k : Nat} {c : List PV} (h : m.nb = k) (hT : p.tp < m.nb) (hG : p.gp < m.nb) : (gst p (m.ext bs) i n q).upd k c = gst p (m.ext (bs.set 0 (some c))) i n q := gst_ou (j := 0) h hT hG
theorem GP.ok.ext (h : p.ok m) (bs : List (Option (List PV))) : p.ok (m.ext bs) := ⟨by rw [ext_nb]; have := h.tp; omega, by rw [ext_nb]; have := h.gp; omega, h.ne, h.len, h.el, h.sub⟩
theorem GP.ok.toks {mm : M} (h : p.ok m) (ht : Toks m mm) : p.ok mm := ⟨by rw [ht.nb]; exact h.tp, by rw [ht.nb]; exact h.gp, h.ne, h.len, h.el, h.sub⟩
end
theorem pure_within (n k : Nat) : ∀ x : PV, x.pure = true → x.within n k = true := by
  intro x
  induction x using PV.rec (motive_2 := fun l => PV.pures l = true → PV.withins n k l = true) with
  | v | junk | ep => intro _; rfl
  | sl o xs _ =>
    intro h
    simp only [PV.pure, beq_iff_eq] at h
    subst h
    rfl
  | ag xs ih => intro h; exact ih h
  | tp xs ih => intro h; exact ih h
  | bp | bs => intro h; simp [PV.pure] at h
  | fn f a b iha ihb =>
    intro h
    simp only [PV.pure, Bool.and_eq_true] at h
    simp only [PV.within, iha h.1, ihb h.2, Bool.and_self]
  | ifc t y ih => intro h; exact ih h
  | nil => rfl
  | cons y l h1 h2 =>
    rename_i h
    simp only [PV.pures, Bool.and_eq_true] at h
    simp only [PV.withins, h1 h.1, h2 h.2, Bool.and_self]
theorem gst_boxes {p : GP} {m mm : M} (h : mm.boxes = m.boxes) (i : Nat) (n q : Int) : (gst p mm i n q).boxes = (gst p m i n q).boxes := by
  unfold gst M.upd
  simp only [h]
theorem leave_gst {p : GP} {m mm : M} {bs : List (Option (List PV))} {i i' : Nat} {n q n' q' : Int} {v : PV} {R : PV → M → Prop} (hok : p.ok m) (ht : Toks m mm) (hv : v.settle.pure = true) (hR : R v.settle (gst p m i' n' q')) :
    ∃ v' m', Leave (gst p m i n q) (gst p (mm.ext bs) i' n' q') v v' m' ∧ R v' m' := by
  rw [← gst_ext bs (by rw [ht.nb]; exact hok.tp) (by rw [ht.nb]; exact hok.gp)]
  refine ⟨_, _, .gen v v.settle (gst p m i' n' q') (.inr rfl) (by rw [gst_nb, gst_nb]; exact Nat.le_refl _) (by rw [gst_nt, gst_nt]; exact Nat.le_refl _) ?_ ?_ (fun id c hc => ?_) (pure_within _ _ _ hv), hR⟩
  · show ((gst p mm i' n' q').boxes ++ bs).take (gst p m i' n' q').boxes.length = _
    rw [gst_boxes ht.boxes]
    simp
  · exact ht.toks
  · unfold gst at hc
    rw [M.get_upd] at hc
    split at hc
    · rename_i h
      cases hc
      refine .inr ?_
      have := hok.tp
      simp [GP.gen, PV.withins, PV.within, gst_nb, this]
    · rename_i h1
      rw [M.get_upd] at hc
      split at hc
      · cases hc
        exact .inr (by simp [GP.tape, PV.withins, PV.within])
      · rename_i h2
        refine .inl ?_
        unfold gst
        rw [upd_nb] at h1
        rw [M.get_upd, if_neg (by rw [upd_nb]; exact h1), M.get_upd, if_neg h2]
        exact hc
theorem leave_gst0 {p : GP} {m mm : M} {i i' : Nat} {n q n' q' : Int} {v : PV} {R : PV → M → Prop} (hok : p.ok m) (ht : Toks m mm) (hv : v.settle.pure = true) (hR : R v.settle (gst p m i' n' q')) :
    ∃ v' m', Leave (gst p m i n q) (gst p mm i' n' q') v v' m' ∧ R v' m' := by
  have := leave_gst (bs := []) (i := i) (n := n) (q := q) (R := R) hok ht hv hR
  rwa [show mm.ext [] = mm by simp [M.ext]] at this
/-- The states that differ in what the maker counts alone. -/
def isG (p : GP) (m m2 : M) : Prop := ∃ i n q, m2 = gst p m i n q
theorem isG_all {p : GP} {m : M} {Q : M → Prop} : (∀ m2, isG p m m2 → Q m2) = ∀ i n q, Q (gst p m i n q) := by
  refine propext ⟨fun h i n q => h _ ⟨i, n, q, rfl⟩, fun h m2 ⟨i, n, q, e⟩ => e ▸ h i n q⟩
/-- .. and in all own boxes but the second. -/
def isG1 (p : GP) (m : M) (c : List PV) (m2 : M) : Prop := ∃ x r i n q, m2 = gst p (m.ext (x :: some c :: r)) i n q
theorem isG1_all {p : GP} {m : M} {c : List PV} {Q : M → Prop} : (∀ m2, isG1 p m c m2 → Q m2) = ∀ x r i n q, Q (gst p (m.ext (x :: some c :: r)) i n q) := by
  refine propext ⟨fun h x r i n q => h _ ⟨x, r, i, n, q, rfl⟩, fun h m2 ⟨x, r, i, n, q, e⟩ => e ▸ h x r i n q⟩
/-- One of the function's own boxes is settled. -/
theorem gstep_gst {p : GP} {m : M} {bs : List (Option (List PV))} {i : Nat} {n q : Int} {f f' : F} (j : Nat) (x : PV) (hok : p.ok m) (hj : bs[j]? = some (some x.cells)) (hx : x.ok = true) (hf : ∀ t, f' t = f t ∨ f' t = (f t).frz (m.nb + j) [x] ∨ f' t = .junk) :
    GStep f (gst p (m.ext bs) i n q) f' (gst p (m.ext (bs.set j none)) i n q) := by
  have hT := hok.tp
  have hG := hok.gp
  refine .inr ⟨m.nb + j, [x], x.cells.length, _, ?_, .inl rfl, fun y hy => ?_, hf, rfl, ?_, fun k c hc => ?_⟩
  · rw [gst_own rfl hT hG, hj]; simp
  · obtain rfl : y = x := by simpa using hy
    exact ⟨rfl, hx⟩
  · unfold gst M.upd M.ext; simp
  · have hjl : j < bs.length := (List.getElem?_eq_some_iff.1 hj).1
    have key : ∀ bs' : List (Option (List PV)), bs'.length = bs.length → ∀ k, m.nb ≤ k → (gst p (m.ext bs') i n q).get k = (bs'[k - m.nb]?).join := fun bs' _ k hk => by
      have := gst_own (p := p) (m := m) (i := i) (n := n) (q := q) (bs := bs') (k := m.nb) (j := k - m.nb) rfl hT hG
      rwa [show m.nb + (k - m.nb) = k by omega] at this
    by_cases hk : m.nb ≤ k
    · rw [key _ (by simp) k hk, List.getElem?_set] at hc
      by_cases hkj : j = k - m.nb
      · rw [if_pos hkj, if_pos (by omega)] at hc; simp at hc
      · rw [if_neg hkj] at hc
        exact ⟨by omega, .inl (by rw [key _ rfl k hk]; exact hc)⟩
    · refine ⟨by omega, .inl ?_⟩
      rw [← hc]
      have old : ∀ bs' : List (Option (List PV)), (gst p (m.ext bs') i n q).get k = (gst p m i n q).get k := fun bs' => by
        have hm : (m.ext bs').get k = m.get k := by
          unfold M.get M.ext
          simp only []
          rw [List.getElem?_append_left (by unfold M.nb at hk; omega)]
        have hT' : p.tp < m.nb + bs'.length := by omega
        have hG' : p.gp < m.nb + bs'.length := by omega
        rw [gst_get, gst_get, hm, ext_nb]
        simp only [hT', hG', hT, hG, and_true]
      rw [old, old]
theorem frz_ne {i o id : Nat} {xs : List PV} (h : i ≠ id) : (PV.bp i o).frz id xs = .bp i o := by simp [PV.frz, h]
theorem frz_eq {id : Nat} {x : PV} : (PV.bp id 0).frz id [x] = .ep x.cells := by simp [PV.frz]
/-- Ahead of a region one of the function's own boxes is settled. -/
theorem aRegF {P : Program} {mu : List Nat} {K : Exit → F → M → Prop} {f : F} {p : GP} {m : M} {bs : List (Option (List PV))} {i : Nat} {n q : Int} {id : Nat} {l : List Oper} (j : Nat) (x : PV) (hok : p.ok m) (hj : bs[j]? = some (some x.cells)) (hx : x.ok = true)
    (h : ∀ f', (∀ t, f' t = (f t).frz (m.nb + j) [x]) → aOps P mu l.toArray l (K .normal) f' (gst p (m.ext (bs.set j none)) i n q)) : aCode P mu (.region id l.toArray false) K f (gst p (m.ext bs) i n q) :=
  aRegG (gstep_gst j x hok hj hx (fun t => .inr (.inl rfl))) (h _ (fun t => rfl))
theorem aDrwF {P : Program} {mu : List Nat} {K : Exit → F → M → Prop} {f : F} {p : GP} {m : M} {bs : List (Option (List PV))} {i : Nat} {n q : Int} {id : Nat} {l : List Oper} (j : Nat) (x : PV) (hok : p.ok m) (hj : bs[j]? = some (some x.cells)) (hx : x.ok = true) (S : M → Prop) (hlex : lexOk mu l.toArray = true) (hS : S (gst p (m.ext (bs.set j none)) i n q))
    (h : ∀ f', (∀ t, f' t = (f t).frz (m.nb + j) [x]) → aLexL P mu l.toArray S (K .normal) l f' (gst p (m.ext (bs.set j none)) i n q)) : aCode P mu (.region id l.toArray true) K f (gst p (m.ext bs) i n q) :=
  aDrwG (gstep_gst j x hok hj hx (fun t => .inr (.inl rfl))) S hlex hS (h _ (fun t => rfl))
end Go.Proofs.Ytibhhoknipdlpaa
