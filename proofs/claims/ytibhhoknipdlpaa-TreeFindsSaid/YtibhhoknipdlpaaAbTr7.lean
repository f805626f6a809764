/-
  A list that is handed on and grown; a string added to it.
-/
import Derived.Test.YtibhhoknipdlpaaAbTr6
set_option linter.unusedVariables false
set_option linter.unusedSimpArgs false
namespace Go.Proofs.Ytibhhoknipdlpaa
open Go
set_option linter.defProp false
def tfAbTr7 := And.intro @td_3 (And.intro @zv_3 (And.intro @Try.underlying3 (And.intro @td_4 (And.intro @zv_4 (And.intro @Try.underlying4 (And.intro @td_5 (And.intro @zv_5 (And.intro @Try.underlying5 (And.intro @td_9 (And.intro @zv_9 (And.intro @Try.underlying9 (And.intro @td_21 (And.intro @zv_21 (And.intro @Try.underlying21 (And.intro @td_30 (And.intro @zv_30 (And.intro @tel_30 (And.intro @Try.underlying30 (And.intro @td_32 (And.intro @zv_32 (And.intro @tel_32 (And.intro @Try.underlying32 (And.intro @td_37 (And.intro @zv_37 (And.intro @tf_37 (And.intro @fl_37 (And.intro @td_41 (And.intro @zv_41 (And.intro @tel_41 (And.intro @Try.underlying41 (And.intro @td_44 (And.intro @zv_44 (And.intro @tf_44 (And.intro @td_49 (And.intro @zv_49 (And.intro @tf_49 (And.intro @fl_49 (And.intro @td_50 (And.intro @zv_50 (And.intro @tel_50 (And.intro @Try.underlying50 (And.intro @td_52 (And.intro @zv_52 (And.intro @tf_52 (And.intro @td_63 (And.intro @zv_63 (And.intro @tf_63 @fl_63)))))))))))))))))))))))))))))))))))))))))))))))
-- TYPES: 3 4 5 9 21 30 32 37 41 44 49 50 52 63

theorem M.kill_len (m : M) (t : Nat) : (m.kill t).toks.length = m.toks.length := by simp [M.kill]
theorem use_len (o : Own) (m : M) : (o.use m).toks.length = m.nt := by cases o <;> simp [Own.use, M.kill, M.nt]
theorem use_boxes (o : Own) (m : M) : (o.use m).boxes = m.boxes := by cases o <;> rfl

/-- What has been grown out of a list that came in with o0 at m0. -/
structure App (m0 : M) (o0 : Own) (s : Nat) (m : M) (o : Own) : Prop where
  boxes : m.boxes = m0.boxes
  free : o.free m s
  toks : (o.use m).toks.take m0.nt = (o0.use m0).toks
  nt : m0.nt ≤ m.nt
theorem App.refl {m : M} {o : Own} {s : Nat} (h : o.free m s) : App m o s m o := ⟨rfl, h, by rw [List.take_of_length_le]; rw [use_len]; exact Nat.le_refl _, Nat.le_refl _⟩
theorem App.step {m0 m : M} {o0 o : Own} {s : Nat} (h : App m0 o0 s m o) : App m0 o0 s ((o.use m).fresh s) (.tok m.nt) := by
  have hl := use_len o m
  refine ⟨by show (o.use m).boxes = _; rw [use_boxes]; exact h.boxes, ?_, ?_, ?_⟩
  · show ((o.use m).toks ++ [some s])[m.nt]? = some (some s)
    rw [← hl]; simp
  · show (((o.use m).toks ++ [some s]).set m.nt none).take m0.nt = _
    rw [← h.toks, List.take_set_of_le h.nt, List.take_append_of_le_length (by rw [hl]; exact h.nt)]
  · show m0.nt ≤ ((o.use m).toks ++ [some s]).length
    have := h.nt
    simp [hl]; omega
theorem leave_app {m0 m : M} {o0 o : Own} {s : Nat} {xs : List PV} {R : PV → M → Prop} (h : App m0 o0 s m o) (hs : ∀ x ∈ xs, x.cells.length = s) (hR : R (.sl (.tok m0.nt) xs) ((o0.use m0).fresh s)) : ∃ v' m', Leave m0 m (.sl o xs) v' m' ∧ R v' m' := by
  refine ⟨_, _, .tok o xs s (o0.use m0) ?_ (use_boxes _ _) h.free h.toks (use_len _ _) hs, hR⟩
  rw [h.boxes]; simp [M.nb]

def addS (l : List Str) (s : Str) : List Str := if hasS l s then l else l ++ [s]
theorem addS_len (l : List Str) (s : Str) : (addS l s).length ≤ l.length + 1 := by unfold addS; split <;> simp
theorem strs_one (l : List Str) : ∀ x ∈ l.map pS, x.cells.length = 1 := fun x hx => by
  obtain ⟨s, _, rfl⟩ := List.mem_map.1 hx
  rfl

set_option maxRecDepth 20000 in
set_option maxHeartbeats 400000 in
theorem add_any (o : Own) (l : List Str) (s : Str) (m : M) (hf : o.free m 1) (hlen : l.length < 2 ^ 40) : ACalls Try.prog 89 [.sl o (l.map pS), pS s] m (fun v m' => v = .sl (.tok m.nt) ((addS l s).map pS) ∧ m' = (o.use m).fresh 1) := by
  refine ACalls.enter (mu := []) ok_mix Try.func89 rfl (by kernel_rfl) (by kernel_rfl) (by simp only [List.length_cons, List.length_nil, Try.ntmps89]; omega) ?_
  (repeat (first | (refine aSeq (fun X hX => ?_)) | (refine aBlk ?_) | (refine aSkip ?_) | ((first | refine aReg ?_ | refine aDrw (fun m2 => m2 = _) (by kernel_rfl) rfl ?_); simp -implicitDefEqProofs only [forall_eq, ↓slp, slb, List.getElem?_toArray, eqCells, fillA, fillOk, PV.one, PV.ok, PV.pure, PV.pures, PV.settle, PV.settles, List.map_cons, List.map_nil, List.getElem?_cons_zero, List.getElem?_cons_succ, List.getElem?_nil, List.getD_cons_zero, List.getD_cons_succ, List.drop_zero, List.drop_succ_cons, List.take_zero, List.take_succ_cons, List.take_nil, List.drop_nil, List.length_cons, List.length_nil, List.length_map, List.all_cons, List.all_nil, List.contains_nil, List.contains_cons, List.nil_append, List.cons_append, List.append_nil, List.append_eq, Option.map_some, Option.map_none, Option.bind_some, Option.some.injEq, Option.isSome_some, beq_self_eq_true, bne_self_eq_false, if_true, if_false, ↓reduceIte, ne_eq, reduceCtorEq, Nat.reduceEqDiff, Nat.reduceAdd, Nat.reduceMul, Nat.reduceLT, Nat.reduceLeDiff, Nat.reduceBEq, Nat.reduceBNe, Int.reduceLE, Int.reduceLT, Int.reduceToNat, Int.reduceEq, forall_const, implies_true, List.mem_cons, List.not_mem_nil, forall_eq_or_imp, forall_eq, eq_self, List.set_cons_zero, List.set_cons_succ, List.set_nil, tfAbTr7, Ex.settle_pv, Ex.pure_pv, Ex.cells_pv, Ex.cs.eq_1, On.pv.eq_1, Ty.pv.eq_1, Va.settle_pv, Va.pure_pv, Va.cells_pv, Va.cs.eq_1]; try simp only [Ex.fold, Ex.foldcs, ← Va.pv.eq_1]) | (refine aExit ?_; simp only [aThen_n, aThen_e, aThen_r, aBlock_n, aBlock_r, aBlock_e, ↓reduceIte, Nat.reduceEqDiff, reduceCtorEq, if_true, if_false, Nat.zero_ne_one, Nat.one_ne_zero]) | (refine aRet ?_; try simp only [aThen_n, aThen_e, aThen_r, aBlock_n, aBlock_r, aBlock_e, ↓reduceIte, Nat.reduceEqDiff, reduceCtorEq, if_true, if_false, Nat.zero_ne_one, Nat.one_ne_zero]) | (refine hX _ _ ?_; clear hX X) | (clear hX X; refine hX _ _ ?_; clear hX X) | (clear hX X; clear hX X; refine hX _ _ ?_; clear hX X) | (intro hlen; unfold maxLen at hlen) | (apply And.intro; (focus (first | omega | assumption | (repeat' apply And.intro) <;> first | omega | assumption)))))
  refine callE (contains_any _ _ _ _) ?_
  cases c1 : hasS l s with
  | true =>
    simp -implicitDefEqProofs only [↓slp, slb, List.getElem?_toArray, eqCells, fillA, fillOk, PV.one, PV.ok, PV.pure, PV.pures, PV.settle, PV.settles, List.map_cons, List.map_nil, List.getElem?_cons_zero, List.getElem?_cons_succ, List.getElem?_nil, List.getD_cons_zero, List.getD_cons_succ, List.drop_zero, List.drop_succ_cons, List.take_zero, List.take_succ_cons, List.take_nil, List.drop_nil, List.length_cons, List.length_nil, List.length_map, List.all_cons, List.all_nil, List.contains_nil, List.contains_cons, List.nil_append, List.cons_append, List.append_nil, List.append_eq, Option.map_some, Option.map_none, Option.bind_some, Option.some.injEq, Option.isSome_some, beq_self_eq_true, bne_self_eq_false, if_true, if_false, ↓reduceIte, ne_eq, reduceCtorEq, Nat.reduceEqDiff, Nat.reduceAdd, Nat.reduceMul, Nat.reduceLT, Nat.reduceLeDiff, Nat.reduceBEq, Nat.reduceBNe, Int.reduceLE, Int.reduceLT, Int.reduceToNat, Int.reduceEq, forall_const, implies_true, List.mem_cons, List.not_mem_nil, forall_eq_or_imp, forall_eq, eq_self, List.set_cons_zero, List.set_cons_succ, List.set_nil, tfAbTr7, Ex.settle_pv, Ex.pure_pv, Ex.cells_pv, Ex.cs.eq_1, On.pv.eq_1, Ty.pv.eq_1, Va.settle_pv, Va.pure_pv, Va.cells_pv, Va.cs.eq_1, c1, pB]; try simp only [Ex.fold, Ex.foldcs, ← Va.pv.eq_1]
    (repeat (first | (refine aSeq (fun X hX => ?_)) | (refine aBlk ?_) | (refine aSkip ?_) | ((first | refine aReg ?_ | refine aDrw (fun m2 => m2 = _) (by kernel_rfl) rfl ?_); simp -implicitDefEqProofs only [forall_eq, ↓slp, slb, List.getElem?_toArray, eqCells, fillA, fillOk, PV.one, PV.ok, PV.pure, PV.pures, PV.settle, PV.settles, List.map_cons, List.map_nil, List.getElem?_cons_zero, List.getElem?_cons_succ, List.getElem?_nil, List.getD_cons_zero, List.getD_cons_succ, List.drop_zero, List.drop_succ_cons, List.take_zero, List.take_succ_cons, List.take_nil, List.drop_nil, List.length_cons, List.length_nil, List.length_map, List.all_cons, List.all_nil, List.contains_nil, List.contains_cons, List.nil_append, List.cons_append, List.append_nil, List.append_eq, Option.map_some, Option.map_none, Option.bind_some, Option.some.injEq, Option.isSome_some, beq_self_eq_true, bne_self_eq_false, if_true, if_false, ↓reduceIte, ne_eq, reduceCtorEq, Nat.reduceEqDiff, Nat.reduceAdd, Nat.reduceMul, Nat.reduceLT, Nat.reduceLeDiff, Nat.reduceBEq, Nat.reduceBNe, Int.reduceLE, Int.reduceLT, Int.reduceToNat, Int.reduceEq, forall_const, implies_true, List.mem_cons, List.not_mem_nil, forall_eq_or_imp, forall_eq, eq_self, List.set_cons_zero, List.set_cons_succ, List.set_nil, tfAbTr7, Ex.settle_pv, Ex.pure_pv, Ex.cells_pv, Ex.cs.eq_1, On.pv.eq_1, Ty.pv.eq_1, Va.settle_pv, Va.pure_pv, Va.cells_pv, Va.cs.eq_1]; try simp only [Ex.fold, Ex.foldcs, ← Va.pv.eq_1]) | (refine aExit ?_; simp only [aThen_n, aThen_e, aThen_r, aBlock_n, aBlock_r, aBlock_e, ↓reduceIte, Nat.reduceEqDiff, reduceCtorEq, if_true, if_false, Nat.zero_ne_one, Nat.one_ne_zero]) | (refine aRet ?_; try simp only [aThen_n, aThen_e, aThen_r, aBlock_n, aBlock_r, aBlock_e, ↓reduceIte, Nat.reduceEqDiff, reduceCtorEq, if_true, if_false, Nat.zero_ne_one, Nat.one_ne_zero]) | (refine hX _ _ ?_; clear hX X) | (clear hX X; refine hX _ _ ?_; clear hX X) | (clear hX X; clear hX X; refine hX _ _ ?_; clear hX X) | (intro hlen; unfold maxLen at hlen) | (apply And.intro; (focus (first | omega | assumption | (repeat' apply And.intro) <;> first | omega | assumption)))))
    refine aIf ?_; simp -implicitDefEqProofs only [↓slp, slb, List.getElem?_toArray, eqCells, fillA, fillOk, PV.one, PV.ok, PV.pure, PV.pures, PV.settle, PV.settles, List.map_cons, List.map_nil, List.getElem?_cons_zero, List.getElem?_cons_succ, List.getElem?_nil, List.getD_cons_zero, List.getD_cons_succ, List.drop_zero, List.drop_succ_cons, List.take_zero, List.take_succ_cons, List.take_nil, List.drop_nil, List.length_cons, List.length_nil, List.length_map, List.all_cons, List.all_nil, List.contains_nil, List.contains_cons, List.nil_append, List.cons_append, List.append_nil, List.append_eq, Option.map_some, Option.map_none, Option.bind_some, Option.some.injEq, Option.isSome_some, beq_self_eq_true, bne_self_eq_false, if_true, if_false, ↓reduceIte, ne_eq, reduceCtorEq, Nat.reduceEqDiff, Nat.reduceAdd, Nat.reduceMul, Nat.reduceLT, Nat.reduceLeDiff, Nat.reduceBEq, Nat.reduceBNe, Int.reduceLE, Int.reduceLT, Int.reduceToNat, Int.reduceEq, forall_const, implies_true, List.mem_cons, List.not_mem_nil, forall_eq_or_imp, forall_eq, eq_self, List.set_cons_zero, List.set_cons_succ, List.set_nil]
    (repeat (first | (refine aSeq (fun X hX => ?_)) | (refine aBlk ?_) | (refine aSkip ?_) | ((first | refine aReg ?_ | refine aDrw (fun m2 => m2 = _) (by kernel_rfl) rfl ?_); simp -implicitDefEqProofs only [forall_eq, ↓slp, slb, List.getElem?_toArray, eqCells, fillA, fillOk, PV.one, PV.ok, PV.pure, PV.pures, PV.settle, PV.settles, List.map_cons, List.map_nil, List.getElem?_cons_zero, List.getElem?_cons_succ, List.getElem?_nil, List.getD_cons_zero, List.getD_cons_succ, List.drop_zero, List.drop_succ_cons, List.take_zero, List.take_succ_cons, List.take_nil, List.drop_nil, List.length_cons, List.length_nil, List.length_map, List.all_cons, List.all_nil, List.contains_nil, List.contains_cons, List.nil_append, List.cons_append, List.append_nil, List.append_eq, Option.map_some, Option.map_none, Option.bind_some, Option.some.injEq, Option.isSome_some, beq_self_eq_true, bne_self_eq_false, if_true, if_false, ↓reduceIte, ne_eq, reduceCtorEq, Nat.reduceEqDiff, Nat.reduceAdd, Nat.reduceMul, Nat.reduceLT, Nat.reduceLeDiff, Nat.reduceBEq, Nat.reduceBNe, Int.reduceLE, Int.reduceLT, Int.reduceToNat, Int.reduceEq, forall_const, implies_true, List.mem_cons, List.not_mem_nil, forall_eq_or_imp, forall_eq, eq_self, List.set_cons_zero, List.set_cons_succ, List.set_nil, tfAbTr7, Ex.settle_pv, Ex.pure_pv, Ex.cells_pv, Ex.cs.eq_1, On.pv.eq_1, Ty.pv.eq_1, Va.settle_pv, Va.pure_pv, Va.cells_pv, Va.cs.eq_1]; try simp only [Ex.fold, Ex.foldcs, ← Va.pv.eq_1]) | (refine aExit ?_; simp only [aThen_n, aThen_e, aThen_r, aBlock_n, aBlock_r, aBlock_e, ↓reduceIte, Nat.reduceEqDiff, reduceCtorEq, if_true, if_false, Nat.zero_ne_one, Nat.one_ne_zero]) | (refine aRet ?_; try simp only [aThen_n, aThen_e, aThen_r, aBlock_n, aBlock_r, aBlock_e, ↓reduceIte, Nat.reduceEqDiff, reduceCtorEq, if_true, if_false, Nat.zero_ne_one, Nat.one_ne_zero]) | (refine hX _ _ ?_; clear hX X) | (clear hX X; refine hX _ _ ?_; clear hX X) | (clear hX X; clear hX X; refine hX _ _ ?_; clear hX X) | (intro hlen; unfold maxLen at hlen) | (apply And.intro; (focus (first | omega | assumption | (repeat' apply And.intro) <;> first | omega | assumption)))))
    simp only [aPost, Try.results89, aRes_n, aRes_t, aRes_c, pack_one, pack_two]
    have hv : addS l s = l := by simp [addS, c1]
    rw [hv]
    exact leave_app (o := o) (o0 := o) (xs := l.map pS) (.refl hf) (strs_one l) ⟨rfl, rfl⟩
  | false =>
    have h1 : l.length + 1 ≤ maxLen := by unfold maxLen; omega
    have h2 : (l.length + 1) * 16 ≤ 140737488355328 := by omega
    have h3 := strs_one l
    have h4 : ∀ x ∈ [pS s], x.cells.length = 1 := strs_one [s]
    simp -implicitDefEqProofs only [↓slp, slb, List.getElem?_toArray, eqCells, fillA, fillOk, PV.one, PV.ok, PV.pure, PV.pures, PV.settle, PV.settles, List.map_cons, List.map_nil, List.getElem?_cons_zero, List.getElem?_cons_succ, List.getElem?_nil, List.getD_cons_zero, List.getD_cons_succ, List.drop_zero, List.drop_succ_cons, List.take_zero, List.take_succ_cons, List.take_nil, List.drop_nil, List.length_cons, List.length_nil, List.length_map, List.all_cons, List.all_nil, List.contains_nil, List.contains_cons, List.nil_append, List.cons_append, List.append_nil, List.append_eq, Option.map_some, Option.map_none, Option.bind_some, Option.some.injEq, Option.isSome_some, beq_self_eq_true, bne_self_eq_false, if_true, if_false, ↓reduceIte, ne_eq, reduceCtorEq, Nat.reduceEqDiff, Nat.reduceAdd, Nat.reduceMul, Nat.reduceLT, Nat.reduceLeDiff, Nat.reduceBEq, Nat.reduceBNe, Int.reduceLE, Int.reduceLT, Int.reduceToNat, Int.reduceEq, forall_const, implies_true, List.mem_cons, List.not_mem_nil, forall_eq_or_imp, forall_eq, eq_self, List.set_cons_zero, List.set_cons_succ, List.set_nil, tfAbTr7, Ex.settle_pv, Ex.pure_pv, Ex.cells_pv, Ex.cs.eq_1, On.pv.eq_1, Ty.pv.eq_1, Va.settle_pv, Va.pure_pv, Va.cells_pv, Va.cs.eq_1, c1, pB]; try simp only [Ex.fold, Ex.foldcs, ← Va.pv.eq_1]
    (repeat (first | (refine aSeq (fun X hX => ?_)) | (refine aBlk ?_) | (refine aSkip ?_) | ((first | refine aReg ?_ | refine aDrw (fun m2 => m2 = _) (by kernel_rfl) rfl ?_); simp -implicitDefEqProofs only [forall_eq, ↓slp, slb, List.getElem?_toArray, eqCells, fillA, fillOk, PV.one, PV.ok, PV.pure, PV.pures, PV.settle, PV.settles, List.map_cons, List.map_nil, List.getElem?_cons_zero, List.getElem?_cons_succ, List.getElem?_nil, List.getD_cons_zero, List.getD_cons_succ, List.drop_zero, List.drop_succ_cons, List.take_zero, List.take_succ_cons, List.take_nil, List.drop_nil, List.length_cons, List.length_nil, List.length_map, List.all_cons, List.all_nil, List.contains_nil, List.contains_cons, List.nil_append, List.cons_append, List.append_nil, List.append_eq, Option.map_some, Option.map_none, Option.bind_some, Option.some.injEq, Option.isSome_some, beq_self_eq_true, bne_self_eq_false, if_true, if_false, ↓reduceIte, ne_eq, reduceCtorEq, Nat.reduceEqDiff, Nat.reduceAdd, Nat.reduceMul, Nat.reduceLT, Nat.reduceLeDiff, Nat.reduceBEq, Nat.reduceBNe, Int.reduceLE, Int.reduceLT, Int.reduceToNat, Int.reduceEq, forall_const, implies_true, List.mem_cons, List.not_mem_nil, forall_eq_or_imp, forall_eq, eq_self, List.set_cons_zero, List.set_cons_succ, List.set_nil, tfAbTr7, Ex.settle_pv, Ex.pure_pv, Ex.cells_pv, Ex.cs.eq_1, On.pv.eq_1, Ty.pv.eq_1, Va.settle_pv, Va.pure_pv, Va.cells_pv, Va.cs.eq_1]; try simp only [Ex.fold, Ex.foldcs, ← Va.pv.eq_1]) | (refine aExit ?_; simp only [aThen_n, aThen_e, aThen_r, aBlock_n, aBlock_r, aBlock_e, ↓reduceIte, Nat.reduceEqDiff, reduceCtorEq, if_true, if_false, Nat.zero_ne_one, Nat.one_ne_zero]) | (refine aRet ?_; try simp only [aThen_n, aThen_e, aThen_r, aBlock_n, aBlock_r, aBlock_e, ↓reduceIte, Nat.reduceEqDiff, reduceCtorEq, if_true, if_false, Nat.zero_ne_one, Nat.one_ne_zero]) | (refine hX _ _ ?_; clear hX X) | (clear hX X; refine hX _ _ ?_; clear hX X) | (clear hX X; clear hX X; refine hX _ _ ?_; clear hX X) | (intro hlen; unfold maxLen at hlen) | (apply And.intro; (focus (first | omega | assumption | (repeat' apply And.intro) <;> first | omega | assumption)))))
    refine aIf ?_; simp -implicitDefEqProofs only [↓slp, slb, List.getElem?_toArray, eqCells, fillA, fillOk, PV.one, PV.ok, PV.pure, PV.pures, PV.settle, PV.settles, List.map_cons, List.map_nil, List.getElem?_cons_zero, List.getElem?_cons_succ, List.getElem?_nil, List.getD_cons_zero, List.getD_cons_succ, List.drop_zero, List.drop_succ_cons, List.take_zero, List.take_succ_cons, List.take_nil, List.drop_nil, List.length_cons, List.length_nil, List.length_map, List.all_cons, List.all_nil, List.contains_nil, List.contains_cons, List.nil_append, List.cons_append, List.append_nil, List.append_eq, Option.map_some, Option.map_none, Option.bind_some, Option.some.injEq, Option.isSome_some, beq_self_eq_true, bne_self_eq_false, if_true, if_false, ↓reduceIte, ne_eq, reduceCtorEq, Nat.reduceEqDiff, Nat.reduceAdd, Nat.reduceMul, Nat.reduceLT, Nat.reduceLeDiff, Nat.reduceBEq, Nat.reduceBNe, Int.reduceLE, Int.reduceLT, Int.reduceToNat, Int.reduceEq, forall_const, implies_true, List.mem_cons, List.not_mem_nil, forall_eq_or_imp, forall_eq, eq_self, List.set_cons_zero, List.set_cons_succ, List.set_nil]
    (repeat (first | (refine aSeq (fun X hX => ?_)) | (refine aBlk ?_) | (refine aSkip ?_) | ((first | refine aReg ?_ | refine aDrw (fun m2 => m2 = _) (by kernel_rfl) rfl ?_); simp -implicitDefEqProofs only [forall_eq, ↓slp, slb, List.getElem?_toArray, eqCells, fillA, fillOk, PV.one, PV.ok, PV.pure, PV.pures, PV.settle, PV.settles, List.map_cons, List.map_nil, List.getElem?_cons_zero, List.getElem?_cons_succ, List.getElem?_nil, List.getD_cons_zero, List.getD_cons_succ, List.drop_zero, List.drop_succ_cons, List.take_zero, List.take_succ_cons, List.take_nil, List.drop_nil, List.length_cons, List.length_nil, List.length_map, List.all_cons, List.all_nil, List.contains_nil, List.contains_cons, List.nil_append, List.cons_append, List.append_nil, List.append_eq, Option.map_some, Option.map_none, Option.bind_some, Option.some.injEq, Option.isSome_some, beq_self_eq_true, bne_self_eq_false, if_true, if_false, ↓reduceIte, ne_eq, reduceCtorEq, Nat.reduceEqDiff, Nat.reduceAdd, Nat.reduceMul, Nat.reduceLT, Nat.reduceLeDiff, Nat.reduceBEq, Nat.reduceBNe, Int.reduceLE, Int.reduceLT, Int.reduceToNat, Int.reduceEq, forall_const, implies_true, List.mem_cons, List.not_mem_nil, forall_eq_or_imp, forall_eq, eq_self, List.set_cons_zero, List.set_cons_succ, List.set_nil, tfAbTr7, Ex.settle_pv, Ex.pure_pv, Ex.cells_pv, Ex.cs.eq_1, On.pv.eq_1, Ty.pv.eq_1, Va.settle_pv, Va.pure_pv, Va.cells_pv, Va.cs.eq_1]; try simp only [Ex.fold, Ex.foldcs, ← Va.pv.eq_1]) | (refine aExit ?_; simp only [aThen_n, aThen_e, aThen_r, aBlock_n, aBlock_r, aBlock_e, ↓reduceIte, Nat.reduceEqDiff, reduceCtorEq, if_true, if_false, Nat.zero_ne_one, Nat.one_ne_zero]) | (refine aRet ?_; try simp only [aThen_n, aThen_e, aThen_r, aBlock_n, aBlock_r, aBlock_e, ↓reduceIte, Nat.reduceEqDiff, reduceCtorEq, if_true, if_false, Nat.zero_ne_one, Nat.one_ne_zero]) | (refine hX _ _ ?_; clear hX X) | (clear hX X; refine hX _ _ ?_; clear hX X) | (clear hX X; clear hX X; refine hX _ _ ?_; clear hX X) | (intro hlen; unfold maxLen at hlen) | (apply And.intro; (focus (first | omega | assumption | (repeat' apply And.intro) <;> first | omega | assumption)))))
    simp only [aPost, Try.results89, aRes_n, aRes_t, aRes_c, pack_one, pack_two]
    have hv : (addS l s).map pS = l.map pS ++ [PV.v (Value.string s)] := by simp [addS, c1]
    rw [hv]
    exact leave_app (o := .tok m.nt) (o0 := o) (xs := l.map pS ++ [PV.v (Value.string s)]) (App.step (.refl hf)) (by rw [← hv]; exact strs_one _) ⟨rfl, rfl⟩

mutual
/-- The names that an expression reads (b: at once; else in all), after those of a list. -/
def Ex.reads (b : Bool) (out : List Str) : Ex → List Str
  | .mk k _ _ nm _ kids _ _ => if k == 4 || k == 13 then Ex.readsL b (addS out nm) kids else if k == 12 then addS (Ex.readsHd b out kids) nm else if k == 10 && b then out else if k == 9 && b then Ex.readsHd b out kids else Ex.readsL b out kids
def Ex.readsL (b : Bool) (out : List Str) : List Ex → List Str
  | [] => out
  | e :: l => Ex.readsL b (Ex.reads b out e) l
def Ex.readsHd (b : Bool) (out : List Str) : List Ex → List Str
  | [] => out
  | e :: _ => Ex.reads b out e
end
theorem Ex.reads_eq (b : Bool) (out : List Str) (e : Ex) : e.reads b out = if e.kind == 4 || e.kind == 13 then Ex.readsL b (addS out e.name) e.kids else if e.kind == 12 then addS (Ex.readsHd b out e.kids) e.name else if e.kind == 10 && b then out else if e.kind == 9 && b then Ex.readsHd b out e.kids else Ex.readsL b out e.kids := by cases e; rfl
theorem readsHd_eq (b : Bool) (out : List Str) (l : List Ex) (h : 0 < l.length) : Ex.readsHd b out l = l[0].reads b out := by
  cases l with
  | nil => simp at h
  | cons a l => rfl
theorem readsL_drop (b : Bool) (out : List Str) (l : List Ex) (k : Nat) (h : k < l.length) : Ex.readsL b out (l.drop k) = Ex.readsL b (l[k].reads b out) (l.drop (k + 1)) := by
  rw [List.drop_eq_getElem_cons h, Ex.readsL]
theorem Ex.size_pos (e : Ex) : 1 ≤ e.size := by rw [e.size_eq]; omega
mutual
theorem reads_len (b : Bool) (out : List Str) : ∀ e : Ex, (e.reads b out).length ≤ out.length + e.size
  | .mk k o n nm ns kids x y => by
    have h1 := readsHd_len b out kids
    have h2 := readsL_len b out kids
    have h3 := addS_len out nm
    have h5 := readsL_len b (addS out nm) kids
    have h4 := addS_len (Ex.readsHd b out kids) nm
    simp only [Ex.reads, Ex.size]
    repeat' split
    all_goals omega
theorem readsL_len (b : Bool) (out : List Str) : ∀ l : List Ex, (Ex.readsL b out l).length ≤ out.length + Ex.sizes l
  | [] => by simp [Ex.readsL, Ex.sizes]
  | e :: l => by
    have h1 := reads_len b out e
    have h2 := readsL_len b (e.reads b out) l
    simp only [Ex.readsL, Ex.sizes]
    omega
theorem readsHd_len (b : Bool) (out : List Str) : ∀ l : List Ex, (Ex.readsHd b out l).length ≤ out.length + Ex.sizes l
  | [] => by simp [Ex.readsHd, Ex.sizes]
  | e :: l => by
    have h1 := reads_len b out e
    simp only [Ex.readsHd, Ex.sizes]
    omega
end
mutual
/-- Where a part is wanted, there is one. -/
def Ex.okr : Ex → Bool
  | .mk k _ _ _ _ kids _ _ => (!(k == 12 || k == 9) || !kids.isEmpty) && Ex.okrs kids
def Ex.okrs : List Ex → Bool
  | [] => true
  | e :: l => e.okr && Ex.okrs l
end
theorem okrs_at : ∀ (l : List Ex), Ex.okrs l = true → ∀ k (h : k < l.length), l[k].okr = true
  | [], _, k, h => by simp at h
  | e :: l, h, k, hk => by
    simp only [Ex.okrs, Bool.and_eq_true] at h
    cases k with
    | zero => exact h.1
    | succ k => exact okrs_at l h.2 k (by simpa using hk)
theorem Ex.okr_eq (e : Ex) : e.okr = ((!(e.kind == 12 || e.kind == 9) || !e.kids.isEmpty) && Ex.okrs e.kids) := by cases e; rfl
end Go.Proofs.Ytibhhoknipdlpaa
