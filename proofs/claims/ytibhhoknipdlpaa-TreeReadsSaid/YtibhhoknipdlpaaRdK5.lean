/-
  Part 5 of what stands ahead of the law.
-/
import Derived.Test.YtibhhoknipdlpaaRdK4
/-
  The maker: a number off the tape, names, types.
-/
set_option linter.unusedVariables false
set_option linter.unusedSimpArgs false
namespace Go.Proofs.Ytibhhoknipdlpaa
open Go
set_option linter.defProp false
def tfAbMk1 := And.intro @td_3 (And.intro @zv_3 (And.intro @Try.underlying3 (And.intro @td_4 (And.intro @zv_4 (And.intro @Try.underlying4 (And.intro @td_5 (And.intro @zv_5 (And.intro @Try.underlying5 (And.intro @td_9 (And.intro @zv_9 (And.intro @Try.underlying9 (And.intro @td_21 (And.intro @zv_21 (And.intro @Try.underlying21 (And.intro @td_22 (And.intro @zv_22 (And.intro @tel_22 (And.intro @Try.underlying22 (And.intro @td_41 (And.intro @zv_41 (And.intro @tel_41 (And.intro @Try.underlying41 (And.intro @td_44 (And.intro @zv_44 (And.intro @tf_44 (And.intro @td_49 (And.intro @zv_49 (And.intro @tf_49 (And.intro @fl_49 (And.intro @td_52 (And.intro @zv_52 (And.intro @tf_52 (And.intro @td_92 (And.intro @zv_92 (And.intro @td_94 (And.intro @zv_94 (And.intro @tf_94 (And.intro @td_96 (And.intro @zv_96 (And.intro @td_98 (And.intro @zv_98 (And.intro @tf_98 (And.intro @Ex.settle_pv (And.intro @Ex.pure_pv (And.intro @Ex.cells_pv (And.intro @Ex.cs.eq_1 (And.intro @On.pv.eq_1 (And.intro @Ty.pv.eq_1 (And.intro @Va.settle_pv (And.intro @Va.pure_pv (And.intro @Va.cells_pv (And.intro @Va.cs.eq_1 (And.intro @gst_nb (And.intro @gst_nt (And.intro @gst_fresh (And.intro @gst_use (And.intro @gst_free (And.intro @gst_alive (And.intro @gst_t (And.intro @gst_g (And.intro @gst_updt (And.intro @gst_updg (And.intro @gst_ext (And.intro @gst_ext2 (And.intro @gst_et (And.intro @gst_eg (And.intro @gst_own (And.intro @gst_own0 (And.intro @gst_ou (And.intro @gst_ou0 (And.intro @GP.tape.eq_1 @GP.gen.eq_1)))))))))))))))))))))))))))))))))))))))))))))))))))))))))))))))))))))))
-- EXX: gst_nb, gst_nt, gst_fresh, gst_use, gst_free, gst_alive, gst_t, gst_g, gst_updt, gst_updg, gst_ext, gst_ext2, gst_et, gst_eg, gst_own, gst_own0, gst_ou, gst_ou0, GP.tape, GP.gen
-- TYPES: 3 4 5 9 21 22 41 44 49 52 92 94 96 98

set_option maxRecDepth 20000 in
set_option maxHeartbeats 1000000 in
theorem next_any (p : GP) (m : M) (hok : p.ok m) (k : Int) (hk : 0 < k) (i : Nat) (n q : Int) : ACalls Try.prog 53 [.bp p.tp 0, pI k] (gst p m i n q) (fun v m' => ∃ (r : Int) (i' : Nat), v = pI r ∧ (0 ≤ r ∧ r < k) ∧ m' = gst p m i' n q) := by
  have hT := hok.tp
  have hN := hok.ne
  refine ACalls.enter (mu := []) ok_mix Try.func53 rfl (by kernel_rfl) (by kernel_rfl) (by simp only [List.length_cons, List.length_nil, Try.ntmps53]; omega) ?_
  cases c1 : decide ((i : Int) ≥ (p.l.length : Int)) with
  | true =>
    (repeat (first | (refine aSeq (fun X hX => ?_)) | (refine aBlk ?_) | (refine aSkip ?_) | ((first | refine aReg ?_ | refine aDrw (fun m2 => m2 = _) (by kernel_rfl) rfl ?_); simp -implicitDefEqProofs only [forall_eq, ↓slp, slb, ↓reduceIte, reduceCtorEq, Nat.reduceEqDiff, Nat.reduceAdd, Nat.reduceMul, Nat.reduceLT, Nat.reduceLeDiff, Nat.reduceBEq, Nat.reduceBNe, Int.reduceLE, Int.reduceLT, Int.reduceToNat, Int.reduceEq, tfAbMk1, hT, hN, c1]; try simp only [Ex.fold, Ex.foldcs, ← Va.pv.eq_1]) | (refine aIf ?_; simp -implicitDefEqProofs only [↓slp, slb, ↓reduceIte, reduceCtorEq, Nat.reduceEqDiff, Nat.reduceAdd, Nat.reduceMul, Nat.reduceLT, Nat.reduceLeDiff, Nat.reduceBEq, Nat.reduceBNe, Int.reduceLE, Int.reduceLT, Int.reduceToNat, Int.reduceEq, hT, hN, c1]) | (refine aExit ?_; simp only [slx, ↓reduceIte, Nat.reduceEqDiff, reduceCtorEq]) | (refine aRet ?_; try simp only [slx, ↓reduceIte, Nat.reduceEqDiff, reduceCtorEq]) | (refine hX _ _ ?_; clear hX X) | (clear hX X; refine hX _ _ ?_; clear hX X) | (clear hX X; clear hX X; refine hX _ _ ?_; clear hX X) | (intro hlen; unfold maxLen at hlen) | (apply And.intro; (focus (first | omega | assumption | (repeat' apply And.intro) <;> first | omega | assumption)))))
    simp only [aPost, Try.results53, aRes_n, aRes_t, aRes_c, pack_one, pack_two]
    exact leave_gst0 hok (.refl m) rfl ⟨0, i, rfl, ⟨Int.le_refl _, hk⟩, rfl⟩
  | false =>
    have hlt : i < p.l.length := by simp at c1; omega
    have hl := hok.len
    have hi : IntKind.i64.wrap ((i : Int) + 1) = ((i + 1 : Nat) : Int) := by rw [wrap64 (by omega)]; omega
    have hj : IntKind.i64.wrap (((i + 1 : Nat) : Int) - 1) = (i : Int) := by rw [wrap64 (by omega)]; omega
    have g0 := getD_map pU p.l i hlt
    have he := hok.el _ (List.getElem_mem hlt)
    have hw : IntKind.i64.wrap p.l[i] = p.l[i] := wrap64 (by omega)
    have hk0 : ¬ k = 0 := by omega
    (repeat (first | (refine aSeq (fun X hX => ?_)) | (refine aBlk ?_) | (refine aSkip ?_) | ((first | refine aReg ?_ | refine aDrw (fun m2 => m2 = _) (by kernel_rfl) rfl ?_); simp -implicitDefEqProofs only [forall_eq, ↓slp, slb, ↓reduceIte, reduceCtorEq, Nat.reduceEqDiff, Nat.reduceAdd, Nat.reduceMul, Nat.reduceLT, Nat.reduceLeDiff, Nat.reduceBEq, Nat.reduceBNe, Int.reduceLE, Int.reduceLT, Int.reduceToNat, Int.reduceEq, tfAbMk1, hT, hN, c1, hi, hj, g0, hw, hk0]; try simp only [Ex.fold, Ex.foldcs, ← Va.pv.eq_1]) | (refine aIf ?_; simp -implicitDefEqProofs only [↓slp, slb, ↓reduceIte, reduceCtorEq, Nat.reduceEqDiff, Nat.reduceAdd, Nat.reduceMul, Nat.reduceLT, Nat.reduceLeDiff, Nat.reduceBEq, Nat.reduceBNe, Int.reduceLE, Int.reduceLT, Int.reduceToNat, Int.reduceEq, hT, hN, c1, hi, hj, g0, hw, hk0]) | (refine aExit ?_; simp only [slx, ↓reduceIte, Nat.reduceEqDiff, reduceCtorEq]) | (refine aRet ?_; try simp only [slx, ↓reduceIte, Nat.reduceEqDiff, reduceCtorEq]) | (refine hX _ _ ?_; clear hX X) | (clear hX X; refine hX _ _ ?_; clear hX X) | (clear hX X; clear hX X; refine hX _ _ ?_; clear hX X) | (intro hlen; unfold maxLen at hlen) | (apply And.intro; (focus (first | omega | assumption | (repeat' apply And.intro) <;> first | omega | assumption)))))
    simp only [aPost, Try.results53, aRes_n, aRes_t, aRes_c, pack_one, pack_two]
    exact leave_gst0 hok (.refl m) rfl ⟨_, i + 1, rfl, ⟨Int.tmod_nonneg _ he.1, Int.tmod_lt_of_pos _ hk⟩, rfl⟩

/-- A number in digits. -/
def digS (n : Nat) : Str := if h : n < 10 then strOf [((48 + n : Nat) : Int)] else digS (n / 10) ++ strOf [((48 + n % 10 : Nat) : Int)]
termination_by n
decreasing_by omega
theorem digS_size (n : Nat) : (digS n).size ≤ n + 1 := by
  induction n using Nat.strongRecOn with
  | ind n ih =>
    unfold digS
    split
    · exact Nat.le_trans (Nat.le_of_eq rfl) (Nat.le_add_left 1 n)
    · have := ih (n / 10) (by omega)
      rw [ByteArray.size_append]
      have h1 : (strOf [((48 + n % 10 : Nat) : Int)]).size = 1 := rfl
      omega
set_option maxRecDepth 20000 in
set_option maxHeartbeats 1000000 in
theorem digits_any (n : Nat) : ∀ (m : M), n < 2 ^ 60 → ACalls Try.prog 98 [pI n] m (fun v m' => v = pS (digS n) ∧ m' = m) := by
  induction n using Nat.strongRecOn with
  | ind n ih =>
  intro m hn
  refine ACalls.enter (mu := []) ok_mix Try.func98 rfl (by kernel_rfl) (by kernel_rfl) (by simp only [List.length_cons, List.length_nil, Try.ntmps98]; omega) ?_
  cases c1 : decide ((n : Int) < 10) with
  | true =>
    have hlt : n < 10 := by simp at c1; omega
    have h1 : IntKind.i64.wrap (48 + (n : Int)) = ((48 + n : Nat) : Int) := by rw [wrap64 (by omega)]; omega
    have h2 : IntKind.u8.wrap ((48 + n : Nat) : Int) = ((48 + n : Nat) : Int) := IntWalk.u8_in _ (by omega)
    have hd : digS n = strOf [((48 + n : Nat) : Int)] := by unfold digS; rw [dif_pos hlt]
    (repeat (first | (refine aSeq (fun X hX => ?_)) | (refine aBlk ?_) | (refine aSkip ?_) | ((first | refine aReg ?_ | refine aDrw (fun m2 => m2 = _) (by kernel_rfl) rfl ?_); simp -implicitDefEqProofs only [forall_eq, ↓slp, slb, ↓reduceIte, reduceCtorEq, Nat.reduceEqDiff, Nat.reduceAdd, Nat.reduceMul, Nat.reduceLT, Nat.reduceLeDiff, Nat.reduceBEq, Nat.reduceBNe, Int.reduceLE, Int.reduceLT, Int.reduceToNat, Int.reduceEq, tfAbMk1, c1, h1, h2]; try simp only [Ex.fold, Ex.foldcs, ← Va.pv.eq_1]) | (refine aIf ?_; simp -implicitDefEqProofs only [↓slp, slb, ↓reduceIte, reduceCtorEq, Nat.reduceEqDiff, Nat.reduceAdd, Nat.reduceMul, Nat.reduceLT, Nat.reduceLeDiff, Nat.reduceBEq, Nat.reduceBNe, Int.reduceLE, Int.reduceLT, Int.reduceToNat, Int.reduceEq, c1, h1, h2]) | (refine aExit ?_; simp only [slx, ↓reduceIte, Nat.reduceEqDiff, reduceCtorEq]) | (refine aRet ?_; try simp only [slx, ↓reduceIte, Nat.reduceEqDiff, reduceCtorEq]) | (refine hX _ _ ?_; clear hX X) | (clear hX X; refine hX _ _ ?_; clear hX X) | (clear hX X; clear hX X; refine hX _ _ ?_; clear hX X) | (intro hlen; unfold maxLen at hlen) | (apply And.intro; (focus (first | omega | assumption | (repeat' apply And.intro) <;> first | omega | assumption)))))
    simp only [aPost, Try.results98, aRes_n, aRes_t, aRes_c, pack_one, pack_two]
    exact leave_same rfl ⟨by rw [hd]; rfl, rfl⟩
  | false =>
    have hge : ¬ n < 10 := by simp at c1; omega
    have h0 : IntKind.i64.wrap ((n : Int).tdiv 10) = ((n / 10 : Nat) : Int) := by
      rw [Int.tdiv_eq_ediv_of_nonneg (by omega), wrap64 (by omega)]; omega
    have hr : ((n : Int).tmod 10) = ((n % 10 : Nat) : Int) := by
      rw [Int.tmod_eq_emod_of_nonneg (by omega)]; omega
    have h1 : IntKind.i64.wrap (48 + ((n % 10 : Nat) : Int)) = ((48 + n % 10 : Nat) : Int) := by rw [wrap64 (by omega)]; omega
    have h2 : IntKind.u8.wrap ((48 + n % 10 : Nat) : Int) = ((48 + n % 10 : Nat) : Int) := IntWalk.u8_in _ (by omega)
    have hd : digS n = digS (n / 10) ++ strOf [((48 + n % 10 : Nat) : Int)] := by rw [digS, dif_neg hge]
    have hs := digS_size (n / 10)
    have hs1 : (strOf [((48 + n % 10 : Nat) : Int)]).size = 1 := rfl
    (repeat (first | (refine aSeq (fun X hX => ?_)) | (refine aBlk ?_) | (refine aSkip ?_) | ((first | refine aReg ?_ | refine aDrw (fun m2 => m2 = _) (by kernel_rfl) rfl ?_); simp -implicitDefEqProofs only [forall_eq, ↓slp, slb, ↓reduceIte, reduceCtorEq, Nat.reduceEqDiff, Nat.reduceAdd, Nat.reduceMul, Nat.reduceLT, Nat.reduceLeDiff, Nat.reduceBEq, Nat.reduceBNe, Int.reduceLE, Int.reduceLT, Int.reduceToNat, Int.reduceEq, tfAbMk1, c1, h0]; try simp only [Ex.fold, Ex.foldcs, ← Va.pv.eq_1]) | (refine aIf ?_; simp -implicitDefEqProofs only [↓slp, slb, ↓reduceIte, reduceCtorEq, Nat.reduceEqDiff, Nat.reduceAdd, Nat.reduceMul, Nat.reduceLT, Nat.reduceLeDiff, Nat.reduceBEq, Nat.reduceBNe, Int.reduceLE, Int.reduceLT, Int.reduceToNat, Int.reduceEq, c1, h0]) | (refine aExit ?_; simp only [slx, ↓reduceIte, Nat.reduceEqDiff, reduceCtorEq]) | (refine aRet ?_; try simp only [slx, ↓reduceIte, Nat.reduceEqDiff, reduceCtorEq]) | (refine hX _ _ ?_; clear hX X) | (clear hX X; refine hX _ _ ?_; clear hX X) | (clear hX X; clear hX X; refine hX _ _ ?_; clear hX X) | (intro hlen; unfold maxLen at hlen) | (apply And.intro; (focus (first | omega | assumption | (repeat' apply And.intro) <;> first | omega | assumption)))))
    refine callE (ih (n / 10) (by omega) _ (by omega)) ?_
    refine ⟨rfl, ?_⟩
    simp -implicitDefEqProofs only [↓slp, slb, ↓reduceIte, reduceCtorEq, Nat.reduceEqDiff, Nat.reduceAdd, Nat.reduceMul, Nat.reduceLT, Nat.reduceLeDiff, Nat.reduceBEq, Nat.reduceBNe, Int.reduceLE, Int.reduceLT, Int.reduceToNat, Int.reduceEq, tfAbMk1, forall_eq, c1, h0, hr, h1, h2]; try simp only [Ex.fold, Ex.foldcs, ← Va.pv.eq_1]
    (repeat (first | (intro hlen; unfold maxLen at hlen) | (apply And.intro; (focus (first | omega | assumption | trivial | (repeat' apply And.intro) <;> first | omega | assumption | trivial)))))
    (repeat (first | (refine aSeq (fun X hX => ?_)) | (refine aBlk ?_) | (refine aSkip ?_) | ((first | refine aReg ?_ | refine aDrw (fun m2 => m2 = _) (by kernel_rfl) rfl ?_); simp -implicitDefEqProofs only [forall_eq, ↓slp, slb, ↓reduceIte, reduceCtorEq, Nat.reduceEqDiff, Nat.reduceAdd, Nat.reduceMul, Nat.reduceLT, Nat.reduceLeDiff, Nat.reduceBEq, Nat.reduceBNe, Int.reduceLE, Int.reduceLT, Int.reduceToNat, Int.reduceEq, tfAbMk1]; try simp only [Ex.fold, Ex.foldcs, ← Va.pv.eq_1]) | (refine aIf ?_; simp -implicitDefEqProofs only [↓slp, slb, ↓reduceIte, reduceCtorEq, Nat.reduceEqDiff, Nat.reduceAdd, Nat.reduceMul, Nat.reduceLT, Nat.reduceLeDiff, Nat.reduceBEq, Nat.reduceBNe, Int.reduceLE, Int.reduceLT, Int.reduceToNat, Int.reduceEq]) | (refine aExit ?_; simp only [slx, ↓reduceIte, Nat.reduceEqDiff, reduceCtorEq]) | (refine aRet ?_; try simp only [slx, ↓reduceIte, Nat.reduceEqDiff, reduceCtorEq]) | (refine hX _ _ ?_; clear hX X) | (clear hX X; refine hX _ _ ?_; clear hX X) | (clear hX X; clear hX X; refine hX _ _ ?_; clear hX X) | (intro hlen; unfold maxLen at hlen) | (apply And.intro; (focus (first | omega | assumption | (repeat' apply And.intro) <;> first | omega | assumption)))))
    simp only [aPost, Try.results98, aRes_n, aRes_t, aRes_c, pack_one, pack_two]
    exact leave_same rfl ⟨by rw [hd]; rfl, rfl⟩

def nameS (c : Str) (k : Nat) : Str := c ++ digS k
set_option maxRecDepth 20000 in
set_option maxHeartbeats 1000000 in
theorem name_any (p : GP) (m : M) (hok : p.ok m) (c : Str) (hc : c.size ≤ 100) (i : Nat) (n : Nat) (q : Int) (hn : n + 1 < 2 ^ 60) : ACalls Try.prog 115 [.bp p.gp 0, pS c] (gst p m i n q) (fun v m' => v = pS (nameS c (n + 1)) ∧ m' = gst p m i ((n + 1 : Nat) : Int) q) := by
  have hG := hok.gp
  have hi : IntKind.i64.wrap ((n : Int) + 1) = ((n + 1 : Nat) : Int) := by rw [wrap64 (by omega)]; omega
  have hs := digS_size (n + 1)
  refine ACalls.enter (mu := []) ok_mix Try.func115 rfl (by kernel_rfl) (by kernel_rfl) (by simp only [List.length_cons, List.length_nil, Try.ntmps115]; omega) ?_
  (repeat (first | (refine aSeq (fun X hX => ?_)) | (refine aBlk ?_) | (refine aSkip ?_) | ((first | refine aReg ?_ | refine aDrw (fun m2 => m2 = _) (by kernel_rfl) rfl ?_); simp -implicitDefEqProofs only [forall_eq, ↓slp, slb, ↓reduceIte, reduceCtorEq, Nat.reduceEqDiff, Nat.reduceAdd, Nat.reduceMul, Nat.reduceLT, Nat.reduceLeDiff, Nat.reduceBEq, Nat.reduceBNe, Int.reduceLE, Int.reduceLT, Int.reduceToNat, Int.reduceEq, tfAbMk1, hG, hi, pS]; try simp only [Ex.fold, Ex.foldcs, ← Va.pv.eq_1]) | (refine aIf ?_; simp -implicitDefEqProofs only [↓slp, slb, ↓reduceIte, reduceCtorEq, Nat.reduceEqDiff, Nat.reduceAdd, Nat.reduceMul, Nat.reduceLT, Nat.reduceLeDiff, Nat.reduceBEq, Nat.reduceBNe, Int.reduceLE, Int.reduceLT, Int.reduceToNat, Int.reduceEq, hG, hi, pS]) | (refine aExit ?_; simp only [slx, ↓reduceIte, Nat.reduceEqDiff, reduceCtorEq]) | (refine aRet ?_; try simp only [slx, ↓reduceIte, Nat.reduceEqDiff, reduceCtorEq]) | (refine hX _ _ ?_; clear hX X) | (clear hX X; refine hX _ _ ?_; clear hX X) | (clear hX X; clear hX X; refine hX _ _ ?_; clear hX X) | (intro hlen; unfold maxLen at hlen) | (apply And.intro; (focus (first | omega | assumption | (repeat' apply And.intro) <;> first | omega | assumption)))))
  refine callE (digits_any (n + 1) _ hn) ?_
  simp -implicitDefEqProofs only [↓slp, slb, ↓reduceIte, reduceCtorEq, Nat.reduceEqDiff, Nat.reduceAdd, Nat.reduceMul, Nat.reduceLT, Nat.reduceLeDiff, Nat.reduceBEq, Nat.reduceBNe, Int.reduceLE, Int.reduceLT, Int.reduceToNat, Int.reduceEq, tfAbMk1, pS]; try simp only [Ex.fold, Ex.foldcs, ← Va.pv.eq_1]
  (repeat (first | (intro hlen; unfold maxLen at hlen) | (apply And.intro; (focus (first | omega | assumption | trivial | (repeat' apply And.intro) <;> first | omega | assumption | trivial)))))
  (repeat (first | (refine aSeq (fun X hX => ?_)) | (refine aBlk ?_) | (refine aSkip ?_) | ((first | refine aReg ?_ | refine aDrw (fun m2 => m2 = _) (by kernel_rfl) rfl ?_); simp -implicitDefEqProofs only [forall_eq, ↓slp, slb, ↓reduceIte, reduceCtorEq, Nat.reduceEqDiff, Nat.reduceAdd, Nat.reduceMul, Nat.reduceLT, Nat.reduceLeDiff, Nat.reduceBEq, Nat.reduceBNe, Int.reduceLE, Int.reduceLT, Int.reduceToNat, Int.reduceEq, tfAbMk1]; try simp only [Ex.fold, Ex.foldcs, ← Va.pv.eq_1]) | (refine aIf ?_; simp -implicitDefEqProofs only [↓slp, slb, ↓reduceIte, reduceCtorEq, Nat.reduceEqDiff, Nat.reduceAdd, Nat.reduceMul, Nat.reduceLT, Nat.reduceLeDiff, Nat.reduceBEq, Nat.reduceBNe, Int.reduceLE, Int.reduceLT, Int.reduceToNat, Int.reduceEq]) | (refine aExit ?_; simp only [slx, ↓reduceIte, Nat.reduceEqDiff, reduceCtorEq]) | (refine aRet ?_; try simp only [slx, ↓reduceIte, Nat.reduceEqDiff, reduceCtorEq]) | (refine hX _ _ ?_; clear hX X) | (clear hX X; refine hX _ _ ?_; clear hX X) | (clear hX X; clear hX X; refine hX _ _ ?_; clear hX X) | (intro hlen; unfold maxLen at hlen) | (apply And.intro; (focus (first | omega | assumption | (repeat' apply And.intro) <;> first | omega | assumption)))))
  simp only [aPost, Try.results115, aRes_n, aRes_t, aRes_c, pack_one, pack_two]
  exact leave_gst0 hok (.refl m) rfl ⟨rfl, rfl⟩

def tyI : Ty := ⟨2, ⟨#[]⟩⟩
def tyB : Ty := ⟨1, ⟨#[]⟩⟩
def tyC : Ty := ⟨3, ⟨#[99, 111, 108]⟩⟩
set_option maxRecDepth 20000 in
set_option maxHeartbeats 400000 in
theorem tyI_any (m : M) : ACalls Try.prog 99 [] m (fun v m' => v = tyI.pv ∧ m' = m) := by
  refine ACalls.enter (mu := [0]) ok_mix Try.func99 rfl (by kernel_rfl) (by kernel_rfl) (by simp only [List.length_cons, List.length_nil, Try.ntmps99]; omega) ?_
  (repeat (first | (refine aSeq (fun X hX => ?_)) | (refine aBlk ?_) | (refine aSkip ?_) | ((first | refine aReg ?_ | refine aDrw (fun m2 => m2 = _) (by kernel_rfl) rfl ?_); simp -implicitDefEqProofs only [forall_eq, ↓slp, slb, ↓reduceIte, reduceCtorEq, Nat.reduceEqDiff, Nat.reduceAdd, Nat.reduceMul, Nat.reduceLT, Nat.reduceLeDiff, Nat.reduceBEq, Nat.reduceBNe, Int.reduceLE, Int.reduceLT, Int.reduceToNat, Int.reduceEq, tfAbMk1]; try simp only [Ex.fold, Ex.foldcs, ← Va.pv.eq_1]) | (refine aIf ?_; simp -implicitDefEqProofs only [↓slp, slb, ↓reduceIte, reduceCtorEq, Nat.reduceEqDiff, Nat.reduceAdd, Nat.reduceMul, Nat.reduceLT, Nat.reduceLeDiff, Nat.reduceBEq, Nat.reduceBNe, Int.reduceLE, Int.reduceLT, Int.reduceToNat, Int.reduceEq]) | (refine aExit ?_; simp only [slx, ↓reduceIte, Nat.reduceEqDiff, reduceCtorEq]) | (refine aRet ?_; try simp only [slx, ↓reduceIte, Nat.reduceEqDiff, reduceCtorEq]) | (refine hX _ _ ?_; clear hX X) | (clear hX X; refine hX _ _ ?_; clear hX X) | (clear hX X; clear hX X; refine hX _ _ ?_; clear hX X) | (intro hlen; unfold maxLen at hlen) | (apply And.intro; (focus (first | omega | assumption | (repeat' apply And.intro) <;> first | omega | assumption)))))
  simp only [aPost, Try.results99, aRes_n, aRes_t, aRes_c, pack_one, pack_two]
  simp -implicitDefEqProofs only [↓slp, slb, ↓reduceIte, reduceCtorEq, Nat.reduceEqDiff, Nat.reduceAdd, Nat.reduceMul, Nat.reduceLT, Nat.reduceLeDiff, Nat.reduceBEq, Nat.reduceBNe, Int.reduceLE, Int.reduceLT, Int.reduceToNat, Int.reduceEq, tfAbMk1]; try simp only [Ex.fold, Ex.foldcs, ← Va.pv.eq_1]
  exact leave_ext rfl ⟨rfl, rfl⟩
set_option maxRecDepth 20000 in
set_option maxHeartbeats 400000 in
theorem tyB_any (m : M) : ACalls Try.prog 100 [] m (fun v m' => v = tyB.pv ∧ m' = m) := by
  refine ACalls.enter (mu := [0]) ok_mix Try.func100 rfl (by kernel_rfl) (by kernel_rfl) (by simp only [List.length_cons, List.length_nil, Try.ntmps100]; omega) ?_
  (repeat (first | (refine aSeq (fun X hX => ?_)) | (refine aBlk ?_) | (refine aSkip ?_) | ((first | refine aReg ?_ | refine aDrw (fun m2 => m2 = _) (by kernel_rfl) rfl ?_); simp -implicitDefEqProofs only [forall_eq, ↓slp, slb, ↓reduceIte, reduceCtorEq, Nat.reduceEqDiff, Nat.reduceAdd, Nat.reduceMul, Nat.reduceLT, Nat.reduceLeDiff, Nat.reduceBEq, Nat.reduceBNe, Int.reduceLE, Int.reduceLT, Int.reduceToNat, Int.reduceEq, tfAbMk1]; try simp only [Ex.fold, Ex.foldcs, ← Va.pv.eq_1]) | (refine aIf ?_; simp -implicitDefEqProofs only [↓slp, slb, ↓reduceIte, reduceCtorEq, Nat.reduceEqDiff, Nat.reduceAdd, Nat.reduceMul, Nat.reduceLT, Nat.reduceLeDiff, Nat.reduceBEq, Nat.reduceBNe, Int.reduceLE, Int.reduceLT, Int.reduceToNat, Int.reduceEq]) | (refine aExit ?_; simp only [slx, ↓reduceIte, Nat.reduceEqDiff, reduceCtorEq]) | (refine aRet ?_; try simp only [slx, ↓reduceIte, Nat.reduceEqDiff, reduceCtorEq]) | (refine hX _ _ ?_; clear hX X) | (clear hX X; refine hX _ _ ?_; clear hX X) | (clear hX X; clear hX X; refine hX _ _ ?_; clear hX X) | (intro hlen; unfold maxLen at hlen) | (apply And.intro; (focus (first | omega | assumption | (repeat' apply And.intro) <;> first | omega | assumption)))))
  simp only [aPost, Try.results100, aRes_n, aRes_t, aRes_c, pack_one, pack_two]
  simp -implicitDefEqProofs only [↓slp, slb, ↓reduceIte, reduceCtorEq, Nat.reduceEqDiff, Nat.reduceAdd, Nat.reduceMul, Nat.reduceLT, Nat.reduceLeDiff, Nat.reduceBEq, Nat.reduceBNe, Int.reduceLE, Int.reduceLT, Int.reduceToNat, Int.reduceEq, tfAbMk1]; try simp only [Ex.fold, Ex.foldcs, ← Va.pv.eq_1]
  exact leave_ext rfl ⟨rfl, rfl⟩
set_option maxRecDepth 20000 in
set_option maxHeartbeats 400000 in
theorem tyC_any (m : M) : ACalls Try.prog 101 [] m (fun v m' => v = tyC.pv ∧ m' = m) := by
  refine ACalls.enter (mu := [0]) ok_mix Try.func101 rfl (by kernel_rfl) (by kernel_rfl) (by simp only [List.length_cons, List.length_nil, Try.ntmps101]; omega) ?_
  (repeat (first | (refine aSeq (fun X hX => ?_)) | (refine aBlk ?_) | (refine aSkip ?_) | ((first | refine aReg ?_ | refine aDrw (fun m2 => m2 = _) (by kernel_rfl) rfl ?_); simp -implicitDefEqProofs only [forall_eq, ↓slp, slb, ↓reduceIte, reduceCtorEq, Nat.reduceEqDiff, Nat.reduceAdd, Nat.reduceMul, Nat.reduceLT, Nat.reduceLeDiff, Nat.reduceBEq, Nat.reduceBNe, Int.reduceLE, Int.reduceLT, Int.reduceToNat, Int.reduceEq, tfAbMk1]; try simp only [Ex.fold, Ex.foldcs, ← Va.pv.eq_1]) | (refine aIf ?_; simp -implicitDefEqProofs only [↓slp, slb, ↓reduceIte, reduceCtorEq, Nat.reduceEqDiff, Nat.reduceAdd, Nat.reduceMul, Nat.reduceLT, Nat.reduceLeDiff, Nat.reduceBEq, Nat.reduceBNe, Int.reduceLE, Int.reduceLT, Int.reduceToNat, Int.reduceEq]) | (refine aExit ?_; simp only [slx, ↓reduceIte, Nat.reduceEqDiff, reduceCtorEq]) | (refine aRet ?_; try simp only [slx, ↓reduceIte, Nat.reduceEqDiff, reduceCtorEq]) | (refine hX _ _ ?_; clear hX X) | (clear hX X; refine hX _ _ ?_; clear hX X) | (clear hX X; clear hX X; refine hX _ _ ?_; clear hX X) | (intro hlen; unfold maxLen at hlen) | (apply And.intro; (focus (first | omega | assumption | (repeat' apply And.intro) <;> first | omega | assumption)))))
  simp only [aPost, Try.results101, aRes_n, aRes_t, aRes_c, pack_one, pack_two]
  simp -implicitDefEqProofs only [↓slp, slb, ↓reduceIte, reduceCtorEq, Nat.reduceEqDiff, Nat.reduceAdd, Nat.reduceMul, Nat.reduceLT, Nat.reduceLeDiff, Nat.reduceBEq, Nat.reduceBNe, Int.reduceLE, Int.reduceLT, Int.reduceToNat, Int.reduceEq, tfAbMk1]; try simp only [Ex.fold, Ex.foldcs, ← Va.pv.eq_1]
  exact leave_ext rfl ⟨rfl, rfl⟩
/-- The types that are made. -/
def isTy (t : Ty) : Prop := t = tyI ∨ t = tyB ∨ t = tyC
set_option maxRecDepth 20000 in
set_option maxHeartbeats 1000000 in
theorem typ_any (p : GP) (m : M) (hok : p.ok m) (i : Nat) (n q : Int) : ACalls Try.prog 116 [.bp p.gp 0] (gst p m i n q) (fun v m' => ∃ t i', v = Ty.pv t ∧ isTy t ∧ m' = gst p m i' n q) := by
  have hG := hok.gp
  refine ACalls.enter (mu := [2]) ok_mix Try.func116 rfl (by kernel_rfl) (by kernel_rfl) (by simp only [List.length_cons, List.length_nil, Try.ntmps116]; omega) ?_
  have hT := hok.tp
  (repeat (first | (refine aSeq (fun X hX => ?_)) | (refine aBlk ?_) | (refine aSkip ?_) | ((first | refine aReg ?_ | refine aDrw (fun m2 => m2 = _) (by kernel_rfl) rfl ?_); simp -implicitDefEqProofs only [forall_eq, ↓slp, slb, ↓reduceIte, reduceCtorEq, Nat.reduceEqDiff, Nat.reduceAdd, Nat.reduceMul, Nat.reduceLT, Nat.reduceLeDiff, Nat.reduceBEq, Nat.reduceBNe, Int.reduceLE, Int.reduceLT, Int.reduceToNat, Int.reduceEq, tfAbMk1, hT, hG]; try simp only [Ex.fold, Ex.foldcs, ← Va.pv.eq_1]) | (refine aIf ?_; simp -implicitDefEqProofs only [↓slp, slb, ↓reduceIte, reduceCtorEq, Nat.reduceEqDiff, Nat.reduceAdd, Nat.reduceMul, Nat.reduceLT, Nat.reduceLeDiff, Nat.reduceBEq, Nat.reduceBNe, Int.reduceLE, Int.reduceLT, Int.reduceToNat, Int.reduceEq, hT, hG]) | (refine aExit ?_; simp only [slx, ↓reduceIte, Nat.reduceEqDiff, reduceCtorEq]) | (refine aRet ?_; try simp only [slx, ↓reduceIte, Nat.reduceEqDiff, reduceCtorEq]) | (refine hX _ _ ?_; clear hX X) | (clear hX X; refine hX _ _ ?_; clear hX X) | (clear hX X; clear hX X; refine hX _ _ ?_; clear hX X) | (intro hlen; unfold maxLen at hlen) | (apply And.intro; (focus (first | omega | assumption | (repeat' apply And.intro) <;> first | omega | assumption)))))
  refine callM (next_any p _ (hok.ext _) 4 (by omega) i n q) ?_
  rintro v m' ⟨r, i', rfl, ⟨hr0, hr1⟩, rfl⟩
  simp -implicitDefEqProofs only [↓slp, slb, ↓reduceIte, reduceCtorEq, Nat.reduceEqDiff, Nat.reduceAdd, Nat.reduceMul, Nat.reduceLT, Nat.reduceLeDiff, Nat.reduceBEq, Nat.reduceBNe, Int.reduceLE, Int.reduceLT, Int.reduceToNat, Int.reduceEq, tfAbMk1, hT, hG]; try simp only [Ex.fold, Ex.foldcs, ← Va.pv.eq_1]
  have cas : r = 0 ∨ r = 1 ∨ r = 2 ∨ r = 3 := by omega
  have e1 : ((1 : Int) == 0) = false := rfl
  have e2 : ((2 : Int) == 0) = false := rfl
  have e3 : ((2 : Int) == 1) = false := rfl
  have e4 : ((3 : Int) == 0) = false := rfl
  have e5 : ((3 : Int) == 1) = false := rfl
  have e6 : ((3 : Int) == 2) = false := rfl
  rcases cas with rfl | rfl | rfl | rfl
  · (repeat (first | (refine aSeq (fun X hX => ?_)) | (refine aBlk ?_) | (refine aSkip ?_) | ((first | refine aReg ?_ | refine aDrw (fun m2 => m2 = _) (by kernel_rfl) rfl ?_); simp -implicitDefEqProofs only [forall_eq, ↓slp, slb, ↓reduceIte, reduceCtorEq, Nat.reduceEqDiff, Nat.reduceAdd, Nat.reduceMul, Nat.reduceLT, Nat.reduceLeDiff, Nat.reduceBEq, Nat.reduceBNe, Int.reduceLE, Int.reduceLT, Int.reduceToNat, Int.reduceEq, tfAbMk1, hT, hG, e1, e2, e3, e4, e5, e6]; try simp only [Ex.fold, Ex.foldcs, ← Va.pv.eq_1]) | (refine aIf ?_; simp -implicitDefEqProofs only [↓slp, slb, ↓reduceIte, reduceCtorEq, Nat.reduceEqDiff, Nat.reduceAdd, Nat.reduceMul, Nat.reduceLT, Nat.reduceLeDiff, Nat.reduceBEq, Nat.reduceBNe, Int.reduceLE, Int.reduceLT, Int.reduceToNat, Int.reduceEq, hT, hG, e1, e2, e3, e4, e5, e6]) | (refine aExit ?_; simp only [slx, ↓reduceIte, Nat.reduceEqDiff, reduceCtorEq]) | (refine aRet ?_; try simp only [slx, ↓reduceIte, Nat.reduceEqDiff, reduceCtorEq]) | (refine hX _ _ ?_; clear hX X) | (clear hX X; refine hX _ _ ?_; clear hX X) | (clear hX X; clear hX X; refine hX _ _ ?_; clear hX X) | (intro hlen; unfold maxLen at hlen) | (apply And.intro; (focus (first | omega | assumption | (repeat' apply And.intro) <;> first | omega | assumption)))))
    refine callE (tyI_any _) ?_
    simp -implicitDefEqProofs only [↓slp, slb, ↓reduceIte, reduceCtorEq, Nat.reduceEqDiff, Nat.reduceAdd, Nat.reduceMul, Nat.reduceLT, Nat.reduceLeDiff, Nat.reduceBEq, Nat.reduceBNe, Int.reduceLE, Int.reduceLT, Int.reduceToNat, Int.reduceEq, tfAbMk1, hT, hG]; try simp only [Ex.fold, Ex.foldcs, ← Va.pv.eq_1]
    (repeat (first | (refine aSeq (fun X hX => ?_)) | (refine aBlk ?_) | (refine aSkip ?_) | ((first | refine aReg ?_ | refine aDrw (fun m2 => m2 = _) (by kernel_rfl) rfl ?_); simp -implicitDefEqProofs only [forall_eq, ↓slp, slb, ↓reduceIte, reduceCtorEq, Nat.reduceEqDiff, Nat.reduceAdd, Nat.reduceMul, Nat.reduceLT, Nat.reduceLeDiff, Nat.reduceBEq, Nat.reduceBNe, Int.reduceLE, Int.reduceLT, Int.reduceToNat, Int.reduceEq, tfAbMk1, hT, hG]; try simp only [Ex.fold, Ex.foldcs, ← Va.pv.eq_1]) | (refine aIf ?_; simp -implicitDefEqProofs only [↓slp, slb, ↓reduceIte, reduceCtorEq, Nat.reduceEqDiff, Nat.reduceAdd, Nat.reduceMul, Nat.reduceLT, Nat.reduceLeDiff, Nat.reduceBEq, Nat.reduceBNe, Int.reduceLE, Int.reduceLT, Int.reduceToNat, Int.reduceEq, hT, hG]) | (refine aExit ?_; simp only [slx, ↓reduceIte, Nat.reduceEqDiff, reduceCtorEq]) | (refine aRet ?_; try simp only [slx, ↓reduceIte, Nat.reduceEqDiff, reduceCtorEq]) | (refine hX _ _ ?_; clear hX X) | (clear hX X; refine hX _ _ ?_; clear hX X) | (clear hX X; clear hX X; refine hX _ _ ?_; clear hX X) | (intro hlen; unfold maxLen at hlen) | (apply And.intro; (focus (first | omega | assumption | (repeat' apply And.intro) <;> first | omega | assumption)))))
    simp only [aPost, Try.results116, aRes_n, aRes_t, aRes_c, pack_one, pack_two]
    simp -implicitDefEqProofs only [↓slp, slb, ↓reduceIte, reduceCtorEq, Nat.reduceEqDiff, Nat.reduceAdd, Nat.reduceMul, Nat.reduceLT, Nat.reduceLeDiff, Nat.reduceBEq, Nat.reduceBNe, Int.reduceLE, Int.reduceLT, Int.reduceToNat, Int.reduceEq, tfAbMk1, hT, hG]; try simp only [Ex.fold, Ex.foldcs, ← Va.pv.eq_1]
    exact leave_gst hok (.refl m) rfl ⟨tyI, i', rfl, .inl rfl, rfl⟩
  · (repeat (first | (refine aSeq (fun X hX => ?_)) | (refine aBlk ?_) | (refine aSkip ?_) | ((first | refine aReg ?_ | refine aDrw (fun m2 => m2 = _) (by kernel_rfl) rfl ?_); simp -implicitDefEqProofs only [forall_eq, ↓slp, slb, ↓reduceIte, reduceCtorEq, Nat.reduceEqDiff, Nat.reduceAdd, Nat.reduceMul, Nat.reduceLT, Nat.reduceLeDiff, Nat.reduceBEq, Nat.reduceBNe, Int.reduceLE, Int.reduceLT, Int.reduceToNat, Int.reduceEq, tfAbMk1, hT, hG, e1, e2, e3, e4, e5, e6]; try simp only [Ex.fold, Ex.foldcs, ← Va.pv.eq_1]) | (refine aIf ?_; simp -implicitDefEqProofs only [↓slp, slb, ↓reduceIte, reduceCtorEq, Nat.reduceEqDiff, Nat.reduceAdd, Nat.reduceMul, Nat.reduceLT, Nat.reduceLeDiff, Nat.reduceBEq, Nat.reduceBNe, Int.reduceLE, Int.reduceLT, Int.reduceToNat, Int.reduceEq, hT, hG, e1, e2, e3, e4, e5, e6]) | (refine aExit ?_; simp only [slx, ↓reduceIte, Nat.reduceEqDiff, reduceCtorEq]) | (refine aRet ?_; try simp only [slx, ↓reduceIte, Nat.reduceEqDiff, reduceCtorEq]) | (refine hX _ _ ?_; clear hX X) | (clear hX X; refine hX _ _ ?_; clear hX X) | (clear hX X; clear hX X; refine hX _ _ ?_; clear hX X) | (intro hlen; unfold maxLen at hlen) | (apply And.intro; (focus (first | omega | assumption | (repeat' apply And.intro) <;> first | omega | assumption)))))
    refine callE (tyI_any _) ?_
    simp -implicitDefEqProofs only [↓slp, slb, ↓reduceIte, reduceCtorEq, Nat.reduceEqDiff, Nat.reduceAdd, Nat.reduceMul, Nat.reduceLT, Nat.reduceLeDiff, Nat.reduceBEq, Nat.reduceBNe, Int.reduceLE, Int.reduceLT, Int.reduceToNat, Int.reduceEq, tfAbMk1, hT, hG]; try simp only [Ex.fold, Ex.foldcs, ← Va.pv.eq_1]
    (repeat (first | (refine aSeq (fun X hX => ?_)) | (refine aBlk ?_) | (refine aSkip ?_) | ((first | refine aReg ?_ | refine aDrw (fun m2 => m2 = _) (by kernel_rfl) rfl ?_); simp -implicitDefEqProofs only [forall_eq, ↓slp, slb, ↓reduceIte, reduceCtorEq, Nat.reduceEqDiff, Nat.reduceAdd, Nat.reduceMul, Nat.reduceLT, Nat.reduceLeDiff, Nat.reduceBEq, Nat.reduceBNe, Int.reduceLE, Int.reduceLT, Int.reduceToNat, Int.reduceEq, tfAbMk1, hT, hG]; try simp only [Ex.fold, Ex.foldcs, ← Va.pv.eq_1]) | (refine aIf ?_; simp -implicitDefEqProofs only [↓slp, slb, ↓reduceIte, reduceCtorEq, Nat.reduceEqDiff, Nat.reduceAdd, Nat.reduceMul, Nat.reduceLT, Nat.reduceLeDiff, Nat.reduceBEq, Nat.reduceBNe, Int.reduceLE, Int.reduceLT, Int.reduceToNat, Int.reduceEq, hT, hG]) | (refine aExit ?_; simp only [slx, ↓reduceIte, Nat.reduceEqDiff, reduceCtorEq]) | (refine aRet ?_; try simp only [slx, ↓reduceIte, Nat.reduceEqDiff, reduceCtorEq]) | (refine hX _ _ ?_; clear hX X) | (clear hX X; refine hX _ _ ?_; clear hX X) | (clear hX X; clear hX X; refine hX _ _ ?_; clear hX X) | (intro hlen; unfold maxLen at hlen) | (apply And.intro; (focus (first | omega | assumption | (repeat' apply And.intro) <;> first | omega | assumption)))))
    simp only [aPost, Try.results116, aRes_n, aRes_t, aRes_c, pack_one, pack_two]
    simp -implicitDefEqProofs only [↓slp, slb, ↓reduceIte, reduceCtorEq, Nat.reduceEqDiff, Nat.reduceAdd, Nat.reduceMul, Nat.reduceLT, Nat.reduceLeDiff, Nat.reduceBEq, Nat.reduceBNe, Int.reduceLE, Int.reduceLT, Int.reduceToNat, Int.reduceEq, tfAbMk1, hT, hG]; try simp only [Ex.fold, Ex.foldcs, ← Va.pv.eq_1]
    exact leave_gst hok (.refl m) rfl ⟨tyI, i', rfl, .inl rfl, rfl⟩
  · (repeat (first | (refine aSeq (fun X hX => ?_)) | (refine aBlk ?_) | (refine aSkip ?_) | ((first | refine aReg ?_ | refine aDrw (fun m2 => m2 = _) (by kernel_rfl) rfl ?_); simp -implicitDefEqProofs only [forall_eq, ↓slp, slb, ↓reduceIte, reduceCtorEq, Nat.reduceEqDiff, Nat.reduceAdd, Nat.reduceMul, Nat.reduceLT, Nat.reduceLeDiff, Nat.reduceBEq, Nat.reduceBNe, Int.reduceLE, Int.reduceLT, Int.reduceToNat, Int.reduceEq, tfAbMk1, hT, hG, e1, e2, e3, e4, e5, e6]; try simp only [Ex.fold, Ex.foldcs, ← Va.pv.eq_1]) | (refine aIf ?_; simp -implicitDefEqProofs only [↓slp, slb, ↓reduceIte, reduceCtorEq, Nat.reduceEqDiff, Nat.reduceAdd, Nat.reduceMul, Nat.reduceLT, Nat.reduceLeDiff, Nat.reduceBEq, Nat.reduceBNe, Int.reduceLE, Int.reduceLT, Int.reduceToNat, Int.reduceEq, hT, hG, e1, e2, e3, e4, e5, e6]) | (refine aExit ?_; simp only [slx, ↓reduceIte, Nat.reduceEqDiff, reduceCtorEq]) | (refine aRet ?_; try simp only [slx, ↓reduceIte, Nat.reduceEqDiff, reduceCtorEq]) | (refine hX _ _ ?_; clear hX X) | (clear hX X; refine hX _ _ ?_; clear hX X) | (clear hX X; clear hX X; refine hX _ _ ?_; clear hX X) | (intro hlen; unfold maxLen at hlen) | (apply And.intro; (focus (first | omega | assumption | (repeat' apply And.intro) <;> first | omega | assumption)))))
    refine callE (tyB_any _) ?_
    simp -implicitDefEqProofs only [↓slp, slb, ↓reduceIte, reduceCtorEq, Nat.reduceEqDiff, Nat.reduceAdd, Nat.reduceMul, Nat.reduceLT, Nat.reduceLeDiff, Nat.reduceBEq, Nat.reduceBNe, Int.reduceLE, Int.reduceLT, Int.reduceToNat, Int.reduceEq, tfAbMk1, hT, hG]; try simp only [Ex.fold, Ex.foldcs, ← Va.pv.eq_1]
    (repeat (first | (refine aSeq (fun X hX => ?_)) | (refine aBlk ?_) | (refine aSkip ?_) | ((first | refine aReg ?_ | refine aDrw (fun m2 => m2 = _) (by kernel_rfl) rfl ?_); simp -implicitDefEqProofs only [forall_eq, ↓slp, slb, ↓reduceIte, reduceCtorEq, Nat.reduceEqDiff, Nat.reduceAdd, Nat.reduceMul, Nat.reduceLT, Nat.reduceLeDiff, Nat.reduceBEq, Nat.reduceBNe, Int.reduceLE, Int.reduceLT, Int.reduceToNat, Int.reduceEq, tfAbMk1, hT, hG]; try simp only [Ex.fold, Ex.foldcs, ← Va.pv.eq_1]) | (refine aIf ?_; simp -implicitDefEqProofs only [↓slp, slb, ↓reduceIte, reduceCtorEq, Nat.reduceEqDiff, Nat.reduceAdd, Nat.reduceMul, Nat.reduceLT, Nat.reduceLeDiff, Nat.reduceBEq, Nat.reduceBNe, Int.reduceLE, Int.reduceLT, Int.reduceToNat, Int.reduceEq, hT, hG]) | (refine aExit ?_; simp only [slx, ↓reduceIte, Nat.reduceEqDiff, reduceCtorEq]) | (refine aRet ?_; try simp only [slx, ↓reduceIte, Nat.reduceEqDiff, reduceCtorEq]) | (refine hX _ _ ?_; clear hX X) | (clear hX X; refine hX _ _ ?_; clear hX X) | (clear hX X; clear hX X; refine hX _ _ ?_; clear hX X) | (intro hlen; unfold maxLen at hlen) | (apply And.intro; (focus (first | omega | assumption | (repeat' apply And.intro) <;> first | omega | assumption)))))
    simp only [aPost, Try.results116, aRes_n, aRes_t, aRes_c, pack_one, pack_two]
    simp -implicitDefEqProofs only [↓slp, slb, ↓reduceIte, reduceCtorEq, Nat.reduceEqDiff, Nat.reduceAdd, Nat.reduceMul, Nat.reduceLT, Nat.reduceLeDiff, Nat.reduceBEq, Nat.reduceBNe, Int.reduceLE, Int.reduceLT, Int.reduceToNat, Int.reduceEq, tfAbMk1, hT, hG]; try simp only [Ex.fold, Ex.foldcs, ← Va.pv.eq_1]
    exact leave_gst hok (.refl m) rfl ⟨tyB, i', rfl, .inr (.inl rfl), rfl⟩
  · (repeat (first | (refine aSeq (fun X hX => ?_)) | (refine aBlk ?_) | (refine aSkip ?_) | ((first | refine aReg ?_ | refine aDrw (fun m2 => m2 = _) (by kernel_rfl) rfl ?_); simp -implicitDefEqProofs only [forall_eq, ↓slp, slb, ↓reduceIte, reduceCtorEq, Nat.reduceEqDiff, Nat.reduceAdd, Nat.reduceMul, Nat.reduceLT, Nat.reduceLeDiff, Nat.reduceBEq, Nat.reduceBNe, Int.reduceLE, Int.reduceLT, Int.reduceToNat, Int.reduceEq, tfAbMk1, hT, hG, e1, e2, e3, e4, e5, e6]; try simp only [Ex.fold, Ex.foldcs, ← Va.pv.eq_1]) | (refine aIf ?_; simp -implicitDefEqProofs only [↓slp, slb, ↓reduceIte, reduceCtorEq, Nat.reduceEqDiff, Nat.reduceAdd, Nat.reduceMul, Nat.reduceLT, Nat.reduceLeDiff, Nat.reduceBEq, Nat.reduceBNe, Int.reduceLE, Int.reduceLT, Int.reduceToNat, Int.reduceEq, hT, hG, e1, e2, e3, e4, e5, e6]) | (refine aExit ?_; simp only [slx, ↓reduceIte, Nat.reduceEqDiff, reduceCtorEq]) | (refine aRet ?_; try simp only [slx, ↓reduceIte, Nat.reduceEqDiff, reduceCtorEq]) | (refine hX _ _ ?_; clear hX X) | (clear hX X; refine hX _ _ ?_; clear hX X) | (clear hX X; clear hX X; refine hX _ _ ?_; clear hX X) | (intro hlen; unfold maxLen at hlen) | (apply And.intro; (focus (first | omega | assumption | (repeat' apply And.intro) <;> first | omega | assumption)))))
    refine callE (tyC_any _) ?_
    simp -implicitDefEqProofs only [↓slp, slb, ↓reduceIte, reduceCtorEq, Nat.reduceEqDiff, Nat.reduceAdd, Nat.reduceMul, Nat.reduceLT, Nat.reduceLeDiff, Nat.reduceBEq, Nat.reduceBNe, Int.reduceLE, Int.reduceLT, Int.reduceToNat, Int.reduceEq, tfAbMk1, hT, hG]; try simp only [Ex.fold, Ex.foldcs, ← Va.pv.eq_1]
    (repeat (first | (refine aSeq (fun X hX => ?_)) | (refine aBlk ?_) | (refine aSkip ?_) | ((first | refine aReg ?_ | refine aDrw (fun m2 => m2 = _) (by kernel_rfl) rfl ?_); simp -implicitDefEqProofs only [forall_eq, ↓slp, slb, ↓reduceIte, reduceCtorEq, Nat.reduceEqDiff, Nat.reduceAdd, Nat.reduceMul, Nat.reduceLT, Nat.reduceLeDiff, Nat.reduceBEq, Nat.reduceBNe, Int.reduceLE, Int.reduceLT, Int.reduceToNat, Int.reduceEq, tfAbMk1, hT, hG]; try simp only [Ex.fold, Ex.foldcs, ← Va.pv.eq_1]) | (refine aIf ?_; simp -implicitDefEqProofs only [↓slp, slb, ↓reduceIte, reduceCtorEq, Nat.reduceEqDiff, Nat.reduceAdd, Nat.reduceMul, Nat.reduceLT, Nat.reduceLeDiff, Nat.reduceBEq, Nat.reduceBNe, Int.reduceLE, Int.reduceLT, Int.reduceToNat, Int.reduceEq, hT, hG]) | (refine aExit ?_; simp only [slx, ↓reduceIte, Nat.reduceEqDiff, reduceCtorEq]) | (refine aRet ?_; try simp only [slx, ↓reduceIte, Nat.reduceEqDiff, reduceCtorEq]) | (refine hX _ _ ?_; clear hX X) | (clear hX X; refine hX _ _ ?_; clear hX X) | (clear hX X; clear hX X; refine hX _ _ ?_; clear hX X) | (intro hlen; unfold maxLen at hlen) | (apply And.intro; (focus (first | omega | assumption | (repeat' apply And.intro) <;> first | omega | assumption)))))
    simp only [aPost, Try.results116, aRes_n, aRes_t, aRes_c, pack_one, pack_two]
    simp -implicitDefEqProofs only [↓slp, slb, ↓reduceIte, reduceCtorEq, Nat.reduceEqDiff, Nat.reduceAdd, Nat.reduceMul, Nat.reduceLT, Nat.reduceLeDiff, Nat.reduceBEq, Nat.reduceBNe, Int.reduceLE, Int.reduceLT, Int.reduceToNat, Int.reduceEq, tfAbMk1, hT, hG]; try simp only [Ex.fold, Ex.foldcs, ← Va.pv.eq_1]
    exact leave_gst hok (.refl m) rfl ⟨tyC, i', rfl, .inr (.inr rfl), rfl⟩
end Go.Proofs.Ytibhhoknipdlpaa

/-
  The maker: constants, variables.
-/
set_option linter.unusedVariables false
set_option linter.unusedSimpArgs false
namespace Go.Proofs.Ytibhhoknipdlpaa
open Go
set_option linter.defProp false
def tfAbMk2 := And.intro @td_3 (And.intro @zv_3 (And.intro @Try.underlying3 (And.intro @td_4 (And.intro @zv_4 (And.intro @Try.underlying4 (And.intro @td_5 (And.intro @zv_5 (And.intro @Try.underlying5 (And.intro @td_9 (And.intro @zv_9 (And.intro @Try.underlying9 (And.intro @td_21 (And.intro @zv_21 (And.intro @Try.underlying21 (And.intro @td_22 (And.intro @zv_22 (And.intro @tel_22 (And.intro @Try.underlying22 (And.intro @td_30 (And.intro @zv_30 (And.intro @tel_30 (And.intro @Try.underlying30 (And.intro @td_32 (And.intro @zv_32 (And.intro @tel_32 (And.intro @Try.underlying32 (And.intro @td_41 (And.intro @zv_41 (And.intro @tel_41 (And.intro @Try.underlying41 (And.intro @td_44 (And.intro @zv_44 (And.intro @tf_44 (And.intro @td_49 (And.intro @zv_49 (And.intro @tf_49 (And.intro @fl_49 (And.intro @td_50 (And.intro @zv_50 (And.intro @tel_50 (And.intro @Try.underlying50 (And.intro @td_52 (And.intro @zv_52 (And.intro @tf_52 (And.intro @td_92 (And.intro @zv_92 (And.intro @td_94 (And.intro @zv_94 (And.intro @tf_94 (And.intro @td_96 (And.intro @zv_96 (And.intro @td_98 (And.intro @zv_98 (And.intro @tf_98 (And.intro @td_154 (And.intro @zv_154 (And.intro @tel_154 (And.intro @Try.underlying154 (And.intro @Ex.settle_pv (And.intro @Ex.pure_pv (And.intro @Ex.cells_pv (And.intro @Ex.cs.eq_1 (And.intro @On.pv.eq_1 (And.intro @Ty.pv.eq_1 (And.intro @Va.settle_pv (And.intro @Va.pure_pv (And.intro @Va.cells_pv (And.intro @Va.cs.eq_1 (And.intro @gst_nb (And.intro @gst_nt (And.intro @gst_fresh (And.intro @gst_use (And.intro @gst_free (And.intro @gst_alive (And.intro @gst_t (And.intro @gst_g (And.intro @gst_updt (And.intro @gst_updg (And.intro @gst_ext (And.intro @gst_ext2 (And.intro @gst_et (And.intro @gst_eg (And.intro @gst_own (And.intro @gst_own0 (And.intro @gst_ou (And.intro @gst_ou0 (And.intro @GP.tape.eq_1 @GP.gen.eq_1)))))))))))))))))))))))))))))))))))))))))))))))))))))))))))))))))))))))))))))))))))))))
-- EXX: gst_nb, gst_nt, gst_fresh, gst_use, gst_free, gst_alive, gst_t, gst_g, gst_updt, gst_updg, gst_ext, gst_ext2, gst_et, gst_eg, gst_own, gst_own0, gst_ou, gst_ou0, GP.tape, GP.gen
-- TYPES: 3 4 5 9 21 22 30 32 41 44 49 50 52 92 94 96 98 154

abbrev sE : Str := ⟨#[]⟩
abbrev sRed : Str := ⟨#[82, 101, 100]⟩
abbrev sGreen : Str := ⟨#[71, 114, 101, 101, 110]⟩
abbrev sBlue : Str := ⟨#[66, 108, 117, 101]⟩
def Ex.sc (k o n : Int) (s : Str) : Ex := .mk k o n s [] [] 0 0
theorem Ex.sc_lit (k o n : Int) (s : Str) : PV.ag [PV.v (Value.int IntKind.u8 k), PV.v (Value.int IntKind.u8 o), PV.v (Value.int IntKind.i32 n), PV.v (Value.string s), PV.sl Own.no [], PV.sl Own.no [], PV.v (Value.int IntKind.i64 0), PV.v (Value.int IntKind.i64 0)] = (Ex.sc k o n s).pv := by
  rw [Ex.pv_eq]; rfl
/-- Constants of a type. -/
def isConst (t : Ty) (e : Ex) : Prop :=
  (t = tyB ∧ ∃ k, (0 ≤ k ∧ k < 2) ∧ e = Ex.sc 2 0 k sE) ∨ (t = tyI ∧ ∃ k ∈ ([0, 1, 2, -1, 7, -2147483648] : List Int), e = Ex.sc 1 0 k sE) ∨ (t = tyC ∧ ∃ c ∈ [sRed, sGreen, sBlue], e = Ex.sc 3 0 0 c)
theorem pick6 (r : Int) (h0 : 0 ≤ r) (h1 : r < 6) : ∃ x, x ∈ ([0, 1, 2, -1, 7, -2147483648] : List Int) ∧ [PV.v (Value.int IntKind.i32 0), PV.v (Value.int IntKind.i32 1), PV.v (Value.int IntKind.i32 2), PV.v (Value.int IntKind.i32 (-1)), PV.v (Value.int IntKind.i32 7), PV.v (Value.int IntKind.i32 (-2147483648))].getD r.toNat PV.junk = .v (.int .i32 x) := by
  have cas : r = 0 ∨ r = 1 ∨ r = 2 ∨ r = 3 ∨ r = 4 ∨ r = 5 := by omega
  rcases cas with rfl | rfl | rfl | rfl | rfl | rfl
  · exact ⟨0, by simp, rfl⟩
  · exact ⟨1, by simp, rfl⟩
  · exact ⟨2, by simp, rfl⟩
  · exact ⟨-1, by simp, rfl⟩
  · exact ⟨7, by simp, rfl⟩
  · exact ⟨-2147483648, by simp, rfl⟩
theorem pick3 (r : Int) (h0 : 0 ≤ r) (h1 : r < 3) : ∃ x, x ∈ [sRed, sGreen, sBlue] ∧ [PV.v (Value.string sRed), PV.v (Value.string sGreen), PV.v (Value.string sBlue)].getD r.toNat PV.junk = .v (.string x) := by
  have cas : r = 0 ∨ r = 1 ∨ r = 2 := by omega
  rcases cas with rfl | rfl | rfl
  · exact ⟨sRed, by simp, rfl⟩
  · exact ⟨sGreen, by simp, rfl⟩
  · exact ⟨sBlue, by simp, rfl⟩

set_option maxRecDepth 20000 in
set_option maxHeartbeats 1000000 in
theorem constant_any (p : GP) (m : M) (hok : p.ok m) (t : Ty) (ht : isTy t) (i : Nat) (n q : Int) : ACalls Try.prog 102 [.bp p.gp 0, t.pv] (gst p m i n q) (fun v m' => ∃ e i', v = Ex.pv e ∧ isConst t e ∧ m' = gst p m i' n q) := by
  have hG := hok.gp
  have hT := hok.tp
  refine ACalls.enter (mu := [4]) ok_mix Try.func102 rfl (by kernel_rfl) (by kernel_rfl) (by simp only [List.length_cons, List.length_nil, Try.ntmps102]; omega) ?_
  (repeat (first | (refine aSeq (fun X hX => ?_)) | (refine aBlk ?_) | (refine aSkip ?_) | ((first | refine aReg ?_ | refine aDrw (fun m2 => m2 = _) (by kernel_rfl) rfl ?_); simp -implicitDefEqProofs only [forall_eq, ↓slp, slb, ↓reduceIte, reduceCtorEq, Nat.reduceEqDiff, Nat.reduceAdd, Nat.reduceMul, Nat.reduceLT, Nat.reduceLeDiff, Nat.reduceBEq, Nat.reduceBNe, Int.reduceLE, Int.reduceLT, Int.reduceToNat, Int.reduceEq, tfAbMk2, hT, hG]; try simp only [Ex.fold, Ex.foldcs, ← Va.pv.eq_1]) | (refine aIf ?_; simp -implicitDefEqProofs only [↓slp, slb, ↓reduceIte, reduceCtorEq, Nat.reduceEqDiff, Nat.reduceAdd, Nat.reduceMul, Nat.reduceLT, Nat.reduceLeDiff, Nat.reduceBEq, Nat.reduceBNe, Int.reduceLE, Int.reduceLT, Int.reduceToNat, Int.reduceEq, hT, hG]) | (refine aExit ?_; simp only [slx, ↓reduceIte, Nat.reduceEqDiff, reduceCtorEq]) | (refine aRet ?_; try simp only [slx, ↓reduceIte, Nat.reduceEqDiff, reduceCtorEq]) | (refine hX _ _ ?_; clear hX X) | (clear hX X; refine hX _ _ ?_; clear hX X) | (clear hX X; clear hX X; refine hX _ _ ?_; clear hX X) | (intro hlen; unfold maxLen at hlen) | (apply And.intro; (focus (first | omega | assumption | (repeat' apply And.intro) <;> first | omega | assumption)))))
  refine callM (next_any p _ (hok.ext _) 6 (by omega) i n q) ?_
  rintro v m' ⟨r, i', rfl, ⟨hr0, hr1⟩, rfl⟩
  simp -implicitDefEqProofs only [↓slp, slb, ↓reduceIte, reduceCtorEq, Nat.reduceEqDiff, Nat.reduceAdd, Nat.reduceMul, Nat.reduceLT, Nat.reduceLeDiff, Nat.reduceBEq, Nat.reduceBNe, Int.reduceLE, Int.reduceLT, Int.reduceToNat, Int.reduceEq, tfAbMk2, hT, hG]; try simp only [Ex.fold, Ex.foldcs, ← Va.pv.eq_1]
  rcases ht with rfl | rfl | rfl
  · obtain ⟨x, hx, hg⟩ := pick6 r hr0 hr1
    have e1 : (tyI.kind == 1) = false := rfl
    have e2 : (tyI.kind == 2) = true := rfl
    have hr2 : r.toNat < 6 := by omega
    (repeat (first | (refine aSeq (fun X hX => ?_)) | (refine aBlk ?_) | (refine aSkip ?_) | ((first | refine aReg ?_ | refine aDrw (fun m2 => m2 = _) (by kernel_rfl) rfl ?_); simp -implicitDefEqProofs only [forall_eq, ↓slp, slb, ↓reduceIte, reduceCtorEq, Nat.reduceEqDiff, Nat.reduceAdd, Nat.reduceMul, Nat.reduceLT, Nat.reduceLeDiff, Nat.reduceBEq, Nat.reduceBNe, Int.reduceLE, Int.reduceLT, Int.reduceToNat, Int.reduceEq, tfAbMk2, hT, hG, e1, e2, hg]; try simp only [Ex.fold, Ex.foldcs, ← Va.pv.eq_1]) | (refine aIf ?_; simp -implicitDefEqProofs only [↓slp, slb, ↓reduceIte, reduceCtorEq, Nat.reduceEqDiff, Nat.reduceAdd, Nat.reduceMul, Nat.reduceLT, Nat.reduceLeDiff, Nat.reduceBEq, Nat.reduceBNe, Int.reduceLE, Int.reduceLT, Int.reduceToNat, Int.reduceEq, hT, hG, e1, e2, hg]) | (refine aExit ?_; simp only [slx, ↓reduceIte, Nat.reduceEqDiff, reduceCtorEq]) | (refine aRet ?_; try simp only [slx, ↓reduceIte, Nat.reduceEqDiff, reduceCtorEq]) | (refine hX _ _ ?_; clear hX X) | (clear hX X; refine hX _ _ ?_; clear hX X) | (clear hX X; clear hX X; refine hX _ _ ?_; clear hX X) | (intro hlen; unfold maxLen at hlen) | (apply And.intro; (focus (first | omega | assumption | (repeat' apply And.intro) <;> first | omega | assumption)))))
    simp only [aPost, Try.results102, aRes_n, aRes_t, aRes_c, pack_one, pack_two]
    simp -implicitDefEqProofs only [↓slp, slb, ↓reduceIte, reduceCtorEq, Nat.reduceEqDiff, Nat.reduceAdd, Nat.reduceMul, Nat.reduceLT, Nat.reduceLeDiff, Nat.reduceBEq, Nat.reduceBNe, Int.reduceLE, Int.reduceLT, Int.reduceToNat, Int.reduceEq, tfAbMk2, hT, hG]; try simp only [Ex.fold, Ex.foldcs, ← Va.pv.eq_1]
    refine leave_gst hok (.refl m) rfl ⟨Ex.sc 1 0 x sE, i', ?_, .inr (.inl ⟨rfl, x, hx, rfl⟩), rfl⟩
    rw [← Ex.sc_lit]; rfl
  · have e1 : (tyB.kind == 1) = true := rfl
    have hm0 := Int.tmod_nonneg 2 hr0
    have hm1 := Int.tmod_lt_of_pos r (show (0 : Int) < 2 by omega)
    have hw : IntKind.i32.wrap (r.tmod 2) = r.tmod 2 := IntWalk.i32_in _ (by omega)
    (repeat (first | (refine aSeq (fun X hX => ?_)) | (refine aBlk ?_) | (refine aSkip ?_) | ((first | refine aReg ?_ | refine aDrw (fun m2 => m2 = _) (by kernel_rfl) rfl ?_); simp -implicitDefEqProofs only [forall_eq, ↓slp, slb, ↓reduceIte, reduceCtorEq, Nat.reduceEqDiff, Nat.reduceAdd, Nat.reduceMul, Nat.reduceLT, Nat.reduceLeDiff, Nat.reduceBEq, Nat.reduceBNe, Int.reduceLE, Int.reduceLT, Int.reduceToNat, Int.reduceEq, tfAbMk2, hT, hG, e1, hw]; try simp only [Ex.fold, Ex.foldcs, ← Va.pv.eq_1]) | (refine aIf ?_; simp -implicitDefEqProofs only [↓slp, slb, ↓reduceIte, reduceCtorEq, Nat.reduceEqDiff, Nat.reduceAdd, Nat.reduceMul, Nat.reduceLT, Nat.reduceLeDiff, Nat.reduceBEq, Nat.reduceBNe, Int.reduceLE, Int.reduceLT, Int.reduceToNat, Int.reduceEq, hT, hG, e1, hw]) | (refine aExit ?_; simp only [slx, ↓reduceIte, Nat.reduceEqDiff, reduceCtorEq]) | (refine aRet ?_; try simp only [slx, ↓reduceIte, Nat.reduceEqDiff, reduceCtorEq]) | (refine hX _ _ ?_; clear hX X) | (clear hX X; refine hX _ _ ?_; clear hX X) | (clear hX X; clear hX X; refine hX _ _ ?_; clear hX X) | (intro hlen; unfold maxLen at hlen) | (apply And.intro; (focus (first | omega | assumption | (repeat' apply And.intro) <;> first | omega | assumption)))))
    simp only [aPost, Try.results102, aRes_n, aRes_t, aRes_c, pack_one, pack_two]
    simp -implicitDefEqProofs only [↓slp, slb, ↓reduceIte, reduceCtorEq, Nat.reduceEqDiff, Nat.reduceAdd, Nat.reduceMul, Nat.reduceLT, Nat.reduceLeDiff, Nat.reduceBEq, Nat.reduceBNe, Int.reduceLE, Int.reduceLT, Int.reduceToNat, Int.reduceEq, tfAbMk2, hT, hG]; try simp only [Ex.fold, Ex.foldcs, ← Va.pv.eq_1]
    refine leave_gst hok (.refl m) rfl ⟨Ex.sc 2 0 (r.tmod 2) sE, i', ?_, .inl ⟨rfl, _, ⟨hm0, hm1⟩, rfl⟩, rfl⟩
    rw [← Ex.sc_lit]; rfl
  · have e1 : (tyC.kind == 1) = false := rfl
    have e2 : (tyC.kind == 2) = false := rfl
    have hm0 := Int.tmod_nonneg 3 hr0
    have hm1 := Int.tmod_lt_of_pos r (show (0 : Int) < 3 by omega)
    obtain ⟨x, hx, hg⟩ := pick3 (r.tmod 3) hm0 hm1
    have hr2 : (r.tmod 3).toNat < 3 := by omega
    (repeat (first | (refine aSeq (fun X hX => ?_)) | (refine aBlk ?_) | (refine aSkip ?_) | ((first | refine aReg ?_ | refine aDrw (fun m2 => m2 = _) (by kernel_rfl) rfl ?_); simp -implicitDefEqProofs only [forall_eq, ↓slp, slb, ↓reduceIte, reduceCtorEq, Nat.reduceEqDiff, Nat.reduceAdd, Nat.reduceMul, Nat.reduceLT, Nat.reduceLeDiff, Nat.reduceBEq, Nat.reduceBNe, Int.reduceLE, Int.reduceLT, Int.reduceToNat, Int.reduceEq, tfAbMk2, hT, hG, e1, e2, hg]; try simp only [Ex.fold, Ex.foldcs, ← Va.pv.eq_1]) | (refine aIf ?_; simp -implicitDefEqProofs only [↓slp, slb, ↓reduceIte, reduceCtorEq, Nat.reduceEqDiff, Nat.reduceAdd, Nat.reduceMul, Nat.reduceLT, Nat.reduceLeDiff, Nat.reduceBEq, Nat.reduceBNe, Int.reduceLE, Int.reduceLT, Int.reduceToNat, Int.reduceEq, hT, hG, e1, e2, hg]) | (refine aExit ?_; simp only [slx, ↓reduceIte, Nat.reduceEqDiff, reduceCtorEq]) | (refine aRet ?_; try simp only [slx, ↓reduceIte, Nat.reduceEqDiff, reduceCtorEq]) | (refine hX _ _ ?_; clear hX X) | (clear hX X; refine hX _ _ ?_; clear hX X) | (clear hX X; clear hX X; refine hX _ _ ?_; clear hX X) | (intro hlen; unfold maxLen at hlen) | (apply And.intro; (focus (first | omega | assumption | (repeat' apply And.intro) <;> first | omega | assumption)))))
    simp only [aPost, Try.results102, aRes_n, aRes_t, aRes_c, pack_one, pack_two]
    simp -implicitDefEqProofs only [↓slp, slb, ↓reduceIte, reduceCtorEq, Nat.reduceEqDiff, Nat.reduceAdd, Nat.reduceMul, Nat.reduceLT, Nat.reduceLeDiff, Nat.reduceBEq, Nat.reduceBNe, Int.reduceLE, Int.reduceLT, Int.reduceToNat, Int.reduceEq, tfAbMk2, hT, hG]; try simp only [Ex.fold, Ex.foldcs, ← Va.pv.eq_1]
    refine leave_gst hok (.refl m) rfl ⟨Ex.sc 3 0 0 x, i', ?_, .inr (.inr ⟨rfl, x, hx, rfl⟩), rfl⟩
    rw [← Ex.sc_lit]; rfl

/-- An expression of two. -/
def Ex.two (k o : Int) (a b : Ex) : Ex := .mk k o 0 sE [] [a, b] 0 0
set_option maxRecDepth 20000 in
set_option maxHeartbeats 400000 in
theorem two_any (k o : Int) (a b : Ex) (m : M) : ACalls Try.prog 128 [.v (.int .u8 k), .v (.int .u8 o), a.pv, b.pv] m (fun v m' => v = (Ex.two k o a b).pv ∧ m' = m) := by
  refine ACalls.enter (mu := [8]) ok_mix Try.func128 rfl (by kernel_rfl) (by kernel_rfl) (by simp only [List.length_cons, List.length_nil, Try.ntmps128]; omega) ?_
  (repeat (first | (refine aSeq (fun X hX => ?_)) | (refine aBlk ?_) | (refine aSkip ?_) | ((first | refine aReg ?_ | refine aDrw (fun m2 => m2 = _) (by kernel_rfl) rfl ?_); simp -implicitDefEqProofs only [forall_eq, ↓slp, slb, ↓reduceIte, reduceCtorEq, Nat.reduceEqDiff, Nat.reduceAdd, Nat.reduceMul, Nat.reduceLT, Nat.reduceLeDiff, Nat.reduceBEq, Nat.reduceBNe, Int.reduceLE, Int.reduceLT, Int.reduceToNat, Int.reduceEq, tfAbMk2]; try simp only [Ex.fold, Ex.foldcs, ← Va.pv.eq_1]) | (refine aIf ?_; simp -implicitDefEqProofs only [↓slp, slb, ↓reduceIte, reduceCtorEq, Nat.reduceEqDiff, Nat.reduceAdd, Nat.reduceMul, Nat.reduceLT, Nat.reduceLeDiff, Nat.reduceBEq, Nat.reduceBNe, Int.reduceLE, Int.reduceLT, Int.reduceToNat, Int.reduceEq]) | (refine aExit ?_; simp only [slx, ↓reduceIte, Nat.reduceEqDiff, reduceCtorEq]) | (refine aRet ?_; try simp only [slx, ↓reduceIte, Nat.reduceEqDiff, reduceCtorEq]) | (refine hX _ _ ?_; clear hX X) | (clear hX X; refine hX _ _ ?_; clear hX X) | (clear hX X; clear hX X; refine hX _ _ ?_; clear hX X) | (intro hlen; unfold maxLen at hlen) | (apply And.intro; (focus (first | omega | assumption | (repeat' apply And.intro) <;> first | omega | assumption)))))
  simp only [aPost, Try.results128, aRes_n, aRes_t, aRes_c, pack_one, pack_two]
  simp -implicitDefEqProofs only [↓slp, slb, ↓reduceIte, reduceCtorEq, Nat.reduceEqDiff, Nat.reduceAdd, Nat.reduceMul, Nat.reduceLT, Nat.reduceLeDiff, Nat.reduceBEq, Nat.reduceBNe, Int.reduceLE, Int.reduceLT, Int.reduceToNat, Int.reduceEq, tfAbMk2]; try simp only [Ex.fold, Ex.foldcs, ← Va.pv.eq_1]
  refine leave_ext (by simp [PV.settle, PV.settles, PV.pure, PV.pures, Ex.settle_pv, Ex.pure_pv]) ⟨?_, rfl⟩
  rw [Ex.pv_eq (Ex.two k o a b)]
  simp only [PV.settle, PV.settles, Ex.settle_pv, Ex.two, Ex.cs, Ex.kind, Ex.op, Ex.n, Ex.name, Ex.names, Ex.kids, Ex.line, Ex.col, List.map_cons, List.map_nil]
end Go.Proofs.Ytibhhoknipdlpaa

/-
  The maker: a variable of a type.
-/
set_option linter.unusedVariables false
set_option linter.unusedSimpArgs false
namespace Go.Proofs.Ytibhhoknipdlpaa
open Go
set_option linter.defProp false
def tfAbMk3 := And.intro @td_3 (And.intro @zv_3 (And.intro @Try.underlying3 (And.intro @td_4 (And.intro @zv_4 (And.intro @Try.underlying4 (And.intro @td_5 (And.intro @zv_5 (And.intro @Try.underlying5 (And.intro @td_9 (And.intro @zv_9 (And.intro @Try.underlying9 (And.intro @td_21 (And.intro @zv_21 (And.intro @Try.underlying21 (And.intro @td_22 (And.intro @zv_22 (And.intro @tel_22 (And.intro @Try.underlying22 (And.intro @td_30 (And.intro @zv_30 (And.intro @tel_30 (And.intro @Try.underlying30 (And.intro @td_32 (And.intro @zv_32 (And.intro @tel_32 (And.intro @Try.underlying32 (And.intro @td_41 (And.intro @zv_41 (And.intro @tel_41 (And.intro @Try.underlying41 (And.intro @td_44 (And.intro @zv_44 (And.intro @tf_44 (And.intro @td_49 (And.intro @zv_49 (And.intro @tf_49 (And.intro @fl_49 (And.intro @td_50 (And.intro @zv_50 (And.intro @tel_50 (And.intro @Try.underlying50 (And.intro @td_52 (And.intro @zv_52 (And.intro @tf_52 (And.intro @td_92 (And.intro @zv_92 (And.intro @td_94 (And.intro @zv_94 (And.intro @tf_94 (And.intro @td_96 (And.intro @zv_96 (And.intro @td_98 (And.intro @zv_98 (And.intro @tf_98 (And.intro @td_154 (And.intro @zv_154 (And.intro @tel_154 (And.intro @Try.underlying154 (And.intro @Ex.settle_pv (And.intro @Ex.pure_pv (And.intro @Ex.cells_pv (And.intro @Ex.cs.eq_1 (And.intro @On.pv.eq_1 (And.intro @Ty.pv.eq_1 (And.intro @Va.settle_pv (And.intro @Va.pure_pv (And.intro @Va.cells_pv (And.intro @Va.cs.eq_1 (And.intro @gst_nb (And.intro @gst_nt (And.intro @gst_fresh (And.intro @gst_use (And.intro @gst_free (And.intro @gst_alive (And.intro @gst_t (And.intro @gst_g (And.intro @gst_updt (And.intro @gst_updg (And.intro @gst_ext (And.intro @gst_ext2 (And.intro @gst_et (And.intro @gst_eg (And.intro @gst_own (And.intro @gst_own0 (And.intro @gst_ou (And.intro @gst_ou0 (And.intro @GP.tape.eq_1 @GP.gen.eq_1)))))))))))))))))))))))))))))))))))))))))))))))))))))))))))))))))))))))))))))))))))))))
-- EXX: gst_nb, gst_nt, gst_fresh, gst_use, gst_free, gst_alive, gst_t, gst_g, gst_updt, gst_updg, gst_ext, gst_ext2, gst_et, gst_eg, gst_own, gst_own0, gst_ou, gst_ou0, GP.tape, GP.gen
-- TYPES: 3 4 5 9 21 22 30 32 41 44 49 50 52 92 94 96 98 154

/-- A variable of a list that has a type, and stands on no clock. -/
def isVar (l : List Va) (t : Ty) (s : Str) : Prop := ∃ v ∈ l, v.t = t ∧ v.clock = [] ∧ v.name = s
set_option maxRecDepth 20000 in
set_option maxHeartbeats 1000000 in
theorem pick_any (p : GP) (m : M) (hok : p.ok m) (o : Own) (l : List Va) (hl : l.length < 2 ^ 40) (t : Ty) (i : Nat) (n q : Int) : ACalls Try.prog 129 [.bp p.gp 0, .sl o (l.map Va.pv), t.pv] (gst p m i n q) (fun v m' => ∃ s b i', v = .tp [pS s, pB b] ∧ (b = true → isVar l t s) ∧ m' = gst p m i' n q) := by
  have hG := hok.gp
  have hT := hok.tp
  refine ACalls.enter (mu := []) ok_mix Try.func129 rfl (by kernel_rfl) (by kernel_rfl) (by simp only [List.length_cons, List.length_nil, Try.ntmps129]; omega) ?_
  (repeat (first | (refine aSeq (fun X hX => ?_)) | (refine aBlk ?_) | (refine aSkip ?_) | ((first | refine aReg ?_ | refine aDrw (fun m2 => m2 = _) (by kernel_rfl) rfl ?_); simp -implicitDefEqProofs only [forall_eq, ↓slp, slb, ↓reduceIte, reduceCtorEq, Nat.reduceEqDiff, Nat.reduceAdd, Nat.reduceMul, Nat.reduceLT, Nat.reduceLeDiff, Nat.reduceBEq, Nat.reduceBNe, Int.reduceLE, Int.reduceLT, Int.reduceToNat, Int.reduceEq, tfAbMk3, hT, hG]; try simp only [Ex.fold, Ex.foldcs, ← Va.pv.eq_1]) | (refine aIf ?_; simp -implicitDefEqProofs only [↓slp, slb, ↓reduceIte, reduceCtorEq, Nat.reduceEqDiff, Nat.reduceAdd, Nat.reduceMul, Nat.reduceLT, Nat.reduceLeDiff, Nat.reduceBEq, Nat.reduceBNe, Int.reduceLE, Int.reduceLT, Int.reduceToNat, Int.reduceEq, hT, hG]) | (refine aExit ?_; simp only [slx, ↓reduceIte, Nat.reduceEqDiff, reduceCtorEq]) | (refine aRet ?_; try simp only [slx, ↓reduceIte, Nat.reduceEqDiff, reduceCtorEq]) | (refine hX _ _ ?_; clear hX X) | (clear hX X; refine hX _ _ ?_; clear hX X) | (clear hX X; clear hX X; refine hX _ _ ?_; clear hX X) | (intro hlen; unfold maxLen at hlen) | (apply And.intro; (focus (first | omega | assumption | (repeat' apply And.intro) <;> first | omega | assumption)))))
  refine callM (next_any p _ hok 7 (by omega) i n q) ?_
  rintro v m' ⟨r, i', rfl, ⟨hr0, hr1⟩, rfl⟩
  simp -implicitDefEqProofs only [↓slp, slb, ↓reduceIte, reduceCtorEq, Nat.reduceEqDiff, Nat.reduceAdd, Nat.reduceMul, Nat.reduceLT, Nat.reduceLeDiff, Nat.reduceBEq, Nat.reduceBNe, Int.reduceLE, Int.reduceLT, Int.reduceToNat, Int.reduceEq, tfAbMk3, hT, hG]; try simp only [Ex.fold, Ex.foldcs, ← Va.pv.eq_1]
  (repeat (first | (refine aSeq (fun X hX => ?_)) | (refine aBlk ?_) | (refine aSkip ?_) | ((first | refine aReg ?_ | refine aDrw (fun m2 => m2 = _) (by kernel_rfl) rfl ?_); simp -implicitDefEqProofs only [forall_eq, ↓slp, slb, ↓reduceIte, reduceCtorEq, Nat.reduceEqDiff, Nat.reduceAdd, Nat.reduceMul, Nat.reduceLT, Nat.reduceLeDiff, Nat.reduceBEq, Nat.reduceBNe, Int.reduceLE, Int.reduceLT, Int.reduceToNat, Int.reduceEq, tfAbMk3, hT, hG]; try simp only [Ex.fold, Ex.foldcs, ← Va.pv.eq_1]) | (refine aIf ?_; simp -implicitDefEqProofs only [↓slp, slb, ↓reduceIte, reduceCtorEq, Nat.reduceEqDiff, Nat.reduceAdd, Nat.reduceMul, Nat.reduceLT, Nat.reduceLeDiff, Nat.reduceBEq, Nat.reduceBNe, Int.reduceLE, Int.reduceLT, Int.reduceToNat, Int.reduceEq, hT, hG]) | (refine aExit ?_; simp only [slx, ↓reduceIte, Nat.reduceEqDiff, reduceCtorEq]) | (refine aRet ?_; try simp only [slx, ↓reduceIte, Nat.reduceEqDiff, reduceCtorEq]) | (refine hX _ _ ?_; clear hX X) | (clear hX X; refine hX _ _ ?_; clear hX X) | (clear hX X; clear hX X; refine hX _ _ ?_; clear hX X) | (intro hlen; unfold maxLen at hlen) | (apply And.intro; (focus (first | omega | assumption | (repeat' apply And.intro) <;> first | omega | assumption)))))
  obtain ⟨I, hI⟩ : ∃ I : F → M → Prop, ∀ f m', I f m' = (∃ k : Nat, k ≤ l.length ∧ f 1 = .sl o (l.map Va.pv) ∧ f 5 = .ep [.v (.int .u8 t.kind), .v (.string t.name)] ∧ f 8 = pI r ∧ f 9 = pI k ∧ m' = gst p m i' n q) := ⟨_, fun _ _ => rfl⟩
  refine aLoop I (fun f m => l.length - numOf (f 9)) ?_ ?_
  · rw [hI]; exact ⟨0, by omega, rfl, rfl, rfl, rfl, rfl⟩
  intro f m' hrel
  rw [hI] at hrel
  obtain ⟨k, hk, h1, h5, h8, h9, rfl⟩ := hrel
  (repeat (first | (refine aSeq (fun X hX => ?_)) | (refine aBlk ?_) | (refine aSkip ?_) | ((first | refine aReg ?_ | refine aDrw (fun m2 => m2 = _) (by kernel_rfl) rfl ?_); simp -implicitDefEqProofs only [forall_eq, ↓slp, slb, ↓reduceIte, reduceCtorEq, Nat.reduceEqDiff, Nat.reduceAdd, Nat.reduceMul, Nat.reduceLT, Nat.reduceLeDiff, Nat.reduceBEq, Nat.reduceBNe, Int.reduceLE, Int.reduceLT, Int.reduceToNat, Int.reduceEq, tfAbMk3, h1, h9, pI]; try simp only [Ex.fold, Ex.foldcs, ← Va.pv.eq_1]) | (refine aExit ?_; simp only [slx, ↓reduceIte, Nat.reduceEqDiff, reduceCtorEq]) | (refine aRet ?_; try simp only [slx, ↓reduceIte, Nat.reduceEqDiff, reduceCtorEq]) | (refine hX _ _ ?_; clear hX X) | (clear hX X; refine hX _ _ ?_; clear hX X) | (clear hX X; clear hX X; refine hX _ _ ?_; clear hX X) | (intro hlen; unfold maxLen at hlen) | (apply And.intro; (focus (first | omega | assumption | (repeat' apply And.intro) <;> first | omega | assumption)))))
  refine aIf ?_; simp -implicitDefEqProofs only [↓slp, slb, ↓reduceIte, reduceCtorEq, Nat.reduceEqDiff, Nat.reduceAdd, Nat.reduceMul, Nat.reduceLT, Nat.reduceLeDiff, Nat.reduceBEq, Nat.reduceBNe, Int.reduceLE, Int.reduceLT, Int.reduceToNat, Int.reduceEq]; refine ⟨fun hb => ?_, fun hb => ?_⟩
  · have hlt : k < l.length := by simpa using hb
    have hi : IntKind.i64.wrap ((k : Int) + 1) = ((k + 1 : Nat) : Int) := by rw [wrap64 (by omega)]; omega
    have hw : IntKind.i64.wrap ((k : Int) + r) = (k : Int) + r := wrap64 (by omega)
    have hz : ¬ (l.length : Int) = 0 := by omega
    obtain ⟨j, hj⟩ : ∃ j : Nat, ((k : Int) + r).tmod (l.length : Int) = (j : Int) := ⟨(((k : Int) + r).tmod (l.length : Int)).toNat, (Int.toNat_of_nonneg (Int.tmod_nonneg _ (by omega))).symm⟩
    have hjl : j < l.length := by
      have := Int.tmod_lt_of_pos ((k : Int) + r) (show (0 : Int) < (l.length : Int) by omega)
      omega
    have g0 := getD_map Va.pv l j hjl
    cases c1 : (l[j].t.kind == t.kind && l[j].t.name.toList == t.name.toList) with
    | false =>
      (repeat (first | (refine aSeq (fun X hX => ?_)) | (refine aBlk ?_) | (refine aSkip ?_) | ((first | refine aReg ?_ | refine aDrw (fun m2 => m2 = _) (by kernel_rfl) rfl ?_); simp -implicitDefEqProofs only [forall_eq, ↓slp, slb, ↓reduceIte, reduceCtorEq, Nat.reduceEqDiff, Nat.reduceAdd, Nat.reduceMul, Nat.reduceLT, Nat.reduceLeDiff, Nat.reduceBEq, Nat.reduceBNe, Int.reduceLE, Int.reduceLT, Int.reduceToNat, Int.reduceEq, tfAbMk3, h1, h5, h8, h9, pI, hw, hz, hj, g0, hi, c1]; try simp only [Ex.fold, Ex.foldcs, ← Va.pv.eq_1]) | (refine aIf ?_; simp -implicitDefEqProofs only [↓slp, slb, ↓reduceIte, reduceCtorEq, Nat.reduceEqDiff, Nat.reduceAdd, Nat.reduceMul, Nat.reduceLT, Nat.reduceLeDiff, Nat.reduceBEq, Nat.reduceBNe, Int.reduceLE, Int.reduceLT, Int.reduceToNat, Int.reduceEq, h1, h5, h8, h9, pI, hw, hz, hj, g0, hi, c1]) | (refine aExit ?_; simp only [slx, ↓reduceIte, Nat.reduceEqDiff, reduceCtorEq]) | (refine aRet ?_; try simp only [slx, ↓reduceIte, Nat.reduceEqDiff, reduceCtorEq]) | (refine hX _ _ ?_; clear hX X) | (clear hX X; refine hX _ _ ?_; clear hX X) | (clear hX X; clear hX X; refine hX _ _ ?_; clear hX X) | (intro hlen; unfold maxLen at hlen) | (apply And.intro; (focus (first | omega | assumption | (repeat' apply And.intro) <;> first | omega | assumption)))))
      rw [hI]
      exact ⟨⟨k + 1, hlt, h1, h5, h8, rfl, rfl⟩, by omega⟩
    | true =>
    have hty : l[j].t = t := Ty.ext' c1
    cases c2 : ((l[j].clock.length : Int) == 0) with
    | false =>
      (repeat (first | (refine aSeq (fun X hX => ?_)) | (refine aBlk ?_) | (refine aSkip ?_) | ((first | refine aReg ?_ | refine aDrw (fun m2 => m2 = _) (by kernel_rfl) rfl ?_); simp -implicitDefEqProofs only [forall_eq, ↓slp, slb, ↓reduceIte, reduceCtorEq, Nat.reduceEqDiff, Nat.reduceAdd, Nat.reduceMul, Nat.reduceLT, Nat.reduceLeDiff, Nat.reduceBEq, Nat.reduceBNe, Int.reduceLE, Int.reduceLT, Int.reduceToNat, Int.reduceEq, tfAbMk3, h1, h5, h8, h9, pI, hw, hz, hj, g0, hi, c1, c2]; try simp only [Ex.fold, Ex.foldcs, ← Va.pv.eq_1]) | (refine aIf ?_; simp -implicitDefEqProofs only [↓slp, slb, ↓reduceIte, reduceCtorEq, Nat.reduceEqDiff, Nat.reduceAdd, Nat.reduceMul, Nat.reduceLT, Nat.reduceLeDiff, Nat.reduceBEq, Nat.reduceBNe, Int.reduceLE, Int.reduceLT, Int.reduceToNat, Int.reduceEq, h1, h5, h8, h9, pI, hw, hz, hj, g0, hi, c1, c2]) | (refine aExit ?_; simp only [slx, ↓reduceIte, Nat.reduceEqDiff, reduceCtorEq]) | (refine aRet ?_; try simp only [slx, ↓reduceIte, Nat.reduceEqDiff, reduceCtorEq]) | (refine hX _ _ ?_; clear hX X) | (clear hX X; refine hX _ _ ?_; clear hX X) | (clear hX X; clear hX X; refine hX _ _ ?_; clear hX X) | (intro hlen; unfold maxLen at hlen) | (apply And.intro; (focus (first | omega | assumption | (repeat' apply And.intro) <;> first | omega | assumption)))))
      rw [hI]
      exact ⟨⟨k + 1, hlt, h1, h5, h8, rfl, rfl⟩, by omega⟩
    | true =>
      have hcl : l[j].clock = [] := List.eq_nil_of_length_eq_zero (by simp at c2; simp [c2])
      (repeat (first | (refine aSeq (fun X hX => ?_)) | (refine aBlk ?_) | (refine aSkip ?_) | ((first | refine aReg ?_ | refine aDrw (fun m2 => m2 = _) (by kernel_rfl) rfl ?_); simp -implicitDefEqProofs only [forall_eq, ↓slp, slb, ↓reduceIte, reduceCtorEq, Nat.reduceEqDiff, Nat.reduceAdd, Nat.reduceMul, Nat.reduceLT, Nat.reduceLeDiff, Nat.reduceBEq, Nat.reduceBNe, Int.reduceLE, Int.reduceLT, Int.reduceToNat, Int.reduceEq, tfAbMk3, h1, h5, h8, h9, pI, hw, hz, hj, g0, hi, c1, c2]; try simp only [Ex.fold, Ex.foldcs, ← Va.pv.eq_1]) | (refine aIf ?_; simp -implicitDefEqProofs only [↓slp, slb, ↓reduceIte, reduceCtorEq, Nat.reduceEqDiff, Nat.reduceAdd, Nat.reduceMul, Nat.reduceLT, Nat.reduceLeDiff, Nat.reduceBEq, Nat.reduceBNe, Int.reduceLE, Int.reduceLT, Int.reduceToNat, Int.reduceEq, h1, h5, h8, h9, pI, hw, hz, hj, g0, hi, c1, c2]) | (refine aExit ?_; simp only [slx, ↓reduceIte, Nat.reduceEqDiff, reduceCtorEq]) | (refine aRet ?_; try simp only [slx, ↓reduceIte, Nat.reduceEqDiff, reduceCtorEq]) | (refine hX _ _ ?_; clear hX X) | (clear hX X; refine hX _ _ ?_; clear hX X) | (clear hX X; clear hX X; refine hX _ _ ?_; clear hX X) | (intro hlen; unfold maxLen at hlen) | (apply And.intro; (focus (first | omega | assumption | (repeat' apply And.intro) <;> first | omega | assumption)))))
      simp only [aPost, Try.results129, aRes_n, aRes_t, aRes_c, pack_one, pack_two]
      exact leave_gst0 hok (.refl m) rfl ⟨l[j].name, true, i', rfl, fun _ => ⟨_, List.getElem_mem hjl, hty, hcl, rfl⟩, rfl⟩
  · (repeat (first | (refine aSeq (fun X hX => ?_)) | (refine aBlk ?_) | (refine aSkip ?_) | ((first | refine aReg ?_ | refine aDrw (fun m2 => m2 = _) (by kernel_rfl) rfl ?_); simp -implicitDefEqProofs only [forall_eq, ↓slp, slb, ↓reduceIte, reduceCtorEq, Nat.reduceEqDiff, Nat.reduceAdd, Nat.reduceMul, Nat.reduceLT, Nat.reduceLeDiff, Nat.reduceBEq, Nat.reduceBNe, Int.reduceLE, Int.reduceLT, Int.reduceToNat, Int.reduceEq, tfAbMk3]; try simp only [Ex.fold, Ex.foldcs, ← Va.pv.eq_1]) | (refine aIf ?_; simp -implicitDefEqProofs only [↓slp, slb, ↓reduceIte, reduceCtorEq, Nat.reduceEqDiff, Nat.reduceAdd, Nat.reduceMul, Nat.reduceLT, Nat.reduceLeDiff, Nat.reduceBEq, Nat.reduceBNe, Int.reduceLE, Int.reduceLT, Int.reduceToNat, Int.reduceEq]) | (refine aExit ?_; simp only [slx, ↓reduceIte, Nat.reduceEqDiff, reduceCtorEq]) | (refine aRet ?_; try simp only [slx, ↓reduceIte, Nat.reduceEqDiff, reduceCtorEq]) | (refine hX _ _ ?_; clear hX X) | (clear hX X; refine hX _ _ ?_; clear hX X) | (clear hX X; clear hX X; refine hX _ _ ?_; clear hX X) | (intro hlen; unfold maxLen at hlen) | (apply And.intro; (focus (first | omega | assumption | (repeat' apply And.intro) <;> first | omega | assumption)))))
    simp only [aPost, Try.results129, aRes_n, aRes_t, aRes_c, pack_one, pack_two]
    exact leave_gst0 hok (.refl m) rfl ⟨sE, false, i', rfl, (fun h => by cases h), rfl⟩

/-- A variable, or a constant. -/
def isVC (l : List Va) (t : Ty) (e : Ex) : Prop := (∃ s, isVar l t s ∧ e = Ex.sc 4 0 0 s) ∨ isConst t e
set_option maxRecDepth 20000 in
set_option maxHeartbeats 1000000 in
theorem variable_any (p : GP) (m : M) (hok : p.ok m) (o : Own) (l : List Va) (hl : l.length < 2 ^ 40) (t : Ty) (ht : isTy t) (i : Nat) (n q : Int) : ACalls Try.prog 127 [.bp p.gp 0, .sl o (l.map Va.pv), t.pv] (gst p m i n q) (fun v m' => ∃ e i', v = Ex.pv e ∧ isVC l t e ∧ m' = gst p m i' n q) := by
  have hG := hok.gp
  have hT := hok.tp
  refine ACalls.enter (mu := [6]) ok_mix Try.func127 rfl (by kernel_rfl) (by kernel_rfl) (by simp only [List.length_cons, List.length_nil, Try.ntmps127]; omega) ?_
  (repeat (first | (refine aSeq (fun X hX => ?_)) | (refine aBlk ?_) | (refine aSkip ?_) | ((first | refine aReg ?_ | refine aDrw (fun m2 => m2 = _) (by kernel_rfl) rfl ?_); simp -implicitDefEqProofs only [forall_eq, ↓slp, slb, ↓reduceIte, reduceCtorEq, Nat.reduceEqDiff, Nat.reduceAdd, Nat.reduceMul, Nat.reduceLT, Nat.reduceLeDiff, Nat.reduceBEq, Nat.reduceBNe, Int.reduceLE, Int.reduceLT, Int.reduceToNat, Int.reduceEq, tfAbMk3, hT, hG]; try simp only [Ex.fold, Ex.foldcs, ← Va.pv.eq_1]) | (refine aIf ?_; simp -implicitDefEqProofs only [↓slp, slb, ↓reduceIte, reduceCtorEq, Nat.reduceEqDiff, Nat.reduceAdd, Nat.reduceMul, Nat.reduceLT, Nat.reduceLeDiff, Nat.reduceBEq, Nat.reduceBNe, Int.reduceLE, Int.reduceLT, Int.reduceToNat, Int.reduceEq, hT, hG]) | (refine aExit ?_; simp only [slx, ↓reduceIte, Nat.reduceEqDiff, reduceCtorEq]) | (refine aRet ?_; try simp only [slx, ↓reduceIte, Nat.reduceEqDiff, reduceCtorEq]) | (refine hX _ _ ?_; clear hX X) | (clear hX X; refine hX _ _ ?_; clear hX X) | (clear hX X; clear hX X; refine hX _ _ ?_; clear hX X) | (intro hlen; unfold maxLen at hlen) | (apply And.intro; (focus (first | omega | assumption | (repeat' apply And.intro) <;> first | omega | assumption)))))
  refine callM (pick_any p _ (hok.ext _) o l hl t i n q) ?_
  rintro v m' ⟨s, b, i', rfl, hb, rfl⟩
  cases b with
  | true =>
    simp -implicitDefEqProofs only [↓slp, slb, ↓reduceIte, reduceCtorEq, Nat.reduceEqDiff, Nat.reduceAdd, Nat.reduceMul, Nat.reduceLT, Nat.reduceLeDiff, Nat.reduceBEq, Nat.reduceBNe, Int.reduceLE, Int.reduceLT, Int.reduceToNat, Int.reduceEq, tfAbMk3, hT, hG]; try simp only [Ex.fold, Ex.foldcs, ← Va.pv.eq_1]
    (repeat (first | (refine aSeq (fun X hX => ?_)) | (refine aBlk ?_) | (refine aSkip ?_) | ((first | refine aReg ?_ | refine aDrw (fun m2 => m2 = _) (by kernel_rfl) rfl ?_); simp -implicitDefEqProofs only [forall_eq, ↓slp, slb, ↓reduceIte, reduceCtorEq, Nat.reduceEqDiff, Nat.reduceAdd, Nat.reduceMul, Nat.reduceLT, Nat.reduceLeDiff, Nat.reduceBEq, Nat.reduceBNe, Int.reduceLE, Int.reduceLT, Int.reduceToNat, Int.reduceEq, tfAbMk3, hT, hG]; try simp only [Ex.fold, Ex.foldcs, ← Va.pv.eq_1]) | (refine aIf ?_; simp -implicitDefEqProofs only [↓slp, slb, ↓reduceIte, reduceCtorEq, Nat.reduceEqDiff, Nat.reduceAdd, Nat.reduceMul, Nat.reduceLT, Nat.reduceLeDiff, Nat.reduceBEq, Nat.reduceBNe, Int.reduceLE, Int.reduceLT, Int.reduceToNat, Int.reduceEq, hT, hG]) | (refine aExit ?_; simp only [slx, ↓reduceIte, Nat.reduceEqDiff, reduceCtorEq]) | (refine aRet ?_; try simp only [slx, ↓reduceIte, Nat.reduceEqDiff, reduceCtorEq]) | (refine hX _ _ ?_; clear hX X) | (clear hX X; refine hX _ _ ?_; clear hX X) | (clear hX X; clear hX X; refine hX _ _ ?_; clear hX X) | (intro hlen; unfold maxLen at hlen) | (apply And.intro; (focus (first | omega | assumption | (repeat' apply And.intro) <;> first | omega | assumption)))))
    simp only [aPost, Try.results127, aRes_n, aRes_t, aRes_c, pack_one, pack_two]
    simp -implicitDefEqProofs only [↓slp, slb, ↓reduceIte, reduceCtorEq, Nat.reduceEqDiff, Nat.reduceAdd, Nat.reduceMul, Nat.reduceLT, Nat.reduceLeDiff, Nat.reduceBEq, Nat.reduceBNe, Int.reduceLE, Int.reduceLT, Int.reduceToNat, Int.reduceEq, tfAbMk3, hT, hG]; try simp only [Ex.fold, Ex.foldcs, ← Va.pv.eq_1]
    refine leave_gst hok (.refl m) rfl ⟨Ex.sc 4 0 0 s, i', ?_, .inl ⟨s, hb rfl, rfl⟩, rfl⟩
    rw [← Ex.sc_lit]; rfl
  | false =>
    simp -implicitDefEqProofs only [↓slp, slb, ↓reduceIte, reduceCtorEq, Nat.reduceEqDiff, Nat.reduceAdd, Nat.reduceMul, Nat.reduceLT, Nat.reduceLeDiff, Nat.reduceBEq, Nat.reduceBNe, Int.reduceLE, Int.reduceLT, Int.reduceToNat, Int.reduceEq, tfAbMk3, hT, hG]; try simp only [Ex.fold, Ex.foldcs, ← Va.pv.eq_1]
    (repeat (first | (refine aSeq (fun X hX => ?_)) | (refine aBlk ?_) | (refine aSkip ?_) | ((first | refine aReg ?_ | refine aDrw (fun m2 => m2 = _) (by kernel_rfl) rfl ?_); simp -implicitDefEqProofs only [forall_eq, ↓slp, slb, ↓reduceIte, reduceCtorEq, Nat.reduceEqDiff, Nat.reduceAdd, Nat.reduceMul, Nat.reduceLT, Nat.reduceLeDiff, Nat.reduceBEq, Nat.reduceBNe, Int.reduceLE, Int.reduceLT, Int.reduceToNat, Int.reduceEq, tfAbMk3, hT, hG]; try simp only [Ex.fold, Ex.foldcs, ← Va.pv.eq_1]) | (refine aIf ?_; simp -implicitDefEqProofs only [↓slp, slb, ↓reduceIte, reduceCtorEq, Nat.reduceEqDiff, Nat.reduceAdd, Nat.reduceMul, Nat.reduceLT, Nat.reduceLeDiff, Nat.reduceBEq, Nat.reduceBNe, Int.reduceLE, Int.reduceLT, Int.reduceToNat, Int.reduceEq, hT, hG]) | (refine aExit ?_; simp only [slx, ↓reduceIte, Nat.reduceEqDiff, reduceCtorEq]) | (refine aRet ?_; try simp only [slx, ↓reduceIte, Nat.reduceEqDiff, reduceCtorEq]) | (refine hX _ _ ?_; clear hX X) | (clear hX X; refine hX _ _ ?_; clear hX X) | (clear hX X; clear hX X; refine hX _ _ ?_; clear hX X) | (intro hlen; unfold maxLen at hlen) | (apply And.intro; (focus (first | omega | assumption | (repeat' apply And.intro) <;> first | omega | assumption)))))
    refine callM (constant_any p _ (hok.ext _) t ht i' n q) ?_
    rintro v m' ⟨e, i2, rfl, he, rfl⟩
    simp -implicitDefEqProofs only [↓slp, slb, ↓reduceIte, reduceCtorEq, Nat.reduceEqDiff, Nat.reduceAdd, Nat.reduceMul, Nat.reduceLT, Nat.reduceLeDiff, Nat.reduceBEq, Nat.reduceBNe, Int.reduceLE, Int.reduceLT, Int.reduceToNat, Int.reduceEq, tfAbMk3, hT, hG]; try simp only [Ex.fold, Ex.foldcs, ← Va.pv.eq_1]
    (repeat (first | (refine aSeq (fun X hX => ?_)) | (refine aBlk ?_) | (refine aSkip ?_) | ((first | refine aReg ?_ | refine aDrw (fun m2 => m2 = _) (by kernel_rfl) rfl ?_); simp -implicitDefEqProofs only [forall_eq, ↓slp, slb, ↓reduceIte, reduceCtorEq, Nat.reduceEqDiff, Nat.reduceAdd, Nat.reduceMul, Nat.reduceLT, Nat.reduceLeDiff, Nat.reduceBEq, Nat.reduceBNe, Int.reduceLE, Int.reduceLT, Int.reduceToNat, Int.reduceEq, tfAbMk3, hT, hG]; try simp only [Ex.fold, Ex.foldcs, ← Va.pv.eq_1]) | (refine aIf ?_; simp -implicitDefEqProofs only [↓slp, slb, ↓reduceIte, reduceCtorEq, Nat.reduceEqDiff, Nat.reduceAdd, Nat.reduceMul, Nat.reduceLT, Nat.reduceLeDiff, Nat.reduceBEq, Nat.reduceBNe, Int.reduceLE, Int.reduceLT, Int.reduceToNat, Int.reduceEq, hT, hG]) | (refine aExit ?_; simp only [slx, ↓reduceIte, Nat.reduceEqDiff, reduceCtorEq]) | (refine aRet ?_; try simp only [slx, ↓reduceIte, Nat.reduceEqDiff, reduceCtorEq]) | (refine hX _ _ ?_; clear hX X) | (clear hX X; refine hX _ _ ?_; clear hX X) | (clear hX X; clear hX X; refine hX _ _ ?_; clear hX X) | (intro hlen; unfold maxLen at hlen) | (apply And.intro; (focus (first | omega | assumption | (repeat' apply And.intro) <;> first | omega | assumption)))))
    simp only [aPost, Try.results127, aRes_n, aRes_t, aRes_c, pack_one, pack_two]
    simp -implicitDefEqProofs only [↓slp, slb, ↓reduceIte, reduceCtorEq, Nat.reduceEqDiff, Nat.reduceAdd, Nat.reduceMul, Nat.reduceLT, Nat.reduceLeDiff, Nat.reduceBEq, Nat.reduceBNe, Int.reduceLE, Int.reduceLT, Int.reduceToNat, Int.reduceEq, tfAbMk3, hT, hG]; try simp only [Ex.fold, Ex.foldcs, ← Va.pv.eq_1]
    exact leave_gst hok (.refl m) (by simp only [Ex.settle_pv, Ex.pure_pv]) ⟨e, i2, by simp only [Ex.settle_pv], .inr he, rfl⟩
end Go.Proofs.Ytibhhoknipdlpaa

/-
  The maker: operators' expressions.
-/
set_option linter.unusedVariables false
set_option linter.unusedSimpArgs false
namespace Go.Proofs.Ytibhhoknipdlpaa
open Go
set_option linter.defProp false
def tfAbMk4 := And.intro @td_3 (And.intro @zv_3 (And.intro @Try.underlying3 (And.intro @td_4 (And.intro @zv_4 (And.intro @Try.underlying4 (And.intro @td_5 (And.intro @zv_5 (And.intro @Try.underlying5 (And.intro @td_9 (And.intro @zv_9 (And.intro @Try.underlying9 (And.intro @td_21 (And.intro @zv_21 (And.intro @Try.underlying21 (And.intro @td_22 (And.intro @zv_22 (And.intro @tel_22 (And.intro @Try.underlying22 (And.intro @td_30 (And.intro @zv_30 (And.intro @tel_30 (And.intro @Try.underlying30 (And.intro @td_32 (And.intro @zv_32 (And.intro @tel_32 (And.intro @Try.underlying32 (And.intro @td_41 (And.intro @zv_41 (And.intro @tel_41 (And.intro @Try.underlying41 (And.intro @td_44 (And.intro @zv_44 (And.intro @tf_44 (And.intro @td_49 (And.intro @zv_49 (And.intro @tf_49 (And.intro @fl_49 (And.intro @td_50 (And.intro @zv_50 (And.intro @tel_50 (And.intro @Try.underlying50 (And.intro @td_52 (And.intro @zv_52 (And.intro @tf_52 (And.intro @td_92 (And.intro @zv_92 (And.intro @td_94 (And.intro @zv_94 (And.intro @tf_94 (And.intro @td_96 (And.intro @zv_96 (And.intro @td_98 (And.intro @zv_98 (And.intro @tf_98 (And.intro @td_144 (And.intro @zv_144 (And.intro @tf_144 (And.intro @td_154 (And.intro @zv_154 (And.intro @tel_154 (And.intro @Try.underlying154 (And.intro @Ex.settle_pv (And.intro @Ex.pure_pv (And.intro @Ex.cells_pv (And.intro @Ex.cs.eq_1 (And.intro @On.pv.eq_1 (And.intro @Ty.pv.eq_1 (And.intro @Va.settle_pv (And.intro @Va.pure_pv (And.intro @Va.cells_pv (And.intro @Va.cs.eq_1 (And.intro @Sc.pv.eq_1 (And.intro @gst_nb (And.intro @gst_nt (And.intro @gst_fresh (And.intro @gst_use (And.intro @gst_free (And.intro @gst_alive (And.intro @gst_t (And.intro @gst_g (And.intro @gst_updt (And.intro @gst_updg (And.intro @gst_ext (And.intro @gst_ext2 (And.intro @gst_et (And.intro @gst_eg (And.intro @gst_own (And.intro @gst_own0 (And.intro @gst_ou (And.intro @gst_ou0 (And.intro @GP.tape.eq_1 @GP.gen.eq_1)))))))))))))))))))))))))))))))))))))))))))))))))))))))))))))))))))))))))))))))))))))))))))
-- EXX: Sc.pv, gst_nb, gst_nt, gst_fresh, gst_use, gst_free, gst_alive, gst_t, gst_g, gst_updt, gst_updg, gst_ext, gst_ext2, gst_et, gst_eg, gst_own, gst_own0, gst_ou, gst_ou0, GP.tape, GP.gen
-- TYPES: 3 4 5 9 21 22 30 32 41 44 49 50 52 92 94 96 98 144 154

structure Sc.ok (s : Sc) : Prop where
  ready : s.ready.length < 2 ^ 40
  all : s.all.length < 2 ^ 40
  lasts : s.lasts.length < 2 ^ 40
def Sc.toAll (s : Sc) : Sc := ⟨s.all, s.all, s.lasts⟩
theorem Sc.ok.toAll {s : Sc} (h : s.ok) : s.toAll.ok := ⟨h.all, h.all, h.lasts⟩
def Ex.un (k o : Int) (l : List Ex) : Ex := .mk k o 0 sE [] l 0 0
theorem Ex.un_lit (k o : Int) (l : List Ex) : PV.ag [PV.v (Value.int IntKind.u8 k), PV.v (Value.int IntKind.u8 o), PV.v (Value.int IntKind.i32 0), PV.v (Value.string sE), PV.sl Own.no [], PV.sl Own.no (l.map Ex.pv), PV.v (Value.int IntKind.i64 0), PV.v (Value.int IntKind.i64 0)] = (Ex.un k o l).pv := by
  rw [Ex.pv_eq]; rfl
/-- The expressions that are made by an operator, of those of R. -/
def GOp (R : Sc → Ty → Bool → Ex → Prop) (s : Sc) (t : Ty) (st : Bool) (e : Ex) : Prop :=
  (t = tyI ∧ ∃ a, R s t st a ∧ e = Ex.un 6 2 [a]) ∨
  (t = tyI ∧ ∃ o a b, (3 ≤ o ∧ o ≤ 7) ∧ R s t st a ∧ R s t st b ∧ e = Ex.two 7 o a b) ∨
  (t = tyB ∧ ∃ a, R s t st a ∧ e = Ex.un 6 1 [a]) ∨
  (t = tyB ∧ ∃ o u a b, (((o = 8 ∨ o = 9 ∨ o = 10) ∧ u = tyB) ∨ ((o = 13 ∨ o = 16) ∧ u = tyI) ∨ (o = 11 ∧ isTy u)) ∧ R s u st a ∧ R s u st b ∧ e = Ex.two 7 o a b) ∨
  isVC s.ready t e
def GStepE (R : Sc → Ty → Bool → Ex → Prop) (s : Sc) (t : Ty) (st : Bool) (e : Ex) : Prop :=
  (∃ c a b, R s tyB st c ∧ R s t st a ∧ R s t st b ∧ e = Ex.un 8 0 [c, a, b]) ∨
  (st = true ∧ ∃ c b, isConst t c ∧ R s.toAll t st b ∧ e = Ex.two 9 0 c b) ∨
  (st = true ∧ ∃ a b, R s t st a ∧ R s.toAll t st b ∧ e = Ex.two 11 0 a (Ex.un 10 0 [b])) ∨
  (∃ x, isVar s.lasts t x ∧ e = Ex.sc 5 0 0 x) ∨ GOp R s t st e
/-- The expressions that are made, so deep. -/
def GEx : Nat → Sc → Ty → Bool → Ex → Prop
  | 0, s, t, _, e => isVC s.ready t e
  | d + 1, s, t, st, e => isVC s.ready t e ∨ GStepE (GEx d) s t st e
theorem GEx_vc {d : Nat} {s : Sc} {t : Ty} {st : Bool} {e : Ex} (h : isVC s.ready t e) : GEx d s t st e := by
  cases d with
  | zero => exact h
  | succ d => exact .inl h
/-- The contract of expr, so deep. -/
def ExprC (d : Nat) : Prop := ∀ (p : GP) (m : M) (hok : p.ok m) (s : Sc) (hs : s.ok) (t : Ty) (ht : isTy t) (st : Bool) (i : Nat) (n q : Int), ACalls Try.prog 122 [.bp p.gp 0, s.pv, t.pv, pI d, pB st] (gst p m i n q) (fun v m' => ∃ e i', v = Ex.pv e ∧ GEx d s t st e ∧ m' = gst p m i' n q)
theorem pickI (r : Int) (h0 : 0 ≤ r) (h1 : r < 5) : [PV.v (Value.int IntKind.u8 3), PV.v (Value.int IntKind.u8 4), PV.v (Value.int IntKind.u8 5), PV.v (Value.int IntKind.u8 6), PV.v (Value.int IntKind.u8 7)].getD r.toNat PV.junk = .v (.int .u8 (3 + r)) := by
  have cas : r = 0 ∨ r = 1 ∨ r = 2 ∨ r = 3 ∨ r = 4 := by omega
  rcases cas with rfl | rfl | rfl | rfl | rfl <;> rfl
theorem pickB (r : Int) (h0 : 0 ≤ r) (h1 : r < 6) : ∃ o : Int, [PV.v (Value.int IntKind.u8 8), PV.v (Value.int IntKind.u8 9), PV.v (Value.int IntKind.u8 10), PV.v (Value.int IntKind.u8 13), PV.v (Value.int IntKind.u8 16), PV.v (Value.int IntKind.u8 11)].getD r.toNat PV.junk = .v (.int .u8 o) ∧ ((r < 3 ∧ (o = 8 ∨ o = 9 ∨ o = 10)) ∨ ((3 ≤ r ∧ r < 5) ∧ (o = 13 ∨ o = 16)) ∨ (r = 5 ∧ o = 11)) := by
  have cas : r = 0 ∨ r = 1 ∨ r = 2 ∨ r = 3 ∨ r = 4 ∨ r = 5 := by omega
  rcases cas with rfl | rfl | rfl | rfl | rfl | rfl
  · exact ⟨8, rfl, by omega⟩
  · exact ⟨9, rfl, by omega⟩
  · exact ⟨10, rfl, by omega⟩
  · exact ⟨13, rfl, by omega⟩
  · exact ⟨16, rfl, by omega⟩
  · exact ⟨11, rfl, by omega⟩

set_option maxRecDepth 20000 in
set_option maxHeartbeats 1000000 in
theorem operatorI_any (d : Nat) (hd : d < 1000) (E : ExprC d) (p : GP) (m : M) (hok : p.ok m) (s : Sc) (hs : s.ok) (st : Bool) (i : Nat) (n q : Int) : ACalls Try.prog 130 [.bp p.gp 0, s.pv, tyI.pv, pI ((d + 1 : Nat) : Int), pB st] (gst p m i n q) (fun v m' => ∃ e i', v = Ex.pv e ∧ GOp (GEx d) s tyI st e ∧ m' = gst p m i' n q) := by
  have hG := hok.gp
  have hT := hok.tp
  have hN := hok.ne
  have hw : IntKind.i64.wrap (((d + 1 : Nat) : Int) - 1) = (d : Int) := by rw [wrap64 (by omega)]; omega
  have e1 : (tyI.kind == 1) = false := rfl
  have e2 : (tyI.kind == 2) = true := rfl
  have ht : isTy tyI := .inl rfl
  refine ACalls.enter (mu := [10, 15]) ok_mix Try.func130 rfl (by kernel_rfl) (by kernel_rfl) (by simp only [List.length_cons, List.length_nil, Try.ntmps130]; omega) ?_
  (repeat (first | (refine aSeq (fun X hX => ?_)) | (refine aBlk ?_) | (refine aSkip ?_) | ((first | refine aReg ?_ | refine aDrw (fun m2 => m2 = _) (by kernel_rfl) rfl ?_); simp -implicitDefEqProofs only [forall_eq, ↓slp, slb, ↓reduceIte, reduceCtorEq, Nat.reduceEqDiff, Nat.reduceAdd, Nat.reduceMul, Nat.reduceLT, Nat.reduceLeDiff, Nat.reduceBEq, Nat.reduceBNe, Int.reduceLE, Int.reduceLT, Int.reduceToNat, Int.reduceEq, tfAbMk4, hT, hG]; try simp only [Ex.fold, Ex.foldcs, ← Va.pv.eq_1]) | (refine aIf ?_; simp -implicitDefEqProofs only [↓slp, slb, ↓reduceIte, reduceCtorEq, Nat.reduceEqDiff, Nat.reduceAdd, Nat.reduceMul, Nat.reduceLT, Nat.reduceLeDiff, Nat.reduceBEq, Nat.reduceBNe, Int.reduceLE, Int.reduceLT, Int.reduceToNat, Int.reduceEq, hT, hG]) | (refine aExit ?_; simp only [slx, ↓reduceIte, Nat.reduceEqDiff, reduceCtorEq]) | (refine aRet ?_; try simp only [slx, ↓reduceIte, Nat.reduceEqDiff, reduceCtorEq]) | (refine hX _ _ ?_; clear hX X) | (clear hX X; refine hX _ _ ?_; clear hX X) | (clear hX X; clear hX X; refine hX _ _ ?_; clear hX X) | (intro hlen; unfold maxLen at hlen) | (apply And.intro; (focus (first | omega | assumption | (repeat' apply And.intro) <;> first | omega | assumption)))))
  refine callM (next_any p _ (hok.ext _) 6 (by omega) i n q) ?_
  rintro v m' ⟨r, i', rfl, ⟨hr0, hr1⟩, rfl⟩
  simp -implicitDefEqProofs only [↓slp, slb, ↓reduceIte, reduceCtorEq, Nat.reduceEqDiff, Nat.reduceAdd, Nat.reduceMul, Nat.reduceLT, Nat.reduceLeDiff, Nat.reduceBEq, Nat.reduceBNe, Int.reduceLE, Int.reduceLT, Int.reduceToNat, Int.reduceEq, tfAbMk4, hT, hG]; try simp only [Ex.fold, Ex.foldcs, ← Va.pv.eq_1]
  cases c5 : (r == 5) with
  | true =>
    (repeat (first | (refine aSeq (fun X hX => ?_)) | (refine aBlk ?_) | (refine aSkip ?_) | ((first | refine aReg ?_ | refine aDrw (fun m2 => m2 = _) (by kernel_rfl) rfl ?_); simp -implicitDefEqProofs only [forall_eq, ↓slp, slb, ↓reduceIte, reduceCtorEq, Nat.reduceEqDiff, Nat.reduceAdd, Nat.reduceMul, Nat.reduceLT, Nat.reduceLeDiff, Nat.reduceBEq, Nat.reduceBNe, Int.reduceLE, Int.reduceLT, Int.reduceToNat, Int.reduceEq, tfAbMk4, hT, hG, e1, e2, c5, hw]; try simp only [Ex.fold, Ex.foldcs, ← Va.pv.eq_1]) | (refine aIf ?_; simp -implicitDefEqProofs only [↓slp, slb, ↓reduceIte, reduceCtorEq, Nat.reduceEqDiff, Nat.reduceAdd, Nat.reduceMul, Nat.reduceLT, Nat.reduceLeDiff, Nat.reduceBEq, Nat.reduceBNe, Int.reduceLE, Int.reduceLT, Int.reduceToNat, Int.reduceEq, hT, hG, e1, e2, c5, hw]) | (refine aExit ?_; simp only [slx, ↓reduceIte, Nat.reduceEqDiff, reduceCtorEq]) | (refine aRet ?_; try simp only [slx, ↓reduceIte, Nat.reduceEqDiff, reduceCtorEq]) | (refine hX _ _ ?_; clear hX X) | (clear hX X; refine hX _ _ ?_; clear hX X) | (clear hX X; clear hX X; refine hX _ _ ?_; clear hX X) | (intro hlen; unfold maxLen at hlen) | (apply And.intro; (focus (first | omega | assumption | (repeat' apply And.intro) <;> first | omega | assumption)))))
    refine callM (E p _ (hok.ext _) s hs tyI ht st _ n q) ?_
    rintro v m' ⟨a, i2, rfl, ha, rfl⟩
    simp -implicitDefEqProofs only [↓slp, slb, ↓reduceIte, reduceCtorEq, Nat.reduceEqDiff, Nat.reduceAdd, Nat.reduceMul, Nat.reduceLT, Nat.reduceLeDiff, Nat.reduceBEq, Nat.reduceBNe, Int.reduceLE, Int.reduceLT, Int.reduceToNat, Int.reduceEq, tfAbMk4, hT, hG]; try simp only [Ex.fold, Ex.foldcs, ← Va.pv.eq_1]
    (repeat (first | (refine aSeq (fun X hX => ?_)) | (refine aBlk ?_) | (refine aSkip ?_) | ((first | refine aReg ?_ | refine aDrw (fun m2 => m2 = _) (by kernel_rfl) rfl ?_); simp -implicitDefEqProofs only [forall_eq, ↓slp, slb, ↓reduceIte, reduceCtorEq, Nat.reduceEqDiff, Nat.reduceAdd, Nat.reduceMul, Nat.reduceLT, Nat.reduceLeDiff, Nat.reduceBEq, Nat.reduceBNe, Int.reduceLE, Int.reduceLT, Int.reduceToNat, Int.reduceEq, tfAbMk4, hT, hG]; try simp only [Ex.fold, Ex.foldcs, ← Va.pv.eq_1]) | (refine aIf ?_; simp -implicitDefEqProofs only [↓slp, slb, ↓reduceIte, reduceCtorEq, Nat.reduceEqDiff, Nat.reduceAdd, Nat.reduceMul, Nat.reduceLT, Nat.reduceLeDiff, Nat.reduceBEq, Nat.reduceBNe, Int.reduceLE, Int.reduceLT, Int.reduceToNat, Int.reduceEq, hT, hG]) | (refine aExit ?_; simp only [slx, ↓reduceIte, Nat.reduceEqDiff, reduceCtorEq]) | (refine aRet ?_; try simp only [slx, ↓reduceIte, Nat.reduceEqDiff, reduceCtorEq]) | (refine hX _ _ ?_; clear hX X) | (clear hX X; refine hX _ _ ?_; clear hX X) | (clear hX X; clear hX X; refine hX _ _ ?_; clear hX X) | (intro hlen; unfold maxLen at hlen) | (apply And.intro; (focus (first | omega | assumption | (repeat' apply And.intro) <;> first | omega | assumption)))))
    simp only [aPost, Try.results130, aRes_n, aRes_t, aRes_c, pack_one, pack_two]
    simp -implicitDefEqProofs only [↓slp, slb, ↓reduceIte, reduceCtorEq, Nat.reduceEqDiff, Nat.reduceAdd, Nat.reduceMul, Nat.reduceLT, Nat.reduceLeDiff, Nat.reduceBEq, Nat.reduceBNe, Int.reduceLE, Int.reduceLT, Int.reduceToNat, Int.reduceEq, tfAbMk4, hT, hG]; try simp only [Ex.fold, Ex.foldcs, ← Va.pv.eq_1]
    refine leave_gst hok (.refl m) (by simp only [PV.settle, PV.settles, PV.pure, PV.pures, Ex.settle_pv, Ex.pure_pv]; rfl) ⟨Ex.un 6 2 [a], i2, ?_, .inl ⟨rfl, a, ha, rfl⟩, rfl⟩
    rw [← Ex.un_lit]
    simp only [PV.settle, PV.settles, Ex.settle_pv, List.map_cons, List.map_nil]
  | false =>
    have hr5 : r < 5 := by simp at c5; omega
    have hg := pickI r hr0 hr5
    have hrn : r.toNat < 5 := by omega
    (repeat (first | (refine aSeq (fun X hX => ?_)) | (refine aBlk ?_) | (refine aSkip ?_) | ((first | refine aReg ?_ | refine aDrw (fun m2 => m2 = _) (by kernel_rfl) rfl ?_); simp -implicitDefEqProofs only [forall_eq, ↓slp, slb, ↓reduceIte, reduceCtorEq, Nat.reduceEqDiff, Nat.reduceAdd, Nat.reduceMul, Nat.reduceLT, Nat.reduceLeDiff, Nat.reduceBEq, Nat.reduceBNe, Int.reduceLE, Int.reduceLT, Int.reduceToNat, Int.reduceEq, tfAbMk4, hT, hG, e1, e2, c5, hw]; try simp only [Ex.fold, Ex.foldcs, ← Va.pv.eq_1]) | (refine aIf ?_; simp -implicitDefEqProofs only [↓slp, slb, ↓reduceIte, reduceCtorEq, Nat.reduceEqDiff, Nat.reduceAdd, Nat.reduceMul, Nat.reduceLT, Nat.reduceLeDiff, Nat.reduceBEq, Nat.reduceBNe, Int.reduceLE, Int.reduceLT, Int.reduceToNat, Int.reduceEq, hT, hG, e1, e2, c5, hw]) | (refine aExit ?_; simp only [slx, ↓reduceIte, Nat.reduceEqDiff, reduceCtorEq]) | (refine aRet ?_; try simp only [slx, ↓reduceIte, Nat.reduceEqDiff, reduceCtorEq]) | (refine hX _ _ ?_; clear hX X) | (clear hX X; refine hX _ _ ?_; clear hX X) | (clear hX X; clear hX X; refine hX _ _ ?_; clear hX X) | (intro hlen; unfold maxLen at hlen) | (apply And.intro; (focus (first | omega | assumption | (repeat' apply And.intro) <;> first | omega | assumption)))))
    refine callM (E p _ (hok.ext _) s hs tyI ht st _ n q) ?_
    rintro v m' ⟨a, i2, rfl, ha, rfl⟩
    simp -implicitDefEqProofs only [↓slp, slb, ↓reduceIte, reduceCtorEq, Nat.reduceEqDiff, Nat.reduceAdd, Nat.reduceMul, Nat.reduceLT, Nat.reduceLeDiff, Nat.reduceBEq, Nat.reduceBNe, Int.reduceLE, Int.reduceLT, Int.reduceToNat, Int.reduceEq, tfAbMk4, hT, hG]; try simp only [Ex.fold, Ex.foldcs, ← Va.pv.eq_1]
    (repeat (first | (refine aSeq (fun X hX => ?_)) | (refine aBlk ?_) | (refine aSkip ?_) | (refine aExit ?_; simp only [slx, ↓reduceIte, Nat.reduceEqDiff, reduceCtorEq]) | (refine aRet ?_; try simp only [slx, ↓reduceIte, Nat.reduceEqDiff, reduceCtorEq]) | (refine hX _ _ ?_; clear hX X) | (clear hX X; refine hX _ _ ?_; clear hX X)))
    refine aDrw (fun _ => True) (by kernel_rfl) trivial ?_; simp -implicitDefEqProofs only [forall_eq, eq_self, ↓slp, slb, ↓reduceIte, reduceCtorEq, Nat.reduceEqDiff, Nat.reduceAdd, Nat.reduceMul, Nat.reduceLT, Nat.reduceLeDiff, Nat.reduceBEq, Nat.reduceBNe, Int.reduceLE, Int.reduceLT, Int.reduceToNat, Int.reduceEq, tfAbMk4, hT, hG, hg, hw]; try simp only [Ex.fold, Ex.foldcs, ← Va.pv.eq_1]
    (repeat (first | (intro hlen; unfold maxLen at hlen) | (apply And.intro; (focus (first | omega | assumption | trivial | (repeat' apply And.intro) <;> first | omega | assumption | trivial)))))
    refine callM (E p _ (hok.ext _) s hs tyI ht st _ n q) ?_
    rintro v m' ⟨b, i3, rfl, hb, rfl⟩
    refine ⟨trivial, ?_⟩
    simp -implicitDefEqProofs only [↓slp, slb, ↓reduceIte, reduceCtorEq, Nat.reduceEqDiff, Nat.reduceAdd, Nat.reduceMul, Nat.reduceLT, Nat.reduceLeDiff, Nat.reduceBEq, Nat.reduceBNe, Int.reduceLE, Int.reduceLT, Int.reduceToNat, Int.reduceEq, tfAbMk4, hT, hG, hg, forall_eq]; try simp only [Ex.fold, Ex.foldcs, ← Va.pv.eq_1]
    refine callE (two_any 7 (3 + r) a b _) ?_
    refine ⟨trivial, ?_⟩
    simp -implicitDefEqProofs only [↓slp, slb, ↓reduceIte, reduceCtorEq, Nat.reduceEqDiff, Nat.reduceAdd, Nat.reduceMul, Nat.reduceLT, Nat.reduceLeDiff, Nat.reduceBEq, Nat.reduceBNe, Int.reduceLE, Int.reduceLT, Int.reduceToNat, Int.reduceEq, tfAbMk4, hT, hG, forall_eq]; try simp only [Ex.fold, Ex.foldcs, ← Va.pv.eq_1]
    (repeat (first | (refine aSeq (fun X hX => ?_)) | (refine aBlk ?_) | (refine aSkip ?_) | ((first | refine aReg ?_ | refine aDrw (fun m2 => m2 = _) (by kernel_rfl) rfl ?_); simp -implicitDefEqProofs only [forall_eq, ↓slp, slb, ↓reduceIte, reduceCtorEq, Nat.reduceEqDiff, Nat.reduceAdd, Nat.reduceMul, Nat.reduceLT, Nat.reduceLeDiff, Nat.reduceBEq, Nat.reduceBNe, Int.reduceLE, Int.reduceLT, Int.reduceToNat, Int.reduceEq, tfAbMk4, hT, hG]; try simp only [Ex.fold, Ex.foldcs, ← Va.pv.eq_1]) | (refine aIf ?_; simp -implicitDefEqProofs only [↓slp, slb, ↓reduceIte, reduceCtorEq, Nat.reduceEqDiff, Nat.reduceAdd, Nat.reduceMul, Nat.reduceLT, Nat.reduceLeDiff, Nat.reduceBEq, Nat.reduceBNe, Int.reduceLE, Int.reduceLT, Int.reduceToNat, Int.reduceEq, hT, hG]) | (refine aExit ?_; simp only [slx, ↓reduceIte, Nat.reduceEqDiff, reduceCtorEq]) | (refine aRet ?_; try simp only [slx, ↓reduceIte, Nat.reduceEqDiff, reduceCtorEq]) | (refine hX _ _ ?_; clear hX X) | (clear hX X; refine hX _ _ ?_; clear hX X) | (clear hX X; clear hX X; refine hX _ _ ?_; clear hX X) | (intro hlen; unfold maxLen at hlen) | (apply And.intro; (focus (first | omega | assumption | (repeat' apply And.intro) <;> first | omega | assumption)))))
    simp only [aPost, Try.results130, aRes_n, aRes_t, aRes_c, pack_one, pack_two]
    simp -implicitDefEqProofs only [↓slp, slb, ↓reduceIte, reduceCtorEq, Nat.reduceEqDiff, Nat.reduceAdd, Nat.reduceMul, Nat.reduceLT, Nat.reduceLeDiff, Nat.reduceBEq, Nat.reduceBNe, Int.reduceLE, Int.reduceLT, Int.reduceToNat, Int.reduceEq, tfAbMk4, hT, hG]; try simp only [Ex.fold, Ex.foldcs, ← Va.pv.eq_1]
    exact leave_gst hok (.refl m) (by simp only [Ex.settle_pv, Ex.pure_pv]) ⟨_, i3, by simp only [Ex.settle_pv], .inr (.inl ⟨rfl, 3 + r, a, b, ⟨by omega, by omega⟩, ha, hb, rfl⟩), rfl⟩

set_option maxRecDepth 20000 in
set_option maxHeartbeats 1000000 in
theorem operatorC_any (d : Nat) (hd : d < 1000) (p : GP) (m : M) (hok : p.ok m) (s : Sc) (hs : s.ok) (st : Bool) (i : Nat) (n q : Int) : ACalls Try.prog 130 [.bp p.gp 0, s.pv, tyC.pv, pI ((d + 1 : Nat) : Int), pB st] (gst p m i n q) (fun v m' => ∃ e i', v = Ex.pv e ∧ GOp (GEx d) s tyC st e ∧ m' = gst p m i' n q) := by
  have hG := hok.gp
  have hT := hok.tp
  have hN := hok.ne
  have e1 : (tyC.kind == 1) = false := rfl
  have e2 : (tyC.kind == 2) = false := rfl
  have ht : isTy tyC := .inr (.inr rfl)
  refine ACalls.enter (mu := [10, 15]) ok_mix Try.func130 rfl (by kernel_rfl) (by kernel_rfl) (by simp only [List.length_cons, List.length_nil, Try.ntmps130]; omega) ?_
  (repeat (first | (refine aSeq (fun X hX => ?_)) | (refine aBlk ?_) | (refine aSkip ?_) | ((first | refine aReg ?_ | refine aDrw (fun m2 => m2 = _) (by kernel_rfl) rfl ?_); simp -implicitDefEqProofs only [forall_eq, ↓slp, slb, ↓reduceIte, reduceCtorEq, Nat.reduceEqDiff, Nat.reduceAdd, Nat.reduceMul, Nat.reduceLT, Nat.reduceLeDiff, Nat.reduceBEq, Nat.reduceBNe, Int.reduceLE, Int.reduceLT, Int.reduceToNat, Int.reduceEq, tfAbMk4, hT, hG]; try simp only [Ex.fold, Ex.foldcs, ← Va.pv.eq_1]) | (refine aIf ?_; simp -implicitDefEqProofs only [↓slp, slb, ↓reduceIte, reduceCtorEq, Nat.reduceEqDiff, Nat.reduceAdd, Nat.reduceMul, Nat.reduceLT, Nat.reduceLeDiff, Nat.reduceBEq, Nat.reduceBNe, Int.reduceLE, Int.reduceLT, Int.reduceToNat, Int.reduceEq, hT, hG]) | (refine aExit ?_; simp only [slx, ↓reduceIte, Nat.reduceEqDiff, reduceCtorEq]) | (refine aRet ?_; try simp only [slx, ↓reduceIte, Nat.reduceEqDiff, reduceCtorEq]) | (refine hX _ _ ?_; clear hX X) | (clear hX X; refine hX _ _ ?_; clear hX X) | (clear hX X; clear hX X; refine hX _ _ ?_; clear hX X) | (intro hlen; unfold maxLen at hlen) | (apply And.intro; (focus (first | omega | assumption | (repeat' apply And.intro) <;> first | omega | assumption)))))
  refine callM (next_any p _ (hok.ext _) 6 (by omega) i n q) ?_
  rintro v m' ⟨r, i', rfl, ⟨hr0, hr1⟩, rfl⟩
  simp -implicitDefEqProofs only [↓slp, slb, ↓reduceIte, reduceCtorEq, Nat.reduceEqDiff, Nat.reduceAdd, Nat.reduceMul, Nat.reduceLT, Nat.reduceLeDiff, Nat.reduceBEq, Nat.reduceBNe, Int.reduceLE, Int.reduceLT, Int.reduceToNat, Int.reduceEq, tfAbMk4, hT, hG]; try simp only [Ex.fold, Ex.foldcs, ← Va.pv.eq_1]
  (repeat (first | (refine aSeq (fun X hX => ?_)) | (refine aBlk ?_) | (refine aSkip ?_) | ((first | refine aReg ?_ | refine aDrw (fun m2 => m2 = _) (by kernel_rfl) rfl ?_); simp -implicitDefEqProofs only [forall_eq, ↓slp, slb, ↓reduceIte, reduceCtorEq, Nat.reduceEqDiff, Nat.reduceAdd, Nat.reduceMul, Nat.reduceLT, Nat.reduceLeDiff, Nat.reduceBEq, Nat.reduceBNe, Int.reduceLE, Int.reduceLT, Int.reduceToNat, Int.reduceEq, tfAbMk4, hT, hG, e1, e2]; try simp only [Ex.fold, Ex.foldcs, ← Va.pv.eq_1]) | (refine aIf ?_; simp -implicitDefEqProofs only [↓slp, slb, ↓reduceIte, reduceCtorEq, Nat.reduceEqDiff, Nat.reduceAdd, Nat.reduceMul, Nat.reduceLT, Nat.reduceLeDiff, Nat.reduceBEq, Nat.reduceBNe, Int.reduceLE, Int.reduceLT, Int.reduceToNat, Int.reduceEq, hT, hG, e1, e2]) | (refine aExit ?_; simp only [slx, ↓reduceIte, Nat.reduceEqDiff, reduceCtorEq]) | (refine aRet ?_; try simp only [slx, ↓reduceIte, Nat.reduceEqDiff, reduceCtorEq]) | (refine hX _ _ ?_; clear hX X) | (clear hX X; refine hX _ _ ?_; clear hX X) | (clear hX X; clear hX X; refine hX _ _ ?_; clear hX X) | (intro hlen; unfold maxLen at hlen) | (apply And.intro; (focus (first | omega | assumption | (repeat' apply And.intro) <;> first | omega | assumption)))))
  refine callM (variable_any p _ (hok.ext _) _ _ hs.ready tyC ht _ n q) ?_
  rintro v m' ⟨a, i2, rfl, ha, rfl⟩
  simp -implicitDefEqProofs only [↓slp, slb, ↓reduceIte, reduceCtorEq, Nat.reduceEqDiff, Nat.reduceAdd, Nat.reduceMul, Nat.reduceLT, Nat.reduceLeDiff, Nat.reduceBEq, Nat.reduceBNe, Int.reduceLE, Int.reduceLT, Int.reduceToNat, Int.reduceEq, tfAbMk4, hT, hG]; try simp only [Ex.fold, Ex.foldcs, ← Va.pv.eq_1]
  (repeat (first | (refine aSeq (fun X hX => ?_)) | (refine aBlk ?_) | (refine aSkip ?_) | ((first | refine aReg ?_ | refine aDrw (fun m2 => m2 = _) (by kernel_rfl) rfl ?_); simp -implicitDefEqProofs only [forall_eq, ↓slp, slb, ↓reduceIte, reduceCtorEq, Nat.reduceEqDiff, Nat.reduceAdd, Nat.reduceMul, Nat.reduceLT, Nat.reduceLeDiff, Nat.reduceBEq, Nat.reduceBNe, Int.reduceLE, Int.reduceLT, Int.reduceToNat, Int.reduceEq, tfAbMk4, hT, hG]; try simp only [Ex.fold, Ex.foldcs, ← Va.pv.eq_1]) | (refine aIf ?_; simp -implicitDefEqProofs only [↓slp, slb, ↓reduceIte, reduceCtorEq, Nat.reduceEqDiff, Nat.reduceAdd, Nat.reduceMul, Nat.reduceLT, Nat.reduceLeDiff, Nat.reduceBEq, Nat.reduceBNe, Int.reduceLE, Int.reduceLT, Int.reduceToNat, Int.reduceEq, hT, hG]) | (refine aExit ?_; simp only [slx, ↓reduceIte, Nat.reduceEqDiff, reduceCtorEq]) | (refine aRet ?_; try simp only [slx, ↓reduceIte, Nat.reduceEqDiff, reduceCtorEq]) | (refine hX _ _ ?_; clear hX X) | (clear hX X; refine hX _ _ ?_; clear hX X) | (clear hX X; clear hX X; refine hX _ _ ?_; clear hX X) | (intro hlen; unfold maxLen at hlen) | (apply And.intro; (focus (first | omega | assumption | (repeat' apply And.intro) <;> first | omega | assumption)))))
  simp only [aPost, Try.results130, aRes_n, aRes_t, aRes_c, pack_one, pack_two]
  simp -implicitDefEqProofs only [↓slp, slb, ↓reduceIte, reduceCtorEq, Nat.reduceEqDiff, Nat.reduceAdd, Nat.reduceMul, Nat.reduceLT, Nat.reduceLeDiff, Nat.reduceBEq, Nat.reduceBNe, Int.reduceLE, Int.reduceLT, Int.reduceToNat, Int.reduceEq, tfAbMk4, hT, hG]; try simp only [Ex.fold, Ex.foldcs, ← Va.pv.eq_1]
  exact leave_gst hok (.refl m) (by simp only [Ex.settle_pv, Ex.pure_pv]) ⟨_, i2, by simp only [Ex.settle_pv], .inr (.inr (.inr (.inr ha))), rfl⟩
end Go.Proofs.Ytibhhoknipdlpaa
