/-
  The law CliteLayouts.
-/
import Derived.Test.YtepjjgnkhcjpcaaCeLayQ
import Derived.Test.YtepjjgnkhcjpcaaCeMk2
import Derived.Test.YtepjjgnkhcjpcaaCeAw
import Derived.Test.YtepjjgnkhcjpcaaCeLayM
set_option linter.unusedVariables false
set_option linter.unusedSimpArgs false
namespace Go.Proofs.Ytepjjgnkhcjpcaa
open Go
-- EXX: cst_nb, cst_nt, cst_fresh, cst_use, cst_free, cst_alive, cst_a, cst_upda, cst_ext, cst_ext2, cst_ea, cst_own, cst_own0, cst_ou, cst_ou0, CP.at, cst_oldE, cst_updE, Pa.cells_pv, Sr.cells_pv
set_option maxRecDepth 20000
-- TNAMES: int; uint8; string; bool; []uint8; *int; []int; []clite.Struct; clite.Struct; []clite.Part; clite.Part; []clite.Func; clite.Func; clite.Prog
set_option linter.defProp false
def tfCeLayL := And.intro @nk_1 (And.intro @td_2 (And.intro @zv_2 (And.intro @Try.underlying2 (And.intro @td_3 (And.intro @zv_3 (And.intro @Try.underlying3 (And.intro @td_4 (And.intro @zv_4 (And.intro @Try.underlying4 (And.intro @td_5 (And.intro @zv_5 (And.intro @Try.underlying5 (And.intro @td_6 (And.intro @zv_6 (And.intro @Try.underlying6 (And.intro @td_7 (And.intro @zv_7 (And.intro @tf_7 (And.intro @td_8 (And.intro @zv_8 (And.intro @tf_8 (And.intro @td_9 (And.intro @zv_9 (And.intro @Try.underlying9 (And.intro @td_10 (And.intro @zv_10 (And.intro @Try.underlying10 (And.intro @td_11 (And.intro @zv_11 (And.intro @Try.underlying11 (And.intro @td_12 (And.intro @zv_12 (And.intro @Try.underlying12 (And.intro @td_13 (And.intro @zv_13 (And.intro @tf_13 (And.intro @td_14 (And.intro @zv_14 (And.intro @tf_14 (And.intro @nk_15 (And.intro @td_15 (And.intro @zv_15 (And.intro @Try.underlying15 (And.intro @nk_16 (And.intro @td_16 (And.intro @zv_16 (And.intro @Try.underlying16 (And.intro @nk_17 (And.intro @td_17 (And.intro @zv_17 (And.intro @Try.underlying17 (And.intro @td_18 (And.intro @zv_18 (And.intro @tf_18 (And.intro @td_19 (And.intro @zv_19 (And.intro @tf_19 (And.intro @nk_20 (And.intro @td_20 (And.intro @zv_20 (And.intro @td_21 (And.intro @zv_21 (And.intro @Try.underlying21 (And.intro @td_22 (And.intro @zv_22 (And.intro @tel_22 (And.intro @Try.underlying22 (And.intro @nk_23 (And.intro @td_24 (And.intro @zv_24 (And.intro @tel_24 (And.intro @Try.underlying24 (And.intro @td_25 (And.intro @zv_25 (And.intro @tel_25 (And.intro @Try.underlying25 (And.intro @td_26 (And.intro @zv_26 (And.intro @tf_26 (And.intro @td_27 (And.intro @zv_27 (And.intro @tf_27 (And.intro @td_28 (And.intro @zv_28 (And.intro @tel_28 (And.intro @Try.underlying28 (And.intro @nk_29 (And.intro @td_30 (And.intro @zv_30 (And.intro @tel_30 (And.intro @Try.underlying30 (And.intro @td_31 (And.intro @zv_31 (And.intro @tf_31 (And.intro @td_32 (And.intro @zv_32 (And.intro @tf_32 (And.intro @nk_33 (And.intro @nk_34 (And.intro @td_34 (And.intro @zv_34 (And.intro @Try.underlying34 (And.intro @td_35 (And.intro @zv_35 (And.intro @tf_35 (And.intro @fl_35 (And.intro @td_36 (And.intro @zv_36 (And.intro @tf_36 (And.intro @fl_36 (And.intro @nk_37 (And.intro @nk_39 (And.intro @nk_40 (And.intro @td_41 (And.intro @zv_41 (And.intro @tel_41 (And.intro @Try.underlying41 (And.intro @td_42 (And.intro @zv_42 (And.intro @tf_42 (And.intro @td_43 (And.intro @zv_43 (And.intro @tf_43 (And.intro @nk_44 (And.intro @td_45 (And.intro @zv_45 (And.intro @tel_45 (And.intro @Try.underlying45 (And.intro @td_46 (And.intro @zv_46 (And.intro @tel_46 (And.intro @Try.underlying46 (And.intro @td_47 (And.intro @zv_47 (And.intro @tf_47 (And.intro @td_48 (And.intro @zv_48 (And.intro @tf_48 (And.intro @td_49 (And.intro @zv_49 (And.intro @tf_49 (And.intro @td_50 (And.intro @zv_50 (And.intro @tf_50 (And.intro @nk_51 (And.intro @nk_52 (And.intro @td_52 (And.intro @zv_52 (And.intro @Try.underlying52 (And.intro @td_53 (And.intro @zv_53 (And.intro @Try.underlying53 (And.intro @nk_55 (And.intro @td_56 (And.intro @zv_56 (And.intro @tel_56 (And.intro @Try.underlying56 (And.intro @nk_58 (And.intro @nk_59 (And.intro @nk_60 (And.intro @nk_61 (And.intro @nk_62 (And.intro @nk_63 (And.intro @td_64 (And.intro @zv_64 (And.intro @Try.underlying64 (And.intro @nk_65 (And.intro @nk_66 (And.intro @nk_67 (And.intro @td_67 (And.intro @zv_67 (And.intro @Try.underlying67 (And.intro @td_68 (And.intro @zv_68 (And.intro @tel_68 (And.intro @Try.underlying68 (And.intro @td_69 (And.intro @zv_69 (And.intro @tf_69 (And.intro @tel_69 (And.intro @ta_69 (And.intro @Try.underlying69 (And.intro @td_70 (And.intro @zv_70 (And.intro @tf_70 (And.intro @tel_70 (And.intro @ta_70 (And.intro @Try.underlying70 (And.intro @td_71 (And.intro @zv_71 (And.intro @tf_71 (And.intro @td_72 (And.intro @zv_72 (And.intro @tf_72 (And.intro @nk_73 (And.intro @nk_74 (And.intro @nk_75 (And.intro @nk_76 (And.intro @nk_77 (And.intro @nk_78 (And.intro @nk_79 (And.intro @nk_80 (And.intro @nk_81 (And.intro @nk_82 (And.intro @nk_83 (And.intro @td_84 (And.intro @zv_84 (And.intro @Try.underlying84 (And.intro @td_85 (And.intro @zv_85 (And.intro @tf_85 (And.intro @td_86 (And.intro @zv_86 (And.intro @tf_86 (And.intro @td_87 (And.intro @zv_87 (And.intro @tf_87 (And.intro @fl_87 (And.intro @td_88 (And.intro @zv_88 (And.intro @tf_88 (And.intro @fl_88 (And.intro @nk_89 (And.intro @nk_90 (And.intro @nk_91 (And.intro @nk_92 (And.intro @nk_93 (And.intro @nk_94 (And.intro @nk_95 (And.intro @nk_96 (And.intro @nk_97 (And.intro @td_97 (And.intro @zv_97 (And.intro @Try.underlying97 (And.intro @td_98 (And.intro @zv_98 (And.intro @td_99 (And.intro @zv_99 (And.intro @tf_99 (And.intro @td_100 (And.intro @zv_100 (And.intro @tf_100 (And.intro @nk_101 (And.intro @nk_102 (And.intro @nk_103 (And.intro @nk_105 (And.intro @nk_106 (And.intro @td_107 (And.intro @zv_107 (And.intro @tf_107 (And.intro @tel_107 (And.intro @ta_107 (And.intro @Try.underlying107 (And.intro @nk_108 (And.intro @td_109 (And.intro @zv_109 (And.intro @tf_109 (And.intro @td_110 (And.intro @zv_110 (And.intro @tf_110 (And.intro @td_111 (And.intro @zv_111 (And.intro @tf_111 (And.intro @tel_111 (And.intro @ta_111 (And.intro @Try.underlying111 (And.intro @td_112 (And.intro @zv_112 (And.intro @tf_112 (And.intro @td_113 (And.intro @zv_113 (And.intro @tf_113 (And.intro @nk_114 (And.intro @td_115 (And.intro @zv_115 (And.intro @Try.underlying115 (And.intro @td_116 (And.intro @zv_116 (And.intro @Try.underlying116 (And.intro @td_117 (And.intro @zv_117 (And.intro @Try.underlying117 (And.intro @nk_118 (And.intro @nk_119 (And.intro @td_119 (And.intro @zv_119 (And.intro @Try.underlying119 (And.intro @td_120 (And.intro @zv_120 (And.intro @Try.underlying120 (And.intro @td_121 (And.intro @zv_121 (And.intro @Try.underlying121 (And.intro @td_122 (And.intro @zv_122 (And.intro @tf_122 (And.intro @td_123 (And.intro @zv_123 (And.intro @tf_123 (And.intro @td_124 (And.intro @zv_124 (And.intro @Ex.settle_pv (And.intro @Ex.pure_pv (And.intro @Ex.cells_pv (And.intro @Ex.cs.eq_1 (And.intro @On.pv.eq_1 (And.intro @Ty.pv.eq_1 (And.intro @Va.settle_pv (And.intro @Va.pure_pv (And.intro @Va.cells_pv (And.intro @Va.cs.eq_1 (And.intro @cst_nb (And.intro @cst_nt (And.intro @cst_fresh (And.intro @cst_use (And.intro @cst_free (And.intro @cst_alive (And.intro @cst_a (And.intro @cst_upda (And.intro @cst_ext (And.intro @cst_ext2 (And.intro @cst_ea (And.intro @cst_own (And.intro @cst_own0 (And.intro @cst_ou (And.intro @cst_ou0 (And.intro @CP.at.eq_1 (And.intro @cst_oldE (And.intro @cst_updE (And.intro @Pa.cells_pv @Sr.cells_pv))))))))))))))))))))))))))))))))))))))))))))))))))))))))))))))))))))))))))))))))))))))))))))))))))))))))))))))))))))))))))))))))))))))))))))))))))))))))))))))))))))))))))))))))))))))))))))))))))))))))))))))))))))))))))))))))))))))))))))))))))))))))))))))))))))))))))))))))))))))))))))))))))))))))))))))))))))))))))))))))))))))))))

set_option maxHeartbeats 1000000 in
theorem idxFn0_any (o : Own) (g : FuncId) (c : PV) (m : M) : ACalls Try.prog 31 [.sl o [], .fn (.func g) [] [c]] m (fun v m' => v = pI (-1) ∧ m' = m) := by
  refine ACalls.enter (mu := []) ok_mix Try.func31 rfl (by kernel_rfl) (by kernel_rfl) (by simp only [List.length_cons, List.length_nil, Try.ntmps31]; omega) ?_
  (repeat (first | (refine aSeq (fun X hX => ?_)) | (refine aBlk ?_) | (refine aSkip ?_) | ((first | refine aReg ?_ | refine aDrw (fun m2 => m2 = _) (by kernel_rfl) rfl ?_); simp -implicitDefEqProofs only [forall_eq, ↓slp, slb, ↓reduceIte, reduceCtorEq, Nat.reduceEqDiff, Nat.reduceAdd, Nat.reduceMul, Nat.reduceLT, Nat.reduceLeDiff, Nat.reduceBEq, Nat.reduceBNe, Int.reduceLE, Int.reduceLT, Int.reduceToNat, Int.reduceEq, tfCeLayL]; try simp only [Ex.fold, Ex.foldcs, ← Va.pv.eq_1]) | (refine aExit ?_; simp only [slx, ↓reduceIte, Nat.reduceEqDiff, reduceCtorEq]) | (refine aRet ?_; try simp only [slx, ↓reduceIte, Nat.reduceEqDiff, reduceCtorEq]) | (refine hX _ _ ?_; clear hX X) | (clear hX X; refine hX _ _ ?_; clear hX X) | (clear hX X; clear hX X; refine hX _ _ ?_; clear hX X) | (intro hlen; unfold maxLen at hlen) | (apply And.intro; (focus (first | omega | assumption | (repeat' apply And.intro) <;> first | omega | assumption)))))
  obtain ⟨I, hI⟩ : ∃ I : F → M → Prop, ∀ f m', I f m' = (f 7 = .v (.int .i64 0) ∧ f 8 = .v (.int .i64 0) ∧ m' = m) := ⟨_, fun _ _ => rfl⟩
  refine aLoop I (fun f m => 0) ?_ ?_
  · rw [hI]; exact ⟨rfl, rfl, rfl⟩
  intro f m' hrel
  rw [hI] at hrel
  obtain ⟨h7, h8, rfl⟩ := hrel
  have c0 : decide ((0 : Int) < 0) = false := rfl
  (repeat (first | (refine aSeq (fun X hX => ?_)) | (refine aBlk ?_) | (refine aSkip ?_) | ((first | refine aReg ?_ | refine aDrw (fun m2 => m2 = _) (by kernel_rfl) rfl ?_); simp -implicitDefEqProofs only [forall_eq, ↓slp, slb, ↓reduceIte, reduceCtorEq, Nat.reduceEqDiff, Nat.reduceAdd, Nat.reduceMul, Nat.reduceLT, Nat.reduceLeDiff, Nat.reduceBEq, Nat.reduceBNe, Int.reduceLE, Int.reduceLT, Int.reduceToNat, Int.reduceEq, tfCeLayL, h7, h8, c0]; try simp only [Ex.fold, Ex.foldcs, ← Va.pv.eq_1]) | (refine aExit ?_; simp only [slx, ↓reduceIte, Nat.reduceEqDiff, reduceCtorEq]) | (refine aRet ?_; try simp only [slx, ↓reduceIte, Nat.reduceEqDiff, reduceCtorEq]) | (refine hX _ _ ?_; clear hX X) | (clear hX X; refine hX _ _ ?_; clear hX X) | (clear hX X; clear hX X; refine hX _ _ ?_; clear hX X) | (intro hlen; unfold maxLen at hlen) | (apply And.intro; (focus (first | omega | assumption | (repeat' apply And.intro) <;> first | omega | assumption)))))
  refine aIf ?_; simp -implicitDefEqProofs only [↓slp, slb, ↓reduceIte, reduceCtorEq, Nat.reduceEqDiff, Nat.reduceAdd, Nat.reduceMul, Nat.reduceLT, Nat.reduceLeDiff, Nat.reduceBEq, Nat.reduceBNe, Int.reduceLE, Int.reduceLT, Int.reduceToNat, Int.reduceEq]
  (repeat (first | (refine aSeq (fun X hX => ?_)) | (refine aBlk ?_) | (refine aSkip ?_) | ((first | refine aReg ?_ | refine aDrw (fun m2 => m2 = _) (by kernel_rfl) rfl ?_); simp -implicitDefEqProofs only [forall_eq, ↓slp, slb, ↓reduceIte, reduceCtorEq, Nat.reduceEqDiff, Nat.reduceAdd, Nat.reduceMul, Nat.reduceLT, Nat.reduceLeDiff, Nat.reduceBEq, Nat.reduceBNe, Int.reduceLE, Int.reduceLT, Int.reduceToNat, Int.reduceEq, tfCeLayL]; try simp only [Ex.fold, Ex.foldcs, ← Va.pv.eq_1]) | (refine aExit ?_; simp only [slx, ↓reduceIte, Nat.reduceEqDiff, reduceCtorEq]) | (refine aRet ?_; try simp only [slx, ↓reduceIte, Nat.reduceEqDiff, reduceCtorEq]) | (refine hX _ _ ?_; clear hX X) | (clear hX X; refine hX _ _ ?_; clear hX X) | (clear hX X; clear hX X; refine hX _ _ ?_; clear hX X) | (intro hlen; unfold maxLen at hlen) | (apply And.intro; (focus (first | omega | assumption | (repeat' apply And.intro) <;> first | omega | assumption)))))
  simp only [aPost, Try.results31, aRes_n, aRes_t, aRes_c, pack_one, pack_two]
  exact leave_same rfl ⟨rfl, rfl⟩
theorem findFn0_any (o o2 : Own) (L : List Sr) (name : Str) (m : M) : ACalls Try.prog 14 [.ag [.sl o (L.map Sr.pv), .sl o2 []], .v (.string name)] m (fun v m' => v = pI (-1) ∧ m' = m) := by
  refine ACalls.enter (mu := []) ok_mix Try.func14 rfl (by kernel_rfl) (by kernel_rfl) (by simp only [List.length_cons, List.length_nil, Try.ntmps14]; omega) ?_
  (repeat (first | (refine aSeq (fun X hX => ?_)) | (refine aBlk ?_) | (refine aSkip ?_) | ((first | refine aReg ?_ | refine aDrw (fun m2 => m2 = _) (by kernel_rfl) rfl ?_); simp -implicitDefEqProofs only [forall_eq, ↓slp, slb, ↓reduceIte, reduceCtorEq, Nat.reduceEqDiff, Nat.reduceAdd, Nat.reduceMul, Nat.reduceLT, Nat.reduceLeDiff, Nat.reduceBEq, Nat.reduceBNe, Int.reduceLE, Int.reduceLT, Int.reduceToNat, Int.reduceEq, tfCeLayL]; try simp only [Ex.fold, Ex.foldcs, ← Va.pv.eq_1]) | (refine aExit ?_; simp only [slx, ↓reduceIte, Nat.reduceEqDiff, reduceCtorEq]) | (refine aRet ?_; try simp only [slx, ↓reduceIte, Nat.reduceEqDiff, reduceCtorEq]) | (refine hX _ _ ?_; clear hX X) | (clear hX X; refine hX _ _ ?_; clear hX X) | (clear hX X; clear hX X; refine hX _ _ ?_; clear hX X) | (intro hlen; unfold maxLen at hlen) | (apply And.intro; (focus (first | omega | assumption | (repeat' apply And.intro) <;> first | omega | assumption)))))
  refine callE (idxFn0_any _ _ _ _) ?_
  simp -implicitDefEqProofs only [↓slp, slb, ↓reduceIte, reduceCtorEq, Nat.reduceEqDiff, Nat.reduceAdd, Nat.reduceMul, Nat.reduceLT, Nat.reduceLeDiff, Nat.reduceBEq, Nat.reduceBNe, Int.reduceLE, Int.reduceLT, Int.reduceToNat, Int.reduceEq, tfCeLayL, pI]; try simp only [Ex.fold, Ex.foldcs, ← Va.pv.eq_1]
  (repeat (first | (refine aSeq (fun X hX => ?_)) | (refine aBlk ?_) | (refine aSkip ?_) | ((first | refine aReg ?_ | refine aDrw (fun m2 => m2 = _) (by kernel_rfl) rfl ?_); simp -implicitDefEqProofs only [forall_eq, ↓slp, slb, ↓reduceIte, reduceCtorEq, Nat.reduceEqDiff, Nat.reduceAdd, Nat.reduceMul, Nat.reduceLT, Nat.reduceLeDiff, Nat.reduceBEq, Nat.reduceBNe, Int.reduceLE, Int.reduceLT, Int.reduceToNat, Int.reduceEq, tfCeLayL]; try simp only [Ex.fold, Ex.foldcs, ← Va.pv.eq_1]) | (refine aExit ?_; simp only [slx, ↓reduceIte, Nat.reduceEqDiff, reduceCtorEq]) | (refine aRet ?_; try simp only [slx, ↓reduceIte, Nat.reduceEqDiff, reduceCtorEq]) | (refine hX _ _ ?_; clear hX X) | (clear hX X; refine hX _ _ ?_; clear hX X) | (clear hX X; clear hX X; refine hX _ _ ?_; clear hX X) | (intro hlen; unfold maxLen at hlen) | (apply And.intro; (focus (first | omega | assumption | (repeat' apply And.intro) <;> first | omega | assumption)))))
  simp only [aPost, Try.results14, aRes_n, aRes_t, aRes_c, pack_one, pack_two]
  exact leave_same rfl ⟨rfl, rfl⟩
theorem sum_lo : ∀ (l : List Int), (∀ x ∈ l, 0 ≤ x) → 0 ≤ l.sum
  | [], _ => by simp
  | a :: l, h => by
    have h1 := sum_lo l (fun x hx => h x (by simp [hx]))
    have h2 := h a (by simp)
    simp; omega
set_option maxHeartbeats 16000000 in
theorem layouts_any (p : CP) (hpa : p.a = 1) (ha : ∀ x ∈ p.l, 0 ≤ x ∧ x ≤ 255) :
    ACalls Try.prog 3 [.sl .no (p.l.map pU)] M0 (fun v m' => v = .v (.bool true)) := by
  refine ACalls.enter (mu := [3, 5, 7, 12]) ok_mix Try.func3 rfl (by kernel_rfl) (by kernel_rfl) (by simp only [List.length_cons, List.length_nil, Try.ntmps3]; omega) ?_
  cases c1 : decide ((p.l.length : Int) > 60) with
  | true =>
    (repeat (first | (refine aSeq (fun X hX => ?_)) | (refine aBlk ?_) | (refine aSkip ?_) | ((first | refine aReg ?_ | refine aDrw (fun m2 => m2 = _) (by kernel_rfl) rfl ?_); simp -implicitDefEqProofs only [forall_eq, ↓slp, slb, ↓reduceIte, reduceCtorEq, Nat.reduceEqDiff, Nat.reduceAdd, Nat.reduceMul, Nat.reduceLT, Nat.reduceLeDiff, Nat.reduceBEq, Nat.reduceBNe, Int.reduceLE, Int.reduceLT, Int.reduceToNat, Int.reduceEq, tfCeLayL, c1]; try simp only [Ex.fold, Ex.foldcs, ← Va.pv.eq_1]) | (refine aExit ?_; simp only [slx, ↓reduceIte, Nat.reduceEqDiff, reduceCtorEq]) | (refine aRet ?_; try simp only [slx, ↓reduceIte, Nat.reduceEqDiff, reduceCtorEq]) | (refine hX _ _ ?_; clear hX X) | (clear hX X; refine hX _ _ ?_; clear hX X) | (clear hX X; clear hX X; refine hX _ _ ?_; clear hX X) | (intro hlen; unfold maxLen at hlen) | (apply And.intro; (focus (first | omega | assumption | (repeat' apply And.intro) <;> first | omega | assumption)))))
    refine callE (awakeC _) ?_
    simp -implicitDefEqProofs only [↓slp, slb, ↓reduceIte, reduceCtorEq, Nat.reduceEqDiff, Nat.reduceAdd, Nat.reduceMul, Nat.reduceLT, Nat.reduceLeDiff, Nat.reduceBEq, Nat.reduceBNe, Int.reduceLE, Int.reduceLT, Int.reduceToNat, Int.reduceEq, tfCeLayL, c1]; try simp only [Ex.fold, Ex.foldcs, ← Va.pv.eq_1]
    (repeat (first | (refine aSeq (fun X hX => ?_)) | (refine aBlk ?_) | (refine aSkip ?_) | ((first | refine aReg ?_ | refine aDrw (fun m2 => m2 = _) (by kernel_rfl) rfl ?_); simp -implicitDefEqProofs only [forall_eq, ↓slp, slb, ↓reduceIte, reduceCtorEq, Nat.reduceEqDiff, Nat.reduceAdd, Nat.reduceMul, Nat.reduceLT, Nat.reduceLeDiff, Nat.reduceBEq, Nat.reduceBNe, Int.reduceLE, Int.reduceLT, Int.reduceToNat, Int.reduceEq, tfCeLayL, c1]; try simp only [Ex.fold, Ex.foldcs, ← Va.pv.eq_1]) | (refine aExit ?_; simp only [slx, ↓reduceIte, Nat.reduceEqDiff, reduceCtorEq]) | (refine aRet ?_; try simp only [slx, ↓reduceIte, Nat.reduceEqDiff, reduceCtorEq]) | (refine hX _ _ ?_; clear hX X) | (clear hX X; refine hX _ _ ?_; clear hX X) | (clear hX X; clear hX X; refine hX _ _ ?_; clear hX X) | (intro hlen; unfold maxLen at hlen) | (apply And.intro; (focus (first | omega | assumption | (repeat' apply And.intro) <;> first | omega | assumption)))))
    refine aIf ?_; simp -implicitDefEqProofs only [↓slp, slb, ↓reduceIte, reduceCtorEq, Nat.reduceEqDiff, Nat.reduceAdd, Nat.reduceMul, Nat.reduceLT, Nat.reduceLeDiff, Nat.reduceBEq, Nat.reduceBNe, Int.reduceLE, Int.reduceLT, Int.reduceToNat, Int.reduceEq]
    (repeat (first | (refine aSeq (fun X hX => ?_)) | (refine aBlk ?_) | (refine aSkip ?_) | ((first | refine aReg ?_ | refine aDrw (fun m2 => m2 = _) (by kernel_rfl) rfl ?_); simp -implicitDefEqProofs only [forall_eq, ↓slp, slb, ↓reduceIte, reduceCtorEq, Nat.reduceEqDiff, Nat.reduceAdd, Nat.reduceMul, Nat.reduceLT, Nat.reduceLeDiff, Nat.reduceBEq, Nat.reduceBNe, Int.reduceLE, Int.reduceLT, Int.reduceToNat, Int.reduceEq, tfCeLayL]; try simp only [Ex.fold, Ex.foldcs, ← Va.pv.eq_1]) | (refine aExit ?_; simp only [slx, ↓reduceIte, Nat.reduceEqDiff, reduceCtorEq]) | (refine aRet ?_; try simp only [slx, ↓reduceIte, Nat.reduceEqDiff, reduceCtorEq]) | (refine hX _ _ ?_; clear hX X) | (clear hX X; refine hX _ _ ?_; clear hX X) | (clear hX X; clear hX X; refine hX _ _ ?_; clear hX X) | (intro hlen; unfold maxLen at hlen) | (apply And.intro; (focus (first | omega | assumption | (repeat' apply And.intro) <;> first | omega | assumption)))))
    refine callE (awakeC _) ?_
    simp -implicitDefEqProofs only [↓slp, slb, ↓reduceIte, reduceCtorEq, Nat.reduceEqDiff, Nat.reduceAdd, Nat.reduceMul, Nat.reduceLT, Nat.reduceLeDiff, Nat.reduceBEq, Nat.reduceBNe, Int.reduceLE, Int.reduceLT, Int.reduceToNat, Int.reduceEq, tfCeLayL]; try simp only [Ex.fold, Ex.foldcs, ← Va.pv.eq_1]
    (repeat (first | (refine aSeq (fun X hX => ?_)) | (refine aBlk ?_) | (refine aSkip ?_) | ((first | refine aReg ?_ | refine aDrw (fun m2 => m2 = _) (by kernel_rfl) rfl ?_); simp -implicitDefEqProofs only [forall_eq, ↓slp, slb, ↓reduceIte, reduceCtorEq, Nat.reduceEqDiff, Nat.reduceAdd, Nat.reduceMul, Nat.reduceLT, Nat.reduceLeDiff, Nat.reduceBEq, Nat.reduceBNe, Int.reduceLE, Int.reduceLT, Int.reduceToNat, Int.reduceEq, tfCeLayL]; try simp only [Ex.fold, Ex.foldcs, ← Va.pv.eq_1]) | (refine aExit ?_; simp only [slx, ↓reduceIte, Nat.reduceEqDiff, reduceCtorEq]) | (refine aRet ?_; try simp only [slx, ↓reduceIte, Nat.reduceEqDiff, reduceCtorEq]) | (refine hX _ _ ?_; clear hX X) | (clear hX X; refine hX _ _ ?_; clear hX X) | (clear hX X; clear hX X; refine hX _ _ ?_; clear hX X) | (intro hlen; unfold maxLen at hlen) | (apply And.intro; (focus (first | omega | assumption | (repeat' apply And.intro) <;> first | omega | assumption)))))
    simp only [aPost, Try.results3, aRes_n, aRes_t, aRes_c, pack_one, pack_two]
    exact leave_same rfl rfl
  | false =>
  have ha60 : p.l.length ≤ 200 := by simp at c1; omega
  (repeat (first | (refine aSeq (fun X hX => ?_)) | (refine aBlk ?_) | (refine aSkip ?_) | ((first | refine aReg ?_ | refine aDrw (fun m2 => m2 = _) (by kernel_rfl) rfl ?_); simp -implicitDefEqProofs only [forall_eq, ↓slp, slb, ↓reduceIte, reduceCtorEq, Nat.reduceEqDiff, Nat.reduceAdd, Nat.reduceMul, Nat.reduceLT, Nat.reduceLeDiff, Nat.reduceBEq, Nat.reduceBNe, Int.reduceLE, Int.reduceLT, Int.reduceToNat, Int.reduceEq, tfCeLayL, c1]; try simp only [Ex.fold, Ex.foldcs, ← Va.pv.eq_1]) | (refine aExit ?_; simp only [slx, ↓reduceIte, Nat.reduceEqDiff, reduceCtorEq]) | (refine aRet ?_; try simp only [slx, ↓reduceIte, Nat.reduceEqDiff, reduceCtorEq]) | (refine hX _ _ ?_; clear hX X) | (clear hX X; refine hX _ _ ?_; clear hX X) | (clear hX X; clear hX X; refine hX _ _ ?_; clear hX X) | (intro hlen; unfold maxLen at hlen) | (apply And.intro; (focus (first | omega | assumption | (repeat' apply And.intro) <;> first | omega | assumption)))))
  refine callE (awakeC _) ?_
  simp -implicitDefEqProofs only [↓slp, slb, ↓reduceIte, reduceCtorEq, Nat.reduceEqDiff, Nat.reduceAdd, Nat.reduceMul, Nat.reduceLT, Nat.reduceLeDiff, Nat.reduceBEq, Nat.reduceBNe, Int.reduceLE, Int.reduceLT, Int.reduceToNat, Int.reduceEq, tfCeLayL, c1]; try simp only [Ex.fold, Ex.foldcs, ← Va.pv.eq_1]
  (repeat (first | (refine aSeq (fun X hX => ?_)) | (refine aBlk ?_) | (refine aSkip ?_) | ((first | refine aReg ?_ | refine aDrw (fun m2 => m2 = _) (by kernel_rfl) rfl ?_); simp -implicitDefEqProofs only [forall_eq, ↓slp, slb, ↓reduceIte, reduceCtorEq, Nat.reduceEqDiff, Nat.reduceAdd, Nat.reduceMul, Nat.reduceLT, Nat.reduceLeDiff, Nat.reduceBEq, Nat.reduceBNe, Int.reduceLE, Int.reduceLT, Int.reduceToNat, Int.reduceEq, tfCeLayL, c1]; try simp only [Ex.fold, Ex.foldcs, ← Va.pv.eq_1]) | (refine aExit ?_; simp only [slx, ↓reduceIte, Nat.reduceEqDiff, reduceCtorEq]) | (refine aRet ?_; try simp only [slx, ↓reduceIte, Nat.reduceEqDiff, reduceCtorEq]) | (refine hX _ _ ?_; clear hX X) | (clear hX X; refine hX _ _ ?_; clear hX X) | (clear hX X; clear hX X; refine hX _ _ ?_; clear hX X) | (intro hlen; unfold maxLen at hlen) | (apply And.intro; (focus (first | omega | assumption | (repeat' apply And.intro) <;> first | omega | assumption)))))
  refine aIf ?_; simp -implicitDefEqProofs only [↓slp, slb, ↓reduceIte, reduceCtorEq, Nat.reduceEqDiff, Nat.reduceAdd, Nat.reduceMul, Nat.reduceLT, Nat.reduceLeDiff, Nat.reduceBEq, Nat.reduceBNe, Int.reduceLE, Int.reduceLT, Int.reduceToNat, Int.reduceEq]
  (repeat (first | (refine aSeq (fun X hX => ?_)) | (refine aBlk ?_) | (refine aSkip ?_) | ((first | refine aReg ?_ | refine aDrw (fun m2 => m2 = _) (by kernel_rfl) rfl ?_); simp -implicitDefEqProofs only [forall_eq, ↓slp, slb, ↓reduceIte, reduceCtorEq, Nat.reduceEqDiff, Nat.reduceAdd, Nat.reduceMul, Nat.reduceLT, Nat.reduceLeDiff, Nat.reduceBEq, Nat.reduceBNe, Int.reduceLE, Int.reduceLT, Int.reduceToNat, Int.reduceEq, tfCeLayL]; try simp only [Ex.fold, Ex.foldcs, ← Va.pv.eq_1]) | (refine aExit ?_; simp only [slx, ↓reduceIte, Nat.reduceEqDiff, reduceCtorEq]) | (refine aRet ?_; try simp only [slx, ↓reduceIte, Nat.reduceEqDiff, reduceCtorEq]) | (refine hX _ _ ?_; clear hX X) | (clear hX X; refine hX _ _ ?_; clear hX X) | (clear hX X; clear hX X; refine hX _ _ ?_; clear hX X) | (intro hlen; unfold maxLen at hlen) | (apply And.intro; (focus (first | omega | assumption | (repeat' apply And.intro) <;> first | omega | assumption)))))
  have hL0 : (M0.ext [some [.sl .full [], .sl .full []], some [.v (.int .i64 0)]]) = cst p (M0.ext [some [.sl .full [], .sl .full []], some [.v (.int .i64 0)]]) 0 := by unfold cst; rw [hpa]; rfl
  obtain ⟨I, hI⟩ : ∃ I : F → M → Prop, ∀ f m', I f m' = (∃ (k i : Nat) (S : List Sr) (Z : List Int) (oS oZ : Own) (mm : M), k ≤ 8 ∧ StructsR S Z ∧ S.length = k ∧ f 0 = .sl .no (p.l.map pU) ∧ f 3 = .bp 0 0 ∧ f 4 = .sl oZ (Z.map pI) ∧ f 5 = .bp p.a 0 ∧ f 6 = .v (.int .i64 k) ∧ m' = cst p mm i ∧ 2 ≤ mm.nb ∧ mm.get 0 = some [.sl oS (S.map Sr.pv), .sl .full []] ∧ oS.free mm 2 ∧ oZ.free mm 1 ∧ (∀ t, oS = .tok t → oZ ≠ .tok t)) := ⟨_, fun _ _ => rfl⟩
  refine aLoop I (fun f m => 8 - numOf (f 6)) ?_ ?_
  · rw [hI]; exact ⟨0, 0, [], [], .full, .full, _, by omega, structs_nil, rfl, rfl, rfl, rfl, by rw [hpa]; rfl, rfl, hL0, Nat.le_refl _, rfl, trivial, trivial, fun t h => by cases h⟩
  intro f m' hrel
  rw [hI] at hrel
  obtain ⟨k, i, S, Z, oS, oZ, mm, hk, hR, hS, f0, f3, f4, f5, f6, rfl, hnb, hg0, hfS, hfZ, hne⟩ := hrel
  have hokm : p.ok mm := ⟨by rw [hpa]; omega, ha60, ha⟩
  have hA := hokm.a
  cases c2 : decide ((k : Int) < 8) with
  | false =>
    obtain rfl : k = 8 := by simp at c2; omega
    (repeat (first | (refine aSeq (fun X hX => ?_)) | (refine aBlk ?_) | (refine aSkip ?_) | ((first | refine aReg ?_ | refine aDrw (fun m2 => m2 = _) (by kernel_rfl) rfl ?_); simp -implicitDefEqProofs only [forall_eq, ↓slp, slb, ↓reduceIte, reduceCtorEq, Nat.reduceEqDiff, Nat.reduceAdd, Nat.reduceMul, Nat.reduceLT, Nat.reduceLeDiff, Nat.reduceBEq, Nat.reduceBNe, Int.reduceLE, Int.reduceLT, Int.reduceToNat, Int.reduceEq, tfCeLayL, f0, f3, f4, f5, f6, c2]; try simp only [Ex.fold, Ex.foldcs, ← Va.pv.eq_1]) | (refine aExit ?_; simp only [slx, ↓reduceIte, Nat.reduceEqDiff, reduceCtorEq]) | (refine aRet ?_; try simp only [slx, ↓reduceIte, Nat.reduceEqDiff, reduceCtorEq]) | (refine hX _ _ ?_; clear hX X) | (clear hX X; refine hX _ _ ?_; clear hX X) | (clear hX X; clear hX X; refine hX _ _ ?_; clear hX X) | (intro hlen; unfold maxLen at hlen) | (apply And.intro; (focus (first | omega | assumption | (repeat' apply And.intro) <;> first | omega | assumption)))))
    refine aIf ?_; simp -implicitDefEqProofs only [↓slp, slb, ↓reduceIte, reduceCtorEq, Nat.reduceEqDiff, Nat.reduceAdd, Nat.reduceMul, Nat.reduceLT, Nat.reduceLeDiff, Nat.reduceBEq, Nat.reduceBNe, Int.reduceLE, Int.reduceLT, Int.reduceToNat, Int.reduceEq]
    have h0a : (0 : Nat) ≠ p.a := by omega
    have gP : ∀ i, (cst p mm i).get 0 = some [.sl oS (S.map Sr.pv), .sl .full []] := fun _ => (cst_old h0a).trans hg0
    have hfs : ∀ s ∈ S, s.fields.length ≤ 1000000 := fun s hs => by
      obtain ⟨j, hj, rfl⟩ := List.mem_iff_getElem.1 hs
      obtain ⟨_, h1, _⟩ := hR.flds j hj
      have := h1.four
      omega
    have cO : ∀ m, ACalls Try.prog 13 [.ag [.sl oS (S.map Sr.pv), .sl .full []], .v (.string ⟨#[110, 111, 110, 101]⟩), .v (.string ⟨#[102, 97]⟩)] m (fun v m' => v = .tp [.v (.int .i64 (-1)), .v (.string ⟨#[]⟩)] ∧ m' = m) := fun m => by
      have := offset_any oS .full S [] (by omega) hfs ⟨#[110, 111, 110, 101]⟩ ⟨#[102, 97]⟩ m
      rw [off_none hR] at this
      exact this
    have cS : ∀ m, ACalls Try.prog 11 [.ag [.sl oS (S.map Sr.pv), .sl .full []], .v (.string ⟨#[110, 111, 110, 101]⟩)] m (fun v m' => v = .v (.int .i64 (-1)) ∧ m' = m) := fun m => by
      have := sizeT_any oS .full S [] (by omega) ⟨#[110, 111, 110, 101]⟩ m
      rw [size_none hR] at this
      exact this
    have cT : ∀ m, ACalls Try.prog 11 [progPV .no .no selfL [], .v (.string ⟨#[97]⟩)] m (fun v m' => v = .v (.int .i64 (-1)) ∧ m' = m) := fun m => by
      have := sizeT_any .no .no selfL [] (by decide) ⟨#[97]⟩ m
      rw [show selfL.length = 2 from rfl, size_self] at this
      exact this
    (repeat (first | (refine aSeq (fun X hX => ?_)) | (refine aBlk ?_) | (refine aSkip ?_) | ((first | refine aReg ?_ | refine aDrw (fun m2 => m2 = _) (by kernel_rfl) rfl ?_); simp -implicitDefEqProofs only [forall_eq, ↓slp, slb, ↓reduceIte, reduceCtorEq, Nat.reduceEqDiff, Nat.reduceAdd, Nat.reduceMul, Nat.reduceLT, Nat.reduceLeDiff, Nat.reduceBEq, Nat.reduceBNe, Int.reduceLE, Int.reduceLT, Int.reduceToNat, Int.reduceEq, tfCeLayL, f0, f3, f4, f5, f6, gP]; try simp only [Ex.fold, Ex.foldcs, ← Va.pv.eq_1]) | (refine aExit ?_; simp only [slx, ↓reduceIte, Nat.reduceEqDiff, reduceCtorEq]) | (refine aRet ?_; try simp only [slx, ↓reduceIte, Nat.reduceEqDiff, reduceCtorEq]) | (refine hX _ _ ?_; clear hX X) | (clear hX X; refine hX _ _ ?_; clear hX X) | (clear hX X; clear hX X; refine hX _ _ ?_; clear hX X) | (intro hlen; unfold maxLen at hlen) | (apply And.intro; (focus (first | omega | assumption | (repeat' apply And.intro) <;> first | omega | assumption)))))
    refine callE (cO _) ?_
    simp -implicitDefEqProofs only [↓slp, slb, ↓reduceIte, reduceCtorEq, Nat.reduceEqDiff, Nat.reduceAdd, Nat.reduceMul, Nat.reduceLT, Nat.reduceLeDiff, Nat.reduceBEq, Nat.reduceBNe, Int.reduceLE, Int.reduceLT, Int.reduceToNat, Int.reduceEq, tfCeLayL, f0, f3, f4, f5, f6, gP]; try simp only [Ex.fold, Ex.foldcs, ← Va.pv.eq_1]
    (repeat (first | (refine aSeq (fun X hX => ?_)) | (refine aBlk ?_) | (refine aSkip ?_) | ((first | refine aReg ?_ | refine aDrw (fun m2 => m2 = _) (by kernel_rfl) rfl ?_); simp -implicitDefEqProofs only [forall_eq, ↓slp, slb, ↓reduceIte, reduceCtorEq, Nat.reduceEqDiff, Nat.reduceAdd, Nat.reduceMul, Nat.reduceLT, Nat.reduceLeDiff, Nat.reduceBEq, Nat.reduceBNe, Int.reduceLE, Int.reduceLT, Int.reduceToNat, Int.reduceEq, tfCeLayL, f0, f3, f4, f5, f6, gP]; try simp only [Ex.fold, Ex.foldcs, ← Va.pv.eq_1]) | (refine aExit ?_; simp only [slx, ↓reduceIte, Nat.reduceEqDiff, reduceCtorEq]) | (refine aRet ?_; try simp only [slx, ↓reduceIte, Nat.reduceEqDiff, reduceCtorEq]) | (refine hX _ _ ?_; clear hX X) | (clear hX X; refine hX _ _ ?_; clear hX X) | (clear hX X; clear hX X; refine hX _ _ ?_; clear hX X) | (intro hlen; unfold maxLen at hlen) | (apply And.intro; (focus (first | omega | assumption | (repeat' apply And.intro) <;> first | omega | assumption)))))
    refine callE (cS _) ?_
    simp -implicitDefEqProofs only [↓slp, slb, ↓reduceIte, reduceCtorEq, Nat.reduceEqDiff, Nat.reduceAdd, Nat.reduceMul, Nat.reduceLT, Nat.reduceLeDiff, Nat.reduceBEq, Nat.reduceBNe, Int.reduceLE, Int.reduceLT, Int.reduceToNat, Int.reduceEq, tfCeLayL, f0, f3, f4, f5, f6, gP, Int.reduceBEq]; try simp only [Ex.fold, Ex.foldcs, ← Va.pv.eq_1]
    refine callE (cT _) ?_
    simp -implicitDefEqProofs only [↓slp, slb, ↓reduceIte, reduceCtorEq, Nat.reduceEqDiff, Nat.reduceAdd, Nat.reduceMul, Nat.reduceLT, Nat.reduceLeDiff, Nat.reduceBEq, Nat.reduceBNe, Int.reduceLE, Int.reduceLT, Int.reduceToNat, Int.reduceEq, tfCeLayL, f0, f3, f4, f5, f6, gP, Int.reduceBEq]; try simp only [Ex.fold, Ex.foldcs, ← Va.pv.eq_1]
    refine callE (findFn0_any oS .full S _ _) ?_
    simp -implicitDefEqProofs only [↓slp, slb, ↓reduceIte, reduceCtorEq, Nat.reduceEqDiff, Nat.reduceAdd, Nat.reduceMul, Nat.reduceLT, Nat.reduceLeDiff, Nat.reduceBEq, Nat.reduceBNe, Int.reduceLE, Int.reduceLT, Int.reduceToNat, Int.reduceEq, tfCeLayL, f0, f3, f4, f5, f6, gP, Int.reduceBEq, pI]; try simp only [Ex.fold, Ex.foldcs, ← Va.pv.eq_1]
    (repeat (first | (refine aSeq (fun X hX => ?_)) | (refine aBlk ?_) | (refine aSkip ?_) | ((first | refine aReg ?_ | refine aDrw (fun m2 => m2 = _) (by kernel_rfl) rfl ?_); simp -implicitDefEqProofs only [forall_eq, ↓slp, slb, ↓reduceIte, reduceCtorEq, Nat.reduceEqDiff, Nat.reduceAdd, Nat.reduceMul, Nat.reduceLT, Nat.reduceLeDiff, Nat.reduceBEq, Nat.reduceBNe, Int.reduceLE, Int.reduceLT, Int.reduceToNat, Int.reduceEq, tfCeLayL, f0, f3, f4, f5, f6, gP, Int.reduceBEq]; try simp only [Ex.fold, Ex.foldcs, ← Va.pv.eq_1]) | (refine aExit ?_; simp only [slx, ↓reduceIte, Nat.reduceEqDiff, reduceCtorEq]) | (refine aRet ?_; try simp only [slx, ↓reduceIte, Nat.reduceEqDiff, reduceCtorEq]) | (refine hX _ _ ?_; clear hX X) | (clear hX X; refine hX _ _ ?_; clear hX X) | (clear hX X; clear hX X; refine hX _ _ ?_; clear hX X) | (intro hlen; unfold maxLen at hlen) | (apply And.intro; (focus (first | omega | assumption | (repeat' apply And.intro) <;> first | omega | assumption)))))
    simp only [aPost, Try.results3, aRes_n, aRes_t, aRes_c, pack_one, pack_two]
    exact leave_M0 rfl rfl
  | true =>
    have hk8 : k < 8 := by simp at c2; omega
    have hme1 : numOf (f 6) = k := by rw [f6]; exact Int.toNat_natCast k
    have hik : IntKind.i64.wrap ((k : Int) + 1) = ((k + 1 : Nat) : Int) := by rw [wrap64 (by omega)]; omega
    (repeat (first | (refine aSeq (fun X hX => ?_)) | (refine aBlk ?_) | (refine aSkip ?_) | ((first | refine aReg ?_ | refine aDrw (fun m2 => m2 = _) (by kernel_rfl) rfl ?_); simp -implicitDefEqProofs only [forall_eq, ↓slp, slb, ↓reduceIte, reduceCtorEq, Nat.reduceEqDiff, Nat.reduceAdd, Nat.reduceMul, Nat.reduceLT, Nat.reduceLeDiff, Nat.reduceBEq, Nat.reduceBNe, Int.reduceLE, Int.reduceLT, Int.reduceToNat, Int.reduceEq, tfCeLayL, f0, f3, f4, f5, f6, c2]; try simp only [Ex.fold, Ex.foldcs, ← Va.pv.eq_1]) | (refine aExit ?_; simp only [slx, ↓reduceIte, Nat.reduceEqDiff, reduceCtorEq]) | (refine aRet ?_; try simp only [slx, ↓reduceIte, Nat.reduceEqDiff, reduceCtorEq]) | (refine hX _ _ ?_; clear hX X) | (clear hX X; refine hX _ _ ?_; clear hX X) | (clear hX X; clear hX X; refine hX _ _ ?_; clear hX X) | (intro hlen; unfold maxLen at hlen) | (apply And.intro; (focus (first | omega | assumption | (repeat' apply And.intro) <;> first | omega | assumption)))))
    refine aIf ?_; simp -implicitDefEqProofs only [↓slp, slb, ↓reduceIte, reduceCtorEq, Nat.reduceEqDiff, Nat.reduceAdd, Nat.reduceMul, Nat.reduceLT, Nat.reduceLeDiff, Nat.reduceBEq, Nat.reduceBNe, Int.reduceLE, Int.reduceLT, Int.reduceToNat, Int.reduceEq]
    (repeat (first | (refine aSeq (fun X hX => ?_)) | (refine aBlk ?_) | (refine aSkip ?_) | ((first | refine aReg ?_ | refine aDrw (fun m2 => m2 = _) (by kernel_rfl) rfl ?_); simp -implicitDefEqProofs only [forall_eq, ↓slp, slb, ↓reduceIte, reduceCtorEq, Nat.reduceEqDiff, Nat.reduceAdd, Nat.reduceMul, Nat.reduceLT, Nat.reduceLeDiff, Nat.reduceBEq, Nat.reduceBNe, Int.reduceLE, Int.reduceLT, Int.reduceToNat, Int.reduceEq, tfCeLayL, f0, f3, f4, f5, f6]; try simp only [Ex.fold, Ex.foldcs, ← Va.pv.eq_1]) | (refine aExit ?_; simp only [slx, ↓reduceIte, Nat.reduceEqDiff, reduceCtorEq]) | (refine aRet ?_; try simp only [slx, ↓reduceIte, Nat.reduceEqDiff, reduceCtorEq]) | (refine hX _ _ ?_; clear hX X) | (clear hX X; refine hX _ _ ?_; clear hX X) | (clear hX X; clear hX X; refine hX _ _ ?_; clear hX X) | (intro hlen; unfold maxLen at hlen) | (apply And.intro; (focus (first | omega | assumption | (repeat' apply And.intro) <;> first | omega | assumption)))))
    refine callE (letterC_any k (by omega) _) ?_
    have hz : (strOf [((97 + k : Nat) : Int)]).size = 1 := rfl
    have hz2 : (⟨#[115]⟩ : ByteArray).size = 1 := rfl
    simp -implicitDefEqProofs only [↓slp, slb, ↓reduceIte, reduceCtorEq, Nat.reduceEqDiff, Nat.reduceAdd, Nat.reduceMul, Nat.reduceLT, Nat.reduceLeDiff, Nat.reduceBEq, Nat.reduceBNe, Int.reduceLE, Int.reduceLT, Int.reduceToNat, Int.reduceEq, tfCeLayL, f0, f3, f4, f5, f6, pS]; try simp only [Ex.fold, Ex.foldcs, ← Va.pv.eq_1]
    refine ⟨by omega, ?_⟩
    (repeat (first | (refine aSeq (fun X hX => ?_)) | (refine aBlk ?_) | (refine aSkip ?_) | ((first | refine aReg ?_ | refine aDrw (fun m2 => m2 = _) (by kernel_rfl) rfl ?_); simp -implicitDefEqProofs only [forall_eq, ↓slp, slb, ↓reduceIte, reduceCtorEq, Nat.reduceEqDiff, Nat.reduceAdd, Nat.reduceMul, Nat.reduceLT, Nat.reduceLeDiff, Nat.reduceBEq, Nat.reduceBNe, Int.reduceLE, Int.reduceLT, Int.reduceToNat, Int.reduceEq, tfCeLayL, f0, f3, f4, f5, f6, hA]; try simp only [Ex.fold, Ex.foldcs, ← Va.pv.eq_1]) | (refine aExit ?_; simp only [slx, ↓reduceIte, Nat.reduceEqDiff, reduceCtorEq]) | (refine aRet ?_; try simp only [slx, ↓reduceIte, Nat.reduceEqDiff, reduceCtorEq]) | (refine hX _ _ ?_; clear hX X) | (clear hX X; refine hX _ _ ?_; clear hX X) | (clear hX X; clear hX X; refine hX _ _ ?_; clear hX X) | (intro hlen; unfold maxLen at hlen) | (apply And.intro; (focus (first | omega | assumption | (repeat' apply And.intro) <;> first | omega | assumption)))))
    refine callM (nextC_any p _ (hokm.ext _) i) ?_
    rintro v m' ⟨r, i1, rfl, hr, rfl⟩
    obtain ⟨n, hn, hn5⟩ := tmod_nat hr.1 5 (by omega)
    have hn' : r.tmod 5 = (n : Int) := hn
    simp -implicitDefEqProofs only [↓slp, slb, ↓reduceIte, reduceCtorEq, Nat.reduceEqDiff, Nat.reduceAdd, Nat.reduceMul, Nat.reduceLT, Nat.reduceLeDiff, Nat.reduceBEq, Nat.reduceBNe, Int.reduceLE, Int.reduceLT, Int.reduceToNat, Int.reduceEq, tfCeLayL, f0, f3, f4, f5, f6, hA, hn']; try simp only [Ex.fold, Ex.foldcs, ← Va.pv.eq_1]
    (repeat (first | (refine aSeq (fun X hX => ?_)) | (refine aBlk ?_) | (refine aSkip ?_) | ((first | refine aReg ?_ | refine aDrw (fun m2 => m2 = _) (by kernel_rfl) rfl ?_); simp -implicitDefEqProofs only [forall_eq, ↓slp, slb, ↓reduceIte, reduceCtorEq, Nat.reduceEqDiff, Nat.reduceAdd, Nat.reduceMul, Nat.reduceLT, Nat.reduceLeDiff, Nat.reduceBEq, Nat.reduceBNe, Int.reduceLE, Int.reduceLT, Int.reduceToNat, Int.reduceEq, tfCeLayL, f0, f3, f4, f5, f6, hA, hn']; try simp only [Ex.fold, Ex.foldcs, ← Va.pv.eq_1]) | (refine aExit ?_; simp only [slx, ↓reduceIte, Nat.reduceEqDiff, reduceCtorEq]) | (refine aRet ?_; try simp only [slx, ↓reduceIte, Nat.reduceEqDiff, reduceCtorEq]) | (refine hX _ _ ?_; clear hX X) | (clear hX X; refine hX _ _ ?_; clear hX X) | (clear hX X; clear hX X; refine hX _ _ ?_; clear hX X) | (intro hlen; unfold maxLen at hlen) | (apply And.intro; (focus (first | omega | assumption | (repeat' apply And.intro) <;> first | omega | assumption)))))
    have hkZ : Z.length = k := by rw [hR.len, hS]
    obtain ⟨I2, hI2⟩ : ∃ I2 : F → M → Prop, ∀ g m2, I2 g m2 = (∃ (q i2 : Nat) (FF : List Pa) (cs : List Int) (oF oO : Own) (mb : M), q ≤ n ∧ FieldsR Z FF cs ∧ FF.length = q ∧ g 0 = .sl .no (p.l.map pU) ∧ g 3 = .bp 0 0 ∧ g 4 = .sl oZ (Z.map pI) ∧ g 5 = .bp p.a 0 ∧ g 6 = .v (.int .i64 k) ∧ g 7 = .bp mm.nb 0 ∧ g 8 = .v (.int .i64 n) ∧ g 9 = .v (.int .i64 cs.sum) ∧ g 10 = .sl oO (((List.range q).map fun t => (cs.take t).sum).map pI) ∧ g 11 = .v (.int .i64 q) ∧ m2 = cst p mb i2 ∧
      mm.nb < mb.nb ∧ mb.get 0 = some [.sl oS (S.map Sr.pv), .sl .full []] ∧ mb.get mm.nb = some [.v (.string (nmS k)), .sl oF (FF.map Pa.pv)] ∧ oS.free mb 2 ∧ oZ.free mb 1 ∧ oF.free mb 2 ∧ oO.free mb 1 ∧ (∀ t, oS = .tok t → oZ ≠ .tok t) ∧ (∀ t, oF = .tok t → oS ≠ .tok t ∧ oZ ≠ .tok t ∧ oO ≠ .tok t) ∧ (∀ t, oO = .tok t → oS ≠ .tok t ∧ oZ ≠ .tok t ∧ oF ≠ .tok t)) := ⟨_, fun _ _ => rfl⟩
    refine aLoop I2 (fun f m => n - numOf (f 11)) ?_ ?_
    · rw [hI2]
      refine ⟨0, i1, [], [], .full, .full, mm.ext [some [.v (.string (nmS k)), .sl .full []]], by omega, fields_nil Z, rfl, f0, f3, f4, f5, f6, rfl, rfl, rfl, rfl, rfl, rfl, by rw [ext_nb]; simp, ?_, ?_, by rw [free_ext]; exact hfS, by rw [free_ext]; exact hfZ, trivial, trivial, hne, (fun t h => by cases h), (fun t h => by cases h)⟩
      · rw [ext_old' (by omega)]; exact hg0
      · exact ext_get (i := 0) rfl
    intro g m2 hrel
    rw [hI2] at hrel
    obtain ⟨q, i2, FF, cs, oF, oO, mb, hq, hFF, hFq, g0, g3, g4, g5, g6, g7, g8, g9, g10, g11, rfl, hnb2, hb0, hbs, hfS2, hfZ2, hfF, hfO, d1, d2, d3⟩ := hrel
    have hokb : p.ok mb := ⟨by rw [hpa]; omega, ha60, ha⟩
    have hB := hokb.a
    cases c3 : decide ((q : Int) < (n : Int)) with
    | false =>
      obtain rfl : q = n := by simp at c3; omega
      (repeat (first | (refine aSeq (fun X hX => ?_)) | (refine aBlk ?_) | (refine aSkip ?_) | ((first | refine aReg ?_ | refine aDrw (fun m2 => m2 = _) (by kernel_rfl) rfl ?_); simp -implicitDefEqProofs only [forall_eq, ↓slp, slb, ↓reduceIte, reduceCtorEq, Nat.reduceEqDiff, Nat.reduceAdd, Nat.reduceMul, Nat.reduceLT, Nat.reduceLeDiff, Nat.reduceBEq, Nat.reduceBNe, Int.reduceLE, Int.reduceLT, Int.reduceToNat, Int.reduceEq, tfCeLayL, g0, g3, g4, g5, g6, g7, g8, g9, g10, g11, c3]; try simp only [Ex.fold, Ex.foldcs, ← Va.pv.eq_1]) | (refine aExit ?_; simp only [slx, ↓reduceIte, Nat.reduceEqDiff, reduceCtorEq]) | (refine aRet ?_; try simp only [slx, ↓reduceIte, Nat.reduceEqDiff, reduceCtorEq]) | (refine hX _ _ ?_; clear hX X) | (clear hX X; refine hX _ _ ?_; clear hX X) | (clear hX X; clear hX X; refine hX _ _ ?_; clear hX X) | (intro hlen; unfold maxLen at hlen) | (apply And.intro; (focus (first | omega | assumption | (repeat' apply And.intro) <;> first | omega | assumption)))))
      refine aIf ?_; simp -implicitDefEqProofs only [↓slp, slb, ↓reduceIte, reduceCtorEq, Nat.reduceEqDiff, Nat.reduceAdd, Nat.reduceMul, Nat.reduceLT, Nat.reduceLeDiff, Nat.reduceBEq, Nat.reduceBNe, Int.reduceLE, Int.reduceLT, Int.reduceToNat, Int.reduceEq]
      (repeat (first | (refine aSeq (fun X hX => ?_)) | (refine aBlk ?_) | (refine aSkip ?_) | (refine aExit ?_; simp only [slx, ↓reduceIte, Nat.reduceEqDiff, reduceCtorEq]) | (refine aRet ?_; try simp only [slx, ↓reduceIte, Nat.reduceEqDiff, reduceCtorEq]) | (refine hX _ _ ?_; clear hX X) | (clear hX X; refine hX _ _ ?_; clear hX X)))
      have hs1 : mm.nb ≠ p.a := by omega
      refine aRegS (id := mm.nb) (Sr.pv ⟨nmS k, FF⟩) ((cst_old hs1).trans hbs) rfl rfl ?_
      intro f' hf
      have k0 : f' 0 = .sl .no (p.l.map pU) := (hf 0).trans ((congrArg (PV.frz mm.nb _) g0).trans rfl)
      have k3 : f' 3 = .bp 0 0 := (hf 3).trans ((congrArg (PV.frz mm.nb _) g3).trans (if_neg (by omega)))
      have k4 : f' 4 = .sl oZ (Z.map pI) := (hf 4).trans ((congrArg (PV.frz mm.nb _) g4).trans rfl)
      have k5 : f' 5 = .bp p.a 0 := (hf 5).trans ((congrArg (PV.frz mm.nb _) g5).trans (if_neg (by omega)))
      have k6 : f' 6 = .v (.int .i64 k) := (hf 6).trans ((congrArg (PV.frz mm.nb _) g6).trans rfl)
      have k7 : f' 7 = .ep [.v (.string (nmS k)), .sl .no (FF.map Pa.pv)] := (hf 7).trans ((congrArg (PV.frz mm.nb _) g7).trans (if_pos rfl))
      have k8 : f' 8 = .v (.int .i64 q) := (hf 8).trans ((congrArg (PV.frz mm.nb _) g8).trans rfl)
      have k9 : f' 9 = .v (.int .i64 cs.sum) := (hf 9).trans ((congrArg (PV.frz mm.nb _) g9).trans rfl)
      have k10 : f' 10 = .sl oO (((List.range q).map fun t => (cs.take t).sum).map pI) := (hf 10).trans ((congrArg (PV.frz mm.nb _) g10).trans rfl)
      clear hf g0 g3 g4 g5 g6 g7 g8 g9 g10 g11
      rw [cst_drop hs1]
      have m0 : (mb.drop1 mm.nb).get 0 = some [.sl oS (S.map Sr.pv), .sl .full []] := by rw [drop1_get, if_neg (by omega)]; exact hb0
      have mS : oS.free (mb.drop1 mm.nb) 2 := by rw [free_drop]; exact hfS2
      have mZ : oZ.free (mb.drop1 mm.nb) 1 := by rw [free_drop]; exact hfZ2
      have mn : 2 ≤ (mb.drop1 mm.nb).nb := by rw [drop1_nb]; omega
      clear hb0 hbs hfS2 hfZ2 hfF hfO
      generalize mb.drop1 mm.nb = md at *
      have h0a : (0 : Nat) ≠ p.a := by omega
      have gP : ∀ i, (cst p md i).get 0 = some [.sl oS (S.map Sr.pv), .sl .full []] := fun _ => (cst_old h0a).trans m0
      have gP2 : ∀ i, (cst p ((oS.use md).fresh 2) i).get 0 = some [.sl oS (S.map Sr.pv), .sl .full []] := fun _ => (cst_old h0a).trans (by rw [fresh_get, use_get]; exact m0)
      have uP : ∀ i c, (cst p ((oS.use md).fresh 2) i).upd 0 c = cst p (((oS.use md).fresh 2).upd 0 c) i := fun _ _ => cst_updO h0a
      have w1 : ∀ x ∈ S.map Sr.pv, x.cells.length = 2 := fun x hx => by
        obtain ⟨y, _, rfl⟩ := List.mem_map.1 hx
        rfl
      have w2 : ∀ x ∈ Z.map pI, x.cells.length = 1 := fun x hx => by
        obtain ⟨y, _, rfl⟩ := List.mem_map.1 hx
        rfl
      simp -implicitDefEqProofs only [↓slp, slb, ↓reduceIte, reduceCtorEq, Nat.reduceEqDiff, Nat.reduceAdd, Nat.reduceMul, Nat.reduceLT, Nat.reduceLeDiff, Nat.reduceBEq, Nat.reduceBNe, Int.reduceLE, Int.reduceLT, Int.reduceToNat, Int.reduceEq, tfCeLayL, k0, k3, k4, k5, k6, k7, k8, k9, k10, gP, gP2, uP]; try simp only [Ex.fold, Ex.foldcs, ← Va.pv.eq_1]
      refine ⟨⟨mS, w1, by unfold maxLen; omega, by omega⟩, ?_⟩
      have eP : S.map Sr.pv ++ [PV.ag [PV.v (.string (nmS k)), PV.sl .no (FF.map Pa.pv)]] = (S ++ [(⟨nmS k, FF⟩ : Sr)]).map Sr.pv := by rw [List.map_append]; rfl
      rw [eP]
      have hR' := structs_snoc hR (by omega) hFF
      rw [hS] at hR'
      have hS'len : (S ++ [(⟨nmS k, FF⟩ : Sr)]).length = k + 1 := by simp [hS]
      have hS'q : (S ++ [(⟨nmS k, FF⟩ : Sr)])[k]? = some ⟨nmS k, FF⟩ := by simp [← hS]
      have hZ'k : (Z ++ [cs.sum])[k]'(by simp; omega) = cs.sum := by simp [← hkZ]
      have hfl : FieldsR ((Z ++ [cs.sum]).take k) FF cs := by rw [List.take_append_of_le_length (by omega), List.take_of_length_le (by omega)]; exact hFF
      generalize S ++ [(⟨nmS k, FF⟩ : Sr)] = S' at *
      have q0 : (((oS.use md).fresh 2).upd 0 [PV.sl (Own.tok md.nt) (S'.map Sr.pv), PV.sl Own.full []]).get 0 = some [PV.sl (Own.tok md.nt) (S'.map Sr.pv), PV.sl Own.full []] := by
        rw [M.get_upd, if_pos ⟨rfl, by rw [fresh_nb, use_nb]; omega⟩]
      have qS : (Own.tok md.nt).free (((oS.use md).fresh 2).upd 0 [PV.sl (Own.tok md.nt) (S'.map Sr.pv), PV.sl Own.full []]) 2 := by rw [free_upd]; exact free_new md oS 2
      have qZ : oZ.free (((oS.use md).fresh 2).upd 0 [PV.sl (Own.tok md.nt) (S'.map Sr.pv), PV.sl Own.full []]) 1 := by rw [free_upd]; exact free_other mZ (fun t h => d1 t h)
      have qn : 2 ≤ (((oS.use md).fresh 2).upd 0 [PV.sl (Own.tok md.nt) (S'.map Sr.pv), PV.sl Own.full []]).nb := by rw [upd_nb, fresh_nb, use_nb]; exact mn
      generalize ((oS.use md).fresh 2).upd 0 [PV.sl (Own.tok md.nt) (S'.map Sr.pv), PV.sl Own.full []] = mp at *
      have dZ : ∀ t, oZ = .tok t → Own.tok md.nt ≠ .tok t := fun t h h' => free_ne mZ (h.trans h'.symm)
      generalize Own.tok md.nt = oS' at *
      obtain ⟨hkS', hS'k⟩ := List.getElem?_eq_some_iff.1 hS'q
      have hsz : sizeF S' S'.length (nmS k) = cs.sum := (size_nm hR' k S'.length (by omega) (by omega)).trans hZ'k
      have hfd : findS S' (nmS k) = k := find_nm hR' k (by omega)
      have cSize : ∀ m, ACalls Try.prog 11 [.ag [.sl oS' (S'.map Sr.pv), .sl .full []], .v (.string (nmS k))] m (fun v m' => v = .v (.int .i64 cs.sum) ∧ m' = m) := fun m => by
        have := sizeT_any oS' .full S' [] (by omega) (nmS k) m
        rw [hsz] at this
        exact this
      have cFind : ∀ m, ACalls Try.prog 12 [.ag [.sl oS' (S'.map Sr.pv), .sl .full []], .v (.string (nmS k))] m (fun v m' => v = .v (.int .i64 k) ∧ m' = m) := fun m => by
        have := find_any oS' .full S' [] (nmS k) m
        rw [hfd] at this
        exact this
      have h0a' : (0 : Nat) ≠ p.a := by omega
      have gQ : ∀ i, (cst p ((oZ.use mp).fresh 1) i).get 0 = some [PV.sl oS' (S'.map Sr.pv), PV.sl Own.full []] := fun _ => (cst_old h0a').trans (by rw [fresh_get, use_get]; exact q0)
      have n1 : ((cs.sum : Int) != cs.sum) = false := by simp
      have n2 : ((k : Int) != (k : Int)) = false := by simp
      refine hX _ _ ?_; clear hX X
      (repeat (first | (refine aSeq (fun X hX => ?_)) | (refine aBlk ?_) | (refine aSkip ?_) | ((first | refine aReg ?_ | refine aDrw (fun m2 => m2 = _) (by kernel_rfl) rfl ?_); simp -implicitDefEqProofs only [forall_eq, ↓slp, slb, ↓reduceIte, reduceCtorEq, Nat.reduceEqDiff, Nat.reduceAdd, Nat.reduceMul, Nat.reduceLT, Nat.reduceLeDiff, Nat.reduceBEq, Nat.reduceBNe, Int.reduceLE, Int.reduceLT, Int.reduceToNat, Int.reduceEq, tfCeLayL, k0, k3, k4, k5, k6, k7, k8, k9, k10]; try simp only [Ex.fold, Ex.foldcs, ← Va.pv.eq_1]) | (refine aExit ?_; simp only [slx, ↓reduceIte, Nat.reduceEqDiff, reduceCtorEq]) | (refine aRet ?_; try simp only [slx, ↓reduceIte, Nat.reduceEqDiff, reduceCtorEq]) | (refine hX _ _ ?_; clear hX X) | (clear hX X; refine hX _ _ ?_; clear hX X) | (clear hX X; clear hX X; refine hX _ _ ?_; clear hX X) | (intro hlen; unfold maxLen at hlen) | (apply And.intro; (focus (first | omega | assumption | (repeat' apply And.intro) <;> first | omega | assumption)))))
      refine ⟨⟨qZ, w2, by unfold maxLen; omega, by omega⟩, ?_⟩
      (repeat (first | (refine aSeq (fun X hX => ?_)) | (refine aBlk ?_) | (refine aSkip ?_) | ((first | refine aReg ?_ | refine aDrw (fun m2 => m2 = _) (by kernel_rfl) rfl ?_); simp -implicitDefEqProofs only [forall_eq, ↓slp, slb, ↓reduceIte, reduceCtorEq, Nat.reduceEqDiff, Nat.reduceAdd, Nat.reduceMul, Nat.reduceLT, Nat.reduceLeDiff, Nat.reduceBEq, Nat.reduceBNe, Int.reduceLE, Int.reduceLT, Int.reduceToNat, Int.reduceEq, tfCeLayL, k0, k3, k4, k5, k6, k7, k8, k9, k10, gQ]; try simp only [Ex.fold, Ex.foldcs, ← Va.pv.eq_1]) | (refine aExit ?_; simp only [slx, ↓reduceIte, Nat.reduceEqDiff, reduceCtorEq]) | (refine aRet ?_; try simp only [slx, ↓reduceIte, Nat.reduceEqDiff, reduceCtorEq]) | (refine hX _ _ ?_; clear hX X) | (clear hX X; refine hX _ _ ?_; clear hX X) | (clear hX X; clear hX X; refine hX _ _ ?_; clear hX X) | (intro hlen; unfold maxLen at hlen) | (apply And.intro; (focus (first | omega | assumption | (repeat' apply And.intro) <;> first | omega | assumption)))))
      refine callE (cSize _) ?_
      simp -implicitDefEqProofs only [↓slp, slb, ↓reduceIte, reduceCtorEq, Nat.reduceEqDiff, Nat.reduceAdd, Nat.reduceMul, Nat.reduceLT, Nat.reduceLeDiff, Nat.reduceBEq, Nat.reduceBNe, Int.reduceLE, Int.reduceLT, Int.reduceToNat, Int.reduceEq, tfCeLayL, k0, k3, k4, k5, k6, k7, k8, k9, k10, gQ, n1]; try simp only [Ex.fold, Ex.foldcs, ← Va.pv.eq_1]
      refine callE (cFind _) ?_
      simp -implicitDefEqProofs only [↓slp, slb, ↓reduceIte, reduceCtorEq, Nat.reduceEqDiff, Nat.reduceAdd, Nat.reduceMul, Nat.reduceLT, Nat.reduceLeDiff, Nat.reduceBEq, Nat.reduceBNe, Int.reduceLE, Int.reduceLT, Int.reduceToNat, Int.reduceEq, tfCeLayL, k0, k3, k4, k5, k6, k7, k8, k9, k10, gQ, n1, n2]; try simp only [Ex.fold, Ex.foldcs, ← Va.pv.eq_1]
      (repeat (first | (refine aSeq (fun X hX => ?_)) | (refine aBlk ?_) | (refine aSkip ?_) | ((first | refine aReg ?_ | refine aDrw (fun m2 => m2 = _) (by kernel_rfl) rfl ?_); simp -implicitDefEqProofs only [forall_eq, ↓slp, slb, ↓reduceIte, reduceCtorEq, Nat.reduceEqDiff, Nat.reduceAdd, Nat.reduceMul, Nat.reduceLT, Nat.reduceLeDiff, Nat.reduceBEq, Nat.reduceBNe, Int.reduceLE, Int.reduceLT, Int.reduceToNat, Int.reduceEq, tfCeLayL, k0, k3, k4, k5, k6, k7, k8, k9, k10, gQ, n1, n2]; try simp only [Ex.fold, Ex.foldcs, ← Va.pv.eq_1]) | (refine aExit ?_; simp only [slx, ↓reduceIte, Nat.reduceEqDiff, reduceCtorEq]) | (refine aRet ?_; try simp only [slx, ↓reduceIte, Nat.reduceEqDiff, reduceCtorEq]) | (refine hX _ _ ?_; clear hX X) | (clear hX X; refine hX _ _ ?_; clear hX X) | (clear hX X; clear hX X; refine hX _ _ ?_; clear hX X) | (intro hlen; unfold maxLen at hlen) | (apply And.intro; (focus (first | omega | assumption | (repeat' apply And.intro) <;> first | omega | assumption)))))
      refine aIf ?_; simp -implicitDefEqProofs only [↓slp, slb, ↓reduceIte, reduceCtorEq, Nat.reduceEqDiff, Nat.reduceAdd, Nat.reduceMul, Nat.reduceLT, Nat.reduceLeDiff, Nat.reduceBEq, Nat.reduceBNe, Int.reduceLE, Int.reduceLT, Int.reduceToNat, Int.reduceEq]
      (repeat (first | (refine aSeq (fun X hX => ?_)) | (refine aBlk ?_) | (refine aSkip ?_) | ((first | refine aReg ?_ | refine aDrw (fun m2 => m2 = _) (by kernel_rfl) rfl ?_); simp -implicitDefEqProofs only [forall_eq, ↓slp, slb, ↓reduceIte, reduceCtorEq, Nat.reduceEqDiff, Nat.reduceAdd, Nat.reduceMul, Nat.reduceLT, Nat.reduceLeDiff, Nat.reduceBEq, Nat.reduceBNe, Int.reduceLE, Int.reduceLT, Int.reduceToNat, Int.reduceEq, tfCeLayL, k0, k3, k4, k5, k6, k7, k8, k9, k10, gQ]; try simp only [Ex.fold, Ex.foldcs, ← Va.pv.eq_1]) | (refine aExit ?_; simp only [slx, ↓reduceIte, Nat.reduceEqDiff, reduceCtorEq]) | (refine aRet ?_; try simp only [slx, ↓reduceIte, Nat.reduceEqDiff, reduceCtorEq]) | (refine hX _ _ ?_; clear hX X) | (clear hX X; refine hX _ _ ?_; clear hX X) | (clear hX X; clear hX X; refine hX _ _ ?_; clear hX X) | (intro hlen; unfold maxLen at hlen) | (apply And.intro; (focus (first | omega | assumption | (repeat' apply And.intro) <;> first | omega | assumption)))))
      have hfs : ∀ s ∈ S', s.fields.length ≤ 1000000 := fun s hs => by
        obtain ⟨j, hj, rfl⟩ := List.mem_iff_getElem.1 hs
        obtain ⟨_, h1, _⟩ := hR'.flds j hj
        have := h1.four
        omega
      have hcl : cs.length = q := hFF.len.trans hFq
      have hfl' : FieldsR ((Z ++ [cs.sum]).take k) S'[k].fields cs := by rw [hS'k]; exact hfl
      have cOff : ∀ t (ht : t < FF.length) m, ACalls Try.prog 13 [.ag [.sl oS' (S'.map Sr.pv), .sl .full []], .v (.string (nmS k)), .v (.string FF[t].name)] m (fun v m' => v = .tp [.v (.int .i64 (cs.take t).sum), .v (.string FF[t].str)] ∧ m' = m) := fun t ht m => by
        have := offset_any oS' .full S' [] (by omega) hfs (nmS k) FF[t].name m
        rw [hFF.name t ht, off_nm hR' hkS' hfl' t (by rw [hS'k]; exact ht)] at this
        simp only [hS'k] at this
        rw [hFF.name t ht]
        exact this
      have cNo : ∀ m, ACalls Try.prog 13 [.ag [.sl oS' (S'.map Sr.pv), .sl .full []], .v (.string (nmS k)), .v (.string ⟨#[110, 111]⟩)] m (fun v m' => v = .tp [.v (.int .i64 (-1)), .v (.string ⟨#[]⟩)] ∧ m' = m) := fun m => by
        have := offset_any oS' .full S' [] (by omega) hfs (nmS k) ⟨#[110, 111]⟩ m
        rw [off_no hR' hkS' hfl'] at this
        exact this
      obtain ⟨I3, hI3⟩ : ∃ I3 : F → M → Prop, ∀ g m3, I3 g m3 = (∃ t : Nat, t ≤ q ∧ g 0 = .sl .no (p.l.map pU) ∧ g 3 = .bp 0 0 ∧ g 4 = .sl (.tok mp.nt) (Z.map pI ++ [.v (.int .i64 cs.sum)]) ∧ g 5 = .bp p.a 0 ∧ g 6 = .v (.int .i64 k) ∧ g 7 = .ep [.v (.string (nmS k)), .sl .no (FF.map Pa.pv)] ∧ g 8 = .v (.int .i64 q) ∧ g 10 = .sl oO (((List.range q).map fun t => (cs.take t).sum).map pI) ∧ g 15 = .v (.int .i64 t) ∧ m3 = cst p ((oZ.use mp).fresh 1) i2) := ⟨_, fun _ _ => rfl⟩
      refine aLoop I3 (fun f m => q - numOf (f 15)) ?_ ?_
      · rw [hI3]; exact ⟨0, by omega, k0, k3, rfl, k5, k6, k7, k8, k10, rfl, rfl⟩
      intro g m3 hrel
      rw [hI3] at hrel
      obtain ⟨t, ht, g0, g3, g4, g5, g6, g7, g8, g10, g15, rfl⟩ := hrel
      clear k0 k3 k4 k5 k6 k7 k8 k9 k10
      cases c7 : decide ((t : Int) < (q : Int)) with
      | false =>
        obtain rfl : t = q := by simp at c7; omega
        (repeat (first | (refine aSeq (fun X hX => ?_)) | (refine aBlk ?_) | (refine aSkip ?_) | ((first | refine aReg ?_ | refine aDrw (fun m2 => m2 = _) (by kernel_rfl) rfl ?_); simp -implicitDefEqProofs only [forall_eq, ↓slp, slb, ↓reduceIte, reduceCtorEq, Nat.reduceEqDiff, Nat.reduceAdd, Nat.reduceMul, Nat.reduceLT, Nat.reduceLeDiff, Nat.reduceBEq, Nat.reduceBNe, Int.reduceLE, Int.reduceLT, Int.reduceToNat, Int.reduceEq, tfCeLayL, g0, g3, g4, g5, g6, g7, g8, g10, g15, c7, gQ]; try simp only [Ex.fold, Ex.foldcs, ← Va.pv.eq_1]) | (refine aExit ?_; simp only [slx, ↓reduceIte, Nat.reduceEqDiff, reduceCtorEq]) | (refine aRet ?_; try simp only [slx, ↓reduceIte, Nat.reduceEqDiff, reduceCtorEq]) | (refine hX _ _ ?_; clear hX X) | (clear hX X; refine hX _ _ ?_; clear hX X) | (clear hX X; clear hX X; refine hX _ _ ?_; clear hX X) | (intro hlen; unfold maxLen at hlen) | (apply And.intro; (focus (first | omega | assumption | (repeat' apply And.intro) <;> first | omega | assumption)))))
        refine aIf ?_; simp -implicitDefEqProofs only [↓slp, slb, ↓reduceIte, reduceCtorEq, Nat.reduceEqDiff, Nat.reduceAdd, Nat.reduceMul, Nat.reduceLT, Nat.reduceLeDiff, Nat.reduceBEq, Nat.reduceBNe, Int.reduceLE, Int.reduceLT, Int.reduceToNat, Int.reduceEq]
        (repeat (first | (refine aSeq (fun X hX => ?_)) | (refine aBlk ?_) | (refine aSkip ?_) | ((first | refine aReg ?_ | refine aDrw (fun m2 => m2 = _) (by kernel_rfl) rfl ?_); simp -implicitDefEqProofs only [forall_eq, ↓slp, slb, ↓reduceIte, reduceCtorEq, Nat.reduceEqDiff, Nat.reduceAdd, Nat.reduceMul, Nat.reduceLT, Nat.reduceLeDiff, Nat.reduceBEq, Nat.reduceBNe, Int.reduceLE, Int.reduceLT, Int.reduceToNat, Int.reduceEq, tfCeLayL, g0, g3, g4, g5, g6, g7, g8, g10, g15, gQ]; try simp only [Ex.fold, Ex.foldcs, ← Va.pv.eq_1]) | (refine aExit ?_; simp only [slx, ↓reduceIte, Nat.reduceEqDiff, reduceCtorEq]) | (refine aRet ?_; try simp only [slx, ↓reduceIte, Nat.reduceEqDiff, reduceCtorEq]) | (refine hX _ _ ?_; clear hX X) | (clear hX X; refine hX _ _ ?_; clear hX X) | (clear hX X; clear hX X; refine hX _ _ ?_; clear hX X) | (intro hlen; unfold maxLen at hlen) | (apply And.intro; (focus (first | omega | assumption | (repeat' apply And.intro) <;> first | omega | assumption)))))
        refine callE (cNo _) ?_
        simp -implicitDefEqProofs only [↓slp, slb, ↓reduceIte, reduceCtorEq, Nat.reduceEqDiff, Nat.reduceAdd, Nat.reduceMul, Nat.reduceLT, Nat.reduceLeDiff, Nat.reduceBEq, Nat.reduceBNe, Int.reduceLE, Int.reduceLT, Int.reduceToNat, Int.reduceEq, tfCeLayL, g0, g3, g4, g5, g6, g7, g8, g10, g15, gQ, Int.reduceBEq]; try simp only [Ex.fold, Ex.foldcs, ← Va.pv.eq_1]
        (repeat (first | (refine aSeq (fun X hX => ?_)) | (refine aBlk ?_) | (refine aSkip ?_) | ((first | refine aReg ?_ | refine aDrw (fun m2 => m2 = _) (by kernel_rfl) rfl ?_); simp -implicitDefEqProofs only [forall_eq, ↓slp, slb, ↓reduceIte, reduceCtorEq, Nat.reduceEqDiff, Nat.reduceAdd, Nat.reduceMul, Nat.reduceLT, Nat.reduceLeDiff, Nat.reduceBEq, Nat.reduceBNe, Int.reduceLE, Int.reduceLT, Int.reduceToNat, Int.reduceEq, tfCeLayL, g0, g3, g4, g5, g6, g7, g8, g10, g15, gQ, Int.reduceBEq]; try simp only [Ex.fold, Ex.foldcs, ← Va.pv.eq_1]) | (refine aExit ?_; simp only [slx, ↓reduceIte, Nat.reduceEqDiff, reduceCtorEq]) | (refine aRet ?_; try simp only [slx, ↓reduceIte, Nat.reduceEqDiff, reduceCtorEq]) | (refine hX _ _ ?_; clear hX X) | (clear hX X; refine hX _ _ ?_; clear hX X) | (clear hX X; clear hX X; refine hX _ _ ?_; clear hX X) | (intro hlen; unfold maxLen at hlen) | (apply And.intro; (focus (first | omega | assumption | (repeat' apply And.intro) <;> first | omega | assumption)))))
        refine aIf ?_; simp -implicitDefEqProofs only [↓slp, slb, ↓reduceIte, reduceCtorEq, Nat.reduceEqDiff, Nat.reduceAdd, Nat.reduceMul, Nat.reduceLT, Nat.reduceLeDiff, Nat.reduceBEq, Nat.reduceBNe, Int.reduceLE, Int.reduceLT, Int.reduceToNat, Int.reduceEq]
        (repeat (first | (refine aSeq (fun X hX => ?_)) | (refine aBlk ?_) | (refine aSkip ?_) | ((first | refine aReg ?_ | refine aDrw (fun m2 => m2 = _) (by kernel_rfl) rfl ?_); simp -implicitDefEqProofs only [forall_eq, ↓slp, slb, ↓reduceIte, reduceCtorEq, Nat.reduceEqDiff, Nat.reduceAdd, Nat.reduceMul, Nat.reduceLT, Nat.reduceLeDiff, Nat.reduceBEq, Nat.reduceBNe, Int.reduceLE, Int.reduceLT, Int.reduceToNat, Int.reduceEq, tfCeLayL, g0, g3, g4, g5, g6, g7, g8, g10, g15, gQ, hik]; try simp only [Ex.fold, Ex.foldcs, ← Va.pv.eq_1]) | (refine aExit ?_; simp only [slx, ↓reduceIte, Nat.reduceEqDiff, reduceCtorEq]) | (refine aRet ?_; try simp only [slx, ↓reduceIte, Nat.reduceEqDiff, reduceCtorEq]) | (refine hX _ _ ?_; clear hX X) | (clear hX X; refine hX _ _ ?_; clear hX X) | (clear hX X; clear hX X; refine hX _ _ ?_; clear hX X) | (intro hlen; unfold maxLen at hlen) | (apply And.intro; (focus (first | omega | assumption | (repeat' apply And.intro) <;> first | omega | assumption)))))
        rw [hI]
        refine ⟨⟨k + 1, i2, S', Z ++ [cs.sum], oS', .tok mp.nt, (oZ.use mp).fresh 1, hk8, hR', hS'len, g0, g3, by rw [List.map_append]; exact g4, g5, rfl, rfl, by rw [fresh_nb, use_nb]; exact qn, by rw [fresh_get, use_get]; exact q0, free_other qS dZ, free_new mp oZ 1, fun t h h' => free_ne qS (h.trans h'.symm)⟩, ?_⟩
        rw [hme1]; omega
      | true =>
        have htq : t < q := by simpa using c7
        have htF : t < FF.length := by omega
        have gF := getD_map Pa.pv FF t htF
        have hme3 : numOf (g 15) = t := by rw [g15]; exact Int.toNat_natCast t
        have hi3 : IntKind.i64.wrap ((t : Int) + 1) = ((t + 1 : Nat) : Int) := by rw [wrap64 (by omega)]; omega
        have gO : (((List.range q).map fun t => (cs.take t).sum).map pI).getD t .junk = .v (.int .i64 (cs.take t).sum) := by simp [htq]
        have gOc : (PV.v (.int .i64 (cs.take t).sum)).cells = [.v (.int .i64 (cs.take t).sum)] := rfl
        (repeat (first | (refine aSeq (fun X hX => ?_)) | (refine aBlk ?_) | (refine aSkip ?_) | ((first | refine aReg ?_ | refine aDrw (fun m2 => m2 = _) (by kernel_rfl) rfl ?_); simp -implicitDefEqProofs only [forall_eq, ↓slp, slb, ↓reduceIte, reduceCtorEq, Nat.reduceEqDiff, Nat.reduceAdd, Nat.reduceMul, Nat.reduceLT, Nat.reduceLeDiff, Nat.reduceBEq, Nat.reduceBNe, Int.reduceLE, Int.reduceLT, Int.reduceToNat, Int.reduceEq, tfCeLayL, g0, g3, g4, g5, g6, g7, g8, g10, g15, c7, gQ]; try simp only [Ex.fold, Ex.foldcs, ← Va.pv.eq_1]) | (refine aExit ?_; simp only [slx, ↓reduceIte, Nat.reduceEqDiff, reduceCtorEq]) | (refine aRet ?_; try simp only [slx, ↓reduceIte, Nat.reduceEqDiff, reduceCtorEq]) | (refine hX _ _ ?_; clear hX X) | (clear hX X; refine hX _ _ ?_; clear hX X) | (clear hX X; clear hX X; refine hX _ _ ?_; clear hX X) | (intro hlen; unfold maxLen at hlen) | (apply And.intro; (focus (first | omega | assumption | (repeat' apply And.intro) <;> first | omega | assumption)))))
        refine aIf ?_; simp -implicitDefEqProofs only [↓slp, slb, ↓reduceIte, reduceCtorEq, Nat.reduceEqDiff, Nat.reduceAdd, Nat.reduceMul, Nat.reduceLT, Nat.reduceLeDiff, Nat.reduceBEq, Nat.reduceBNe, Int.reduceLE, Int.reduceLT, Int.reduceToNat, Int.reduceEq]
        (repeat (first | (refine aSeq (fun X hX => ?_)) | (refine aBlk ?_) | (refine aSkip ?_) | ((first | refine aReg ?_ | refine aDrw (fun m2 => m2 = _) (by kernel_rfl) rfl ?_); simp -implicitDefEqProofs only [forall_eq, ↓slp, slb, ↓reduceIte, reduceCtorEq, Nat.reduceEqDiff, Nat.reduceAdd, Nat.reduceMul, Nat.reduceLT, Nat.reduceLeDiff, Nat.reduceBEq, Nat.reduceBNe, Int.reduceLE, Int.reduceLT, Int.reduceToNat, Int.reduceEq, tfCeLayL, g0, g3, g4, g5, g6, g7, g8, g10, g15, gQ, gF]; try simp only [Ex.fold, Ex.foldcs, ← Va.pv.eq_1]) | (refine aExit ?_; simp only [slx, ↓reduceIte, Nat.reduceEqDiff, reduceCtorEq]) | (refine aRet ?_; try simp only [slx, ↓reduceIte, Nat.reduceEqDiff, reduceCtorEq]) | (refine hX _ _ ?_; clear hX X) | (clear hX X; refine hX _ _ ?_; clear hX X) | (clear hX X; clear hX X; refine hX _ _ ?_; clear hX X) | (intro hlen; unfold maxLen at hlen) | (apply And.intro; (focus (first | omega | assumption | (repeat' apply And.intro) <;> first | omega | assumption)))))
        refine callE (cOff t htF _) ?_
        generalize (cs.take t).sum = off at *
        have e5 : ((off : Int) != off) = false := by simp
        have e6 : (FF[t].str.toList == FF[t].str.toList) = true := by simp
        simp -implicitDefEqProofs only [↓slp, slb, ↓reduceIte, reduceCtorEq, Nat.reduceEqDiff, Nat.reduceAdd, Nat.reduceMul, Nat.reduceLT, Nat.reduceLeDiff, Nat.reduceBEq, Nat.reduceBNe, Int.reduceLE, Int.reduceLT, Int.reduceToNat, Int.reduceEq, tfCeLayL, g0, g3, g4, g5, g6, g7, g8, g10, g15, gQ, gF]; try simp only [Ex.fold, Ex.foldcs, ← Va.pv.eq_1]
        (repeat (first | (refine aSeq (fun X hX => ?_)) | (refine aBlk ?_) | (refine aSkip ?_) | ((first | refine aReg ?_ | refine aDrw (fun m2 => m2 = _) (by kernel_rfl) rfl ?_); simp -implicitDefEqProofs only [forall_eq, ↓slp, slb, ↓reduceIte, reduceCtorEq, Nat.reduceEqDiff, Nat.reduceAdd, Nat.reduceMul, Nat.reduceLT, Nat.reduceLeDiff, Nat.reduceBEq, Nat.reduceBNe, Int.reduceLE, Int.reduceLT, Int.reduceToNat, Int.reduceEq, tfCeLayL, g0, g3, g4, g5, g6, g7, g8, g10, g15, gQ, gF, gO, e5, e6]; try simp only [Ex.fold, Ex.foldcs, ← Va.pv.eq_1]) | (refine aExit ?_; simp only [slx, ↓reduceIte, Nat.reduceEqDiff, reduceCtorEq]) | (refine aRet ?_; try simp only [slx, ↓reduceIte, Nat.reduceEqDiff, reduceCtorEq]) | (refine hX _ _ ?_; clear hX X) | (clear hX X; refine hX _ _ ?_; clear hX X) | (clear hX X; clear hX X; refine hX _ _ ?_; clear hX X) | (intro hlen; unfold maxLen at hlen) | (apply And.intro; (focus (first | omega | assumption | (repeat' apply And.intro) <;> first | omega | assumption)))))
        refine ⟨by simp; exact htq, htF, ?_⟩
        (repeat (first | (refine aSeq (fun X hX => ?_)) | (refine aBlk ?_) | (refine aSkip ?_) | ((first | refine aReg ?_ | refine aDrw (fun m2 => m2 = _) (by kernel_rfl) rfl ?_); simp -implicitDefEqProofs only [forall_eq, ↓slp, slb, ↓reduceIte, reduceCtorEq, Nat.reduceEqDiff, Nat.reduceAdd, Nat.reduceMul, Nat.reduceLT, Nat.reduceLeDiff, Nat.reduceBEq, Nat.reduceBNe, Int.reduceLE, Int.reduceLT, Int.reduceToNat, Int.reduceEq, tfCeLayL, g0, g3, g4, g5, g6, g7, g8, g10, g15, gQ, gF, gO, e5, e6]; try simp only [Ex.fold, Ex.foldcs, ← Va.pv.eq_1]) | (refine aExit ?_; simp only [slx, ↓reduceIte, Nat.reduceEqDiff, reduceCtorEq]) | (refine aRet ?_; try simp only [slx, ↓reduceIte, Nat.reduceEqDiff, reduceCtorEq]) | (refine hX _ _ ?_; clear hX X) | (clear hX X; refine hX _ _ ?_; clear hX X) | (clear hX X; clear hX X; refine hX _ _ ?_; clear hX X) | (intro hlen; unfold maxLen at hlen) | (apply And.intro; (focus (first | omega | assumption | (repeat' apply And.intro) <;> first | omega | assumption)))))
        refine aIf ?_; simp -implicitDefEqProofs only [↓slp, slb, ↓reduceIte, reduceCtorEq, Nat.reduceEqDiff, Nat.reduceAdd, Nat.reduceMul, Nat.reduceLT, Nat.reduceLeDiff, Nat.reduceBEq, Nat.reduceBNe, Int.reduceLE, Int.reduceLT, Int.reduceToNat, Int.reduceEq]
        (repeat (first | (refine aSeq (fun X hX => ?_)) | (refine aBlk ?_) | (refine aSkip ?_) | ((first | refine aReg ?_ | refine aDrw (fun m2 => m2 = _) (by kernel_rfl) rfl ?_); simp -implicitDefEqProofs only [forall_eq, ↓slp, slb, ↓reduceIte, reduceCtorEq, Nat.reduceEqDiff, Nat.reduceAdd, Nat.reduceMul, Nat.reduceLT, Nat.reduceLeDiff, Nat.reduceBEq, Nat.reduceBNe, Int.reduceLE, Int.reduceLT, Int.reduceToNat, Int.reduceEq, tfCeLayL, g0, g3, g4, g5, g6, g7, g8, g10, g15, hi3]; try simp only [Ex.fold, Ex.foldcs, ← Va.pv.eq_1]) | (refine aExit ?_; simp only [slx, ↓reduceIte, Nat.reduceEqDiff, reduceCtorEq]) | (refine aRet ?_; try simp only [slx, ↓reduceIte, Nat.reduceEqDiff, reduceCtorEq]) | (refine hX _ _ ?_; clear hX X) | (clear hX X; refine hX _ _ ?_; clear hX X) | (clear hX X; clear hX X; refine hX _ _ ?_; clear hX X) | (intro hlen; unfold maxLen at hlen) | (apply And.intro; (focus (first | omega | assumption | (repeat' apply And.intro) <;> first | omega | assumption)))))
        rw [hI3]
        exact ⟨⟨t + 1, htq, g0, g3, g4, g5, g6, g7, g8, g10, rfl, rfl⟩, by omega⟩
    | true =>
      have hqn : q < n := by simpa using c3
      have hme : numOf (g 11) = q := by rw [g11]; exact Int.toNat_natCast q
      (repeat (first | (refine aSeq (fun X hX => ?_)) | (refine aBlk ?_) | (refine aSkip ?_) | ((first | refine aReg ?_ | refine aDrw (fun m2 => m2 = _) (by kernel_rfl) rfl ?_); simp -implicitDefEqProofs only [forall_eq, ↓slp, slb, ↓reduceIte, reduceCtorEq, Nat.reduceEqDiff, Nat.reduceAdd, Nat.reduceMul, Nat.reduceLT, Nat.reduceLeDiff, Nat.reduceBEq, Nat.reduceBNe, Int.reduceLE, Int.reduceLT, Int.reduceToNat, Int.reduceEq, tfCeLayL, g0, g3, g4, g5, g6, g7, g8, g9, g10, g11, c3]; try simp only [Ex.fold, Ex.foldcs, ← Va.pv.eq_1]) | (refine aExit ?_; simp only [slx, ↓reduceIte, Nat.reduceEqDiff, reduceCtorEq]) | (refine aRet ?_; try simp only [slx, ↓reduceIte, Nat.reduceEqDiff, reduceCtorEq]) | (refine hX _ _ ?_; clear hX X) | (clear hX X; refine hX _ _ ?_; clear hX X) | (clear hX X; clear hX X; refine hX _ _ ?_; clear hX X) | (intro hlen; unfold maxLen at hlen) | (apply And.intro; (focus (first | omega | assumption | (repeat' apply And.intro) <;> first | omega | assumption)))))
      refine aIf ?_; simp -implicitDefEqProofs only [↓slp, slb, ↓reduceIte, reduceCtorEq, Nat.reduceEqDiff, Nat.reduceAdd, Nat.reduceMul, Nat.reduceLT, Nat.reduceLeDiff, Nat.reduceBEq, Nat.reduceBNe, Int.reduceLE, Int.reduceLT, Int.reduceToNat, Int.reduceEq]
      (repeat (first | (refine aSeq (fun X hX => ?_)) | (refine aBlk ?_) | (refine aSkip ?_) | ((first | refine aReg ?_ | refine aDrw (fun m2 => m2 = _) (by kernel_rfl) rfl ?_); simp -implicitDefEqProofs only [forall_eq, ↓slp, slb, ↓reduceIte, reduceCtorEq, Nat.reduceEqDiff, Nat.reduceAdd, Nat.reduceMul, Nat.reduceLT, Nat.reduceLeDiff, Nat.reduceBEq, Nat.reduceBNe, Int.reduceLE, Int.reduceLT, Int.reduceToNat, Int.reduceEq, tfCeLayL, g0, g3, g4, g5, g6, g7, g8, g9, g10, g11]; try simp only [Ex.fold, Ex.foldcs, ← Va.pv.eq_1]) | (refine aExit ?_; simp only [slx, ↓reduceIte, Nat.reduceEqDiff, reduceCtorEq]) | (refine aRet ?_; try simp only [slx, ↓reduceIte, Nat.reduceEqDiff, reduceCtorEq]) | (refine hX _ _ ?_; clear hX X) | (clear hX X; refine hX _ _ ?_; clear hX X) | (clear hX X; clear hX X; refine hX _ _ ?_; clear hX X) | (intro hlen; unfold maxLen at hlen) | (apply And.intro; (focus (first | omega | assumption | (repeat' apply And.intro) <;> first | omega | assumption)))))
      refine callE (letterC_any q (by omega) _) ?_
      have hy : (strOf [((97 + q : Nat) : Int)]).size = 1 := rfl
      have hy2 : (⟨#[102]⟩ : ByteArray).size = 1 := rfl
      simp -implicitDefEqProofs only [↓slp, slb, ↓reduceIte, reduceCtorEq, Nat.reduceEqDiff, Nat.reduceAdd, Nat.reduceMul, Nat.reduceLT, Nat.reduceLeDiff, Nat.reduceBEq, Nat.reduceBNe, Int.reduceLE, Int.reduceLT, Int.reduceToNat, Int.reduceEq, tfCeLayL, g0, g3, g4, g5, g6, g7, g8, g9, g10, g11, pS]; try simp only [Ex.fold, Ex.foldcs, ← Va.pv.eq_1]
      refine ⟨by omega, ?_⟩
      (repeat (first | (refine aSeq (fun X hX => ?_)) | (refine aBlk ?_) | (refine aSkip ?_) | ((first | refine aReg ?_ | refine aDrw (fun m2 => m2 = _) (by kernel_rfl) rfl ?_); simp -implicitDefEqProofs only [forall_eq, ↓slp, slb, ↓reduceIte, reduceCtorEq, Nat.reduceEqDiff, Nat.reduceAdd, Nat.reduceMul, Nat.reduceLT, Nat.reduceLeDiff, Nat.reduceBEq, Nat.reduceBNe, Int.reduceLE, Int.reduceLT, Int.reduceToNat, Int.reduceEq, tfCeLayL, g0, g3, g4, g5, g6, g7, g8, g9, g10, g11, hB]; try simp only [Ex.fold, Ex.foldcs, ← Va.pv.eq_1]) | (refine aExit ?_; simp only [slx, ↓reduceIte, Nat.reduceEqDiff, reduceCtorEq]) | (refine aRet ?_; try simp only [slx, ↓reduceIte, Nat.reduceEqDiff, reduceCtorEq]) | (refine hX _ _ ?_; clear hX X) | (clear hX X; refine hX _ _ ?_; clear hX X) | (clear hX X; clear hX X; refine hX _ _ ?_; clear hX X) | (intro hlen; unfold maxLen at hlen) | (apply And.intro; (focus (first | omega | assumption | (repeat' apply And.intro) <;> first | omega | assumption)))))
      refine callM (nextC_any p _ (hokb.ext _) i2) ?_
      rintro v m' ⟨r1, i3, rfl, hr1, rfl⟩
      have x2 : r1.tmod 2 = 0 ∨ r1.tmod 2 = 1 := by
        obtain ⟨t, h1, h2⟩ := tmod_nat hr1.1 2 (by omega)
        have h3 : r1.tmod 2 = (t : Int) := h1
        omega
      rcases x2 with x2 | x2
      · simp -implicitDefEqProofs only [↓slp, slb, ↓reduceIte, reduceCtorEq, Nat.reduceEqDiff, Nat.reduceAdd, Nat.reduceMul, Nat.reduceLT, Nat.reduceLeDiff, Nat.reduceBEq, Nat.reduceBNe, Int.reduceLE, Int.reduceLT, Int.reduceToNat, Int.reduceEq, tfCeLayL, g0, g3, g4, g5, g6, g7, g8, g9, g10, g11, hB, x2, Int.reduceBEq]; try simp only [Ex.fold, Ex.foldcs, ← Va.pv.eq_1]
        refine hX _ _ ?_; clear hX X
        have join : ∀ (g : F) (i4 : Nat) (str : Str) (c : Int), FieldR Z ⟨nmF q, str⟩ c → g 0 = .sl .no (p.l.map pU) → g 3 = .bp 0 0 → g 4 = .sl oZ (Z.map pI) → g 5 = .bp p.a 0 → g 6 = .v (.int .i64 k) → g 7 = .bp mm.nb 0 → g 8 = .v (.int .i64 n) → g 9 = .v (.int .i64 cs.sum) → g 10 = .sl oO (((List.range q).map fun t => (cs.take t).sum).map pI) → g 11 = .v (.int .i64 q) → g 12 = .bp mb.nb 0 → g 13 = .v (.int .i64 c) →
            X g (cst p (mb.ext [some [.v (.string (nmF q)), .v (.string str)]]) i4) := by
          intro g i4 str c hfr g0 g3 g4 g5 g6 g7 g8 g9 g10 g11 g12 g13
          refine hX _ _ ?_
          clear hX X
          have e1 : ∀ x ∈ ((List.range q).map fun t => (cs.take t).sum).map pI, x.cells.length = 1 := fun x hx => by
            obtain ⟨y, _, rfl⟩ := List.mem_map.1 hx
            rfl
          (repeat (first | (refine aSeq (fun X hX => ?_)) | (refine aBlk ?_) | (refine aSkip ?_) | (refine aExit ?_; simp only [slx, ↓reduceIte, Nat.reduceEqDiff, reduceCtorEq]) | (refine aRet ?_; try simp only [slx, ↓reduceIte, Nat.reduceEqDiff, reduceCtorEq]) | (refine hX _ _ ?_; clear hX X) | (clear hX X; refine hX _ _ ?_; clear hX X)))
          refine aReg ?_; simp -implicitDefEqProofs only [↓slp, slb, ↓reduceIte, reduceCtorEq, Nat.reduceEqDiff, Nat.reduceAdd, Nat.reduceMul, Nat.reduceLT, Nat.reduceLeDiff, Nat.reduceBEq, Nat.reduceBNe, Int.reduceLE, Int.reduceLT, Int.reduceToNat, Int.reduceEq, tfCeLayL, g0, g3, g4, g5, g6, g7, g8, g9, g10, g11, g12, g13, hB, free_ext]
          refine ⟨⟨hfO, e1, by unfold maxLen; simp; omega, by simp; omega⟩, ?_⟩
          have hcl : cs.length = q := hFF.len.trans hFq
          have hFF' : FieldsR (Z.take Z.length) FF cs := by rw [List.take_length]; exact hFF
          have b1 := cs_lo hFF hR.zlo
          have b2 := sum_bound cs _ (cs_hi hR (Nat.le_refl _) hFF')
          have b3 := pow8 Z.length (by omega)
          have b4 : (0 : Int) ≤ 4 ^ Z.length := Int.pow_nonneg (by omega)
          have b5 : (cs.length : Int) * 4 ^ Z.length ≤ 4 * 65536 := Int.mul_le_mul (by omega) b3 b4 (by omega)
          have b6 : 0 ≤ cs.sum := sum_lo cs b1
          have b7 : 0 ≤ c ∧ c ≤ 65536 := by
            rcases hfr with ⟨_, h⟩ | ⟨j, hj, _, h⟩
            · omega
            · have h1 := hR.zhi j hj
              have h2 := pow8 (j + 1) (by omega)
              have h3 := hR.zlo _ (List.getElem_mem hj)
              omega
          have hw1 : IntKind.i64.wrap (cs.sum + c) = cs.sum + c := wrap64 (by omega)
          have hi1 : IntKind.i64.wrap ((q : Int) + 1) = ((q + 1 : Nat) : Int) := by rw [wrap64 (by omega)]; omega
          have hs1 : mm.nb ≠ p.a := by omega
          have hs2 : mm.nb < ((oO.use mb).fresh 1).nb := by rw [fresh_nb, use_nb]; exact hnb2
          have hs3 : mm.nb < ((oF.use ((oO.use mb).fresh 1)).fresh 2).nb := by rw [fresh_nb, use_nb]; exact hs2
          have hgs : ((oO.use mb).fresh 1).get mm.nb = some [.v (.string (nmS k)), .sl oF (FF.map Pa.pv)] := by rw [fresh_get, use_get]; exact hbs
          have hgs2 : ((oF.use ((oO.use mb).fresh 1)).fresh 2).get mm.nb = some [.v (.string (nmS k)), .sl oF (FF.map Pa.pv)] := by rw [fresh_get, use_get]; exact hgs
          have hA1 : p.a < ((oO.use mb).fresh 1).nb := by rw [fresh_nb, use_nb]; exact hB
          have hA2 : p.a < ((oF.use ((oO.use mb).fresh 1)).fresh 2).nb := by rw [fresh_nb, use_nb]; exact hA1
          have hfF1 : oF.free ((oO.use mb).fresh 1) 2 := free_other hfF (fun t h => (d3 t h).2.2)
          have fS1 : oS.free ((oO.use mb).fresh 1) 2 := free_other hfS2 (fun t h => (d3 t h).1)
          have fZ1 : oZ.free ((oO.use mb).fresh 1) 1 := free_other hfZ2 (fun t h => (d3 t h).2.1)
          have e2 : ∀ x ∈ FF.map Pa.pv, x.cells.length = 2 := fun x hx => by
            obtain ⟨y, _, rfl⟩ := List.mem_map.1 hx
            rfl
          have gA : ∀ (bs' : List (Option (List PV))) (i : Nat), (cst p (((oO.use mb).fresh 1).ext bs') i).get mm.nb = some [.v (.string (nmS k)), .sl oF (FF.map Pa.pv)] := fun _ _ => (cst_oldE hs1 hs2).trans hgs
          have gC : ∀ (bs' : List (Option (List PV))) (i : Nat), (cst p (((oF.use ((oO.use mb).fresh 1)).fresh 2).ext bs') i).get mm.nb = some [.v (.string (nmS k)), .sl oF (FF.map Pa.pv)] := fun _ _ => (cst_oldE hs1 hs3).trans hgs2
          have gB : (cst p (((oO.use mb).fresh 1).ext [some [.v (.string (nmF q)), .v (.string str)]]) i4).get mb.nb = some [.v (.string (nmF q)), .v (.string str)] := cst_own0 (by rw [fresh_nb, use_nb]) hA1
          have uA : ∀ (bs' : List (Option (List PV))) (i : Nat) (c : List PV), (cst p (((oF.use ((oO.use mb).fresh 1)).fresh 2).ext bs') i).upd mm.nb c = cst p ((((oF.use ((oO.use mb).fresh 1)).fresh 2).upd mm.nb c).ext bs') i := fun _ _ _ => cst_updE hs1 hs3
          refine hX _ _ ?_
          clear hX X
          (repeat (first | (refine aSeq (fun X hX => ?_)) | (refine aBlk ?_) | (refine aSkip ?_) | ((first | refine aReg ?_ | refine aDrw (fun m2 => m2 = _) (by kernel_rfl) rfl ?_); simp -implicitDefEqProofs only [forall_eq, ↓slp, slb, ↓reduceIte, reduceCtorEq, Nat.reduceEqDiff, Nat.reduceAdd, Nat.reduceMul, Nat.reduceLT, Nat.reduceLeDiff, Nat.reduceBEq, Nat.reduceBNe, Int.reduceLE, Int.reduceLT, Int.reduceToNat, Int.reduceEq, tfCeLayL, g0, g3, g4, g5, g6, g7, g8, g9, g10, g11, g12, g13, hw1, gA, gB, gC, uA, hi1, free_ext]; try simp only [Ex.fold, Ex.foldcs, ← Va.pv.eq_1]) | (refine aExit ?_; simp only [slx, ↓reduceIte, Nat.reduceEqDiff, reduceCtorEq]) | (refine aRet ?_; try simp only [slx, ↓reduceIte, Nat.reduceEqDiff, reduceCtorEq]) | (refine hX _ _ ?_; clear hX X) | (clear hX X; refine hX _ _ ?_; clear hX X) | (clear hX X; clear hX X; refine hX _ _ ?_; clear hX X) | (intro hlen; unfold maxLen at hlen) | (apply And.intro; (focus (first | omega | assumption | (repeat' apply And.intro) <;> first | omega | assumption)))))
          refine ⟨⟨hfF1, e2, by unfold maxLen; omega, by omega⟩, ?_⟩
          (repeat (first | (refine aSeq (fun X hX => ?_)) | (refine aBlk ?_) | (refine aSkip ?_) | ((first | refine aReg ?_ | refine aDrw (fun m2 => m2 = _) (by kernel_rfl) rfl ?_); simp -implicitDefEqProofs only [forall_eq, ↓slp, slb, ↓reduceIte, reduceCtorEq, Nat.reduceEqDiff, Nat.reduceAdd, Nat.reduceMul, Nat.reduceLT, Nat.reduceLeDiff, Nat.reduceBEq, Nat.reduceBNe, Int.reduceLE, Int.reduceLT, Int.reduceToNat, Int.reduceEq, tfCeLayL, g0, g3, g4, g5, g6, g7, g8, g9, g10, g11, g12, g13, hw1, gA, gB, gC, uA, hi1, free_ext]; try simp only [Ex.fold, Ex.foldcs, ← Va.pv.eq_1]) | (refine aExit ?_; simp only [slx, ↓reduceIte, Nat.reduceEqDiff, reduceCtorEq]) | (refine aRet ?_; try simp only [slx, ↓reduceIte, Nat.reduceEqDiff, reduceCtorEq]) | (refine hX _ _ ?_; clear hX X) | (clear hX X; refine hX _ _ ?_; clear hX X) | (clear hX X; clear hX X; refine hX _ _ ?_; clear hX X) | (intro hlen; unfold maxLen at hlen) | (apply And.intro; (focus (first | omega | assumption | (repeat' apply And.intro) <;> first | omega | assumption)))))
          have hsn := fields_snoc hFF (by omega) str c (by rw [hFq]; exact hfr)
          rw [hFq] at hsn
          have hrange : (List.range (q + 1)).map (fun t => ((cs ++ [c]).take t).sum) = (List.range q).map (fun t => (cs.take t).sum) ++ [cs.sum] := by
            rw [List.range_succ, List.map_append]
            congr 1
            · refine List.map_congr_left (fun t ht => ?_)
              rw [List.take_append_of_le_length (by have := List.mem_range.1 ht; omega)]
            · simp [← hcl]
          have hsum' : (cs ++ [c]).sum = cs.sum + c := by simp
          rw [hI2]
          refine ⟨⟨q + 1, i4, FF ++ [⟨nmF q, str⟩], cs ++ [c], .tok ((oO.use mb).fresh 1).nt, .tok mb.nt, _, hqn, hsn, by simp [hFq], g0, g3, g4, g5, g6, g7, g8, by rw [hsum']; rfl, by rw [hrange, List.map_append]; rfl, rfl, rfl, ?_, ?_, ?_, ?_, ?_, ?_, ?_, d1, ?_, ?_⟩, ?_⟩
          · rw [ext_nb, upd_nb]; exact Nat.lt_of_lt_of_le hs3 (Nat.le_add_right _ _)
          · rw [ext_old' (by rw [upd_nb]; omega), M.get_upd, if_neg (fun h => by omega), fresh_get, use_get, fresh_get, use_get]; exact hb0
          · rw [ext_old' (by rw [upd_nb]; exact hs3), M.get_upd, if_pos ⟨rfl, hs3⟩, List.map_append]; rfl
          · rw [free_ext, free_upd]; exact free_other fS1 (fun t h => (d2 t h).1)
          · rw [free_ext, free_upd]; exact free_other fZ1 (fun t h => (d2 t h).2.1)
          · rw [free_ext, free_upd]; exact free_new _ _ _
          · rw [free_ext, free_upd]; exact free_other (free_new mb oO 1) (fun t h h' => free_ne hfF (by rw [h, h']))
          · intro t h
            cases h
            exact ⟨free_ne fS1, free_ne fZ1, fun h => free_ne (free_new mb oO 1) h⟩
          · intro t h
            cases h
            exact ⟨free_ne hfS2, free_ne hfZ2, fun h => free_ne (free_new mb oO 1) h.symm⟩
          · rw [hme]; omega
        clear hX
        refine aIf ?_; simp -implicitDefEqProofs only [↓slp, slb, ↓reduceIte, reduceCtorEq, Nat.reduceEqDiff, Nat.reduceAdd, Nat.reduceMul, Nat.reduceLT, Nat.reduceLeDiff, Nat.reduceBEq, Nat.reduceBNe, Int.reduceLE, Int.reduceLT, Int.reduceToNat, Int.reduceEq]
        refine aSkip ?_
        exact join _ i3 ⟨#[]⟩ 1 (.inl ⟨rfl, rfl⟩) g0 g3 g4 g5 g6 g7 g8 g9 g10 g11 rfl rfl
      · cases c5 : decide ((k : Int) > 0) with
        | false =>
          simp -implicitDefEqProofs only [↓slp, slb, ↓reduceIte, reduceCtorEq, Nat.reduceEqDiff, Nat.reduceAdd, Nat.reduceMul, Nat.reduceLT, Nat.reduceLeDiff, Nat.reduceBEq, Nat.reduceBNe, Int.reduceLE, Int.reduceLT, Int.reduceToNat, Int.reduceEq, tfCeLayL, g0, g3, g4, g5, g6, g7, g8, g9, g10, g11, hB, x2, Int.reduceBEq, c5]; try simp only [Ex.fold, Ex.foldcs, ← Va.pv.eq_1]
          refine hX _ _ ?_; clear hX X
          have join : ∀ (g : F) (i4 : Nat) (str : Str) (c : Int), FieldR Z ⟨nmF q, str⟩ c → g 0 = .sl .no (p.l.map pU) → g 3 = .bp 0 0 → g 4 = .sl oZ (Z.map pI) → g 5 = .bp p.a 0 → g 6 = .v (.int .i64 k) → g 7 = .bp mm.nb 0 → g 8 = .v (.int .i64 n) → g 9 = .v (.int .i64 cs.sum) → g 10 = .sl oO (((List.range q).map fun t => (cs.take t).sum).map pI) → g 11 = .v (.int .i64 q) → g 12 = .bp mb.nb 0 → g 13 = .v (.int .i64 c) →
              X g (cst p (mb.ext [some [.v (.string (nmF q)), .v (.string str)]]) i4) := by
            intro g i4 str c hfr g0 g3 g4 g5 g6 g7 g8 g9 g10 g11 g12 g13
            refine hX _ _ ?_
            clear hX X
            have e1 : ∀ x ∈ ((List.range q).map fun t => (cs.take t).sum).map pI, x.cells.length = 1 := fun x hx => by
              obtain ⟨y, _, rfl⟩ := List.mem_map.1 hx
              rfl
            (repeat (first | (refine aSeq (fun X hX => ?_)) | (refine aBlk ?_) | (refine aSkip ?_) | (refine aExit ?_; simp only [slx, ↓reduceIte, Nat.reduceEqDiff, reduceCtorEq]) | (refine aRet ?_; try simp only [slx, ↓reduceIte, Nat.reduceEqDiff, reduceCtorEq]) | (refine hX _ _ ?_; clear hX X) | (clear hX X; refine hX _ _ ?_; clear hX X)))
            refine aReg ?_; simp -implicitDefEqProofs only [↓slp, slb, ↓reduceIte, reduceCtorEq, Nat.reduceEqDiff, Nat.reduceAdd, Nat.reduceMul, Nat.reduceLT, Nat.reduceLeDiff, Nat.reduceBEq, Nat.reduceBNe, Int.reduceLE, Int.reduceLT, Int.reduceToNat, Int.reduceEq, tfCeLayL, g0, g3, g4, g5, g6, g7, g8, g9, g10, g11, g12, g13, hB, free_ext]
            refine ⟨⟨hfO, e1, by unfold maxLen; simp; omega, by simp; omega⟩, ?_⟩
            have hcl : cs.length = q := hFF.len.trans hFq
            have hFF' : FieldsR (Z.take Z.length) FF cs := by rw [List.take_length]; exact hFF
            have b1 := cs_lo hFF hR.zlo
            have b2 := sum_bound cs _ (cs_hi hR (Nat.le_refl _) hFF')
            have b3 := pow8 Z.length (by omega)
            have b4 : (0 : Int) ≤ 4 ^ Z.length := Int.pow_nonneg (by omega)
            have b5 : (cs.length : Int) * 4 ^ Z.length ≤ 4 * 65536 := Int.mul_le_mul (by omega) b3 b4 (by omega)
            have b6 : 0 ≤ cs.sum := sum_lo cs b1
            have b7 : 0 ≤ c ∧ c ≤ 65536 := by
              rcases hfr with ⟨_, h⟩ | ⟨j, hj, _, h⟩
              · omega
              · have h1 := hR.zhi j hj
                have h2 := pow8 (j + 1) (by omega)
                have h3 := hR.zlo _ (List.getElem_mem hj)
                omega
            have hw1 : IntKind.i64.wrap (cs.sum + c) = cs.sum + c := wrap64 (by omega)
            have hi1 : IntKind.i64.wrap ((q : Int) + 1) = ((q + 1 : Nat) : Int) := by rw [wrap64 (by omega)]; omega
            have hs1 : mm.nb ≠ p.a := by omega
            have hs2 : mm.nb < ((oO.use mb).fresh 1).nb := by rw [fresh_nb, use_nb]; exact hnb2
            have hs3 : mm.nb < ((oF.use ((oO.use mb).fresh 1)).fresh 2).nb := by rw [fresh_nb, use_nb]; exact hs2
            have hgs : ((oO.use mb).fresh 1).get mm.nb = some [.v (.string (nmS k)), .sl oF (FF.map Pa.pv)] := by rw [fresh_get, use_get]; exact hbs
            have hgs2 : ((oF.use ((oO.use mb).fresh 1)).fresh 2).get mm.nb = some [.v (.string (nmS k)), .sl oF (FF.map Pa.pv)] := by rw [fresh_get, use_get]; exact hgs
            have hA1 : p.a < ((oO.use mb).fresh 1).nb := by rw [fresh_nb, use_nb]; exact hB
            have hA2 : p.a < ((oF.use ((oO.use mb).fresh 1)).fresh 2).nb := by rw [fresh_nb, use_nb]; exact hA1
            have hfF1 : oF.free ((oO.use mb).fresh 1) 2 := free_other hfF (fun t h => (d3 t h).2.2)
            have fS1 : oS.free ((oO.use mb).fresh 1) 2 := free_other hfS2 (fun t h => (d3 t h).1)
            have fZ1 : oZ.free ((oO.use mb).fresh 1) 1 := free_other hfZ2 (fun t h => (d3 t h).2.1)
            have e2 : ∀ x ∈ FF.map Pa.pv, x.cells.length = 2 := fun x hx => by
              obtain ⟨y, _, rfl⟩ := List.mem_map.1 hx
              rfl
            have gA : ∀ (bs' : List (Option (List PV))) (i : Nat), (cst p (((oO.use mb).fresh 1).ext bs') i).get mm.nb = some [.v (.string (nmS k)), .sl oF (FF.map Pa.pv)] := fun _ _ => (cst_oldE hs1 hs2).trans hgs
            have gC : ∀ (bs' : List (Option (List PV))) (i : Nat), (cst p (((oF.use ((oO.use mb).fresh 1)).fresh 2).ext bs') i).get mm.nb = some [.v (.string (nmS k)), .sl oF (FF.map Pa.pv)] := fun _ _ => (cst_oldE hs1 hs3).trans hgs2
            have gB : (cst p (((oO.use mb).fresh 1).ext [some [.v (.string (nmF q)), .v (.string str)]]) i4).get mb.nb = some [.v (.string (nmF q)), .v (.string str)] := cst_own0 (by rw [fresh_nb, use_nb]) hA1
            have uA : ∀ (bs' : List (Option (List PV))) (i : Nat) (c : List PV), (cst p (((oF.use ((oO.use mb).fresh 1)).fresh 2).ext bs') i).upd mm.nb c = cst p ((((oF.use ((oO.use mb).fresh 1)).fresh 2).upd mm.nb c).ext bs') i := fun _ _ _ => cst_updE hs1 hs3
            refine hX _ _ ?_
            clear hX X
            (repeat (first | (refine aSeq (fun X hX => ?_)) | (refine aBlk ?_) | (refine aSkip ?_) | ((first | refine aReg ?_ | refine aDrw (fun m2 => m2 = _) (by kernel_rfl) rfl ?_); simp -implicitDefEqProofs only [forall_eq, ↓slp, slb, ↓reduceIte, reduceCtorEq, Nat.reduceEqDiff, Nat.reduceAdd, Nat.reduceMul, Nat.reduceLT, Nat.reduceLeDiff, Nat.reduceBEq, Nat.reduceBNe, Int.reduceLE, Int.reduceLT, Int.reduceToNat, Int.reduceEq, tfCeLayL, g0, g3, g4, g5, g6, g7, g8, g9, g10, g11, g12, g13, hw1, gA, gB, gC, uA, hi1, free_ext]; try simp only [Ex.fold, Ex.foldcs, ← Va.pv.eq_1]) | (refine aExit ?_; simp only [slx, ↓reduceIte, Nat.reduceEqDiff, reduceCtorEq]) | (refine aRet ?_; try simp only [slx, ↓reduceIte, Nat.reduceEqDiff, reduceCtorEq]) | (refine hX _ _ ?_; clear hX X) | (clear hX X; refine hX _ _ ?_; clear hX X) | (clear hX X; clear hX X; refine hX _ _ ?_; clear hX X) | (intro hlen; unfold maxLen at hlen) | (apply And.intro; (focus (first | omega | assumption | (repeat' apply And.intro) <;> first | omega | assumption)))))
            refine ⟨⟨hfF1, e2, by unfold maxLen; omega, by omega⟩, ?_⟩
            (repeat (first | (refine aSeq (fun X hX => ?_)) | (refine aBlk ?_) | (refine aSkip ?_) | ((first | refine aReg ?_ | refine aDrw (fun m2 => m2 = _) (by kernel_rfl) rfl ?_); simp -implicitDefEqProofs only [forall_eq, ↓slp, slb, ↓reduceIte, reduceCtorEq, Nat.reduceEqDiff, Nat.reduceAdd, Nat.reduceMul, Nat.reduceLT, Nat.reduceLeDiff, Nat.reduceBEq, Nat.reduceBNe, Int.reduceLE, Int.reduceLT, Int.reduceToNat, Int.reduceEq, tfCeLayL, g0, g3, g4, g5, g6, g7, g8, g9, g10, g11, g12, g13, hw1, gA, gB, gC, uA, hi1, free_ext]; try simp only [Ex.fold, Ex.foldcs, ← Va.pv.eq_1]) | (refine aExit ?_; simp only [slx, ↓reduceIte, Nat.reduceEqDiff, reduceCtorEq]) | (refine aRet ?_; try simp only [slx, ↓reduceIte, Nat.reduceEqDiff, reduceCtorEq]) | (refine hX _ _ ?_; clear hX X) | (clear hX X; refine hX _ _ ?_; clear hX X) | (clear hX X; clear hX X; refine hX _ _ ?_; clear hX X) | (intro hlen; unfold maxLen at hlen) | (apply And.intro; (focus (first | omega | assumption | (repeat' apply And.intro) <;> first | omega | assumption)))))
            have hsn := fields_snoc hFF (by omega) str c (by rw [hFq]; exact hfr)
            rw [hFq] at hsn
            have hrange : (List.range (q + 1)).map (fun t => ((cs ++ [c]).take t).sum) = (List.range q).map (fun t => (cs.take t).sum) ++ [cs.sum] := by
              rw [List.range_succ, List.map_append]
              congr 1
              · refine List.map_congr_left (fun t ht => ?_)
                rw [List.take_append_of_le_length (by have := List.mem_range.1 ht; omega)]
              · simp [← hcl]
            have hsum' : (cs ++ [c]).sum = cs.sum + c := by simp
            rw [hI2]
            refine ⟨⟨q + 1, i4, FF ++ [⟨nmF q, str⟩], cs ++ [c], .tok ((oO.use mb).fresh 1).nt, .tok mb.nt, _, hqn, hsn, by simp [hFq], g0, g3, g4, g5, g6, g7, g8, by rw [hsum']; rfl, by rw [hrange, List.map_append]; rfl, rfl, rfl, ?_, ?_, ?_, ?_, ?_, ?_, ?_, d1, ?_, ?_⟩, ?_⟩
            · rw [ext_nb, upd_nb]; exact Nat.lt_of_lt_of_le hs3 (Nat.le_add_right _ _)
            · rw [ext_old' (by rw [upd_nb]; omega), M.get_upd, if_neg (fun h => by omega), fresh_get, use_get, fresh_get, use_get]; exact hb0
            · rw [ext_old' (by rw [upd_nb]; exact hs3), M.get_upd, if_pos ⟨rfl, hs3⟩, List.map_append]; rfl
            · rw [free_ext, free_upd]; exact free_other fS1 (fun t h => (d2 t h).1)
            · rw [free_ext, free_upd]; exact free_other fZ1 (fun t h => (d2 t h).2.1)
            · rw [free_ext, free_upd]; exact free_new _ _ _
            · rw [free_ext, free_upd]; exact free_other (free_new mb oO 1) (fun t h h' => free_ne hfF (by rw [h, h']))
            · intro t h
              cases h
              exact ⟨free_ne fS1, free_ne fZ1, fun h => free_ne (free_new mb oO 1) h⟩
            · intro t h
              cases h
              exact ⟨free_ne hfS2, free_ne hfZ2, fun h => free_ne (free_new mb oO 1) h.symm⟩
            · rw [hme]; omega
          clear hX
          refine aIf ?_; simp -implicitDefEqProofs only [↓slp, slb, ↓reduceIte, reduceCtorEq, Nat.reduceEqDiff, Nat.reduceAdd, Nat.reduceMul, Nat.reduceLT, Nat.reduceLeDiff, Nat.reduceBEq, Nat.reduceBNe, Int.reduceLE, Int.reduceLT, Int.reduceToNat, Int.reduceEq]
          refine aSkip ?_
          exact join _ i3 ⟨#[]⟩ 1 (.inl ⟨rfl, rfl⟩) g0 g3 g4 g5 g6 g7 g8 g9 g10 g11 rfl rfl
        | true =>
          have hkp : 0 < k := by simp at c5; omega
          simp -implicitDefEqProofs only [↓slp, slb, ↓reduceIte, reduceCtorEq, Nat.reduceEqDiff, Nat.reduceAdd, Nat.reduceMul, Nat.reduceLT, Nat.reduceLeDiff, Nat.reduceBEq, Nat.reduceBNe, Int.reduceLE, Int.reduceLT, Int.reduceToNat, Int.reduceEq, tfCeLayL, g0, g3, g4, g5, g6, g7, g8, g9, g10, g11, hB, x2, Int.reduceBEq, c5]; try simp only [Ex.fold, Ex.foldcs, ← Va.pv.eq_1]
          refine hX _ _ ?_; clear hX X
          have join : ∀ (g : F) (i4 : Nat) (str : Str) (c : Int), FieldR Z ⟨nmF q, str⟩ c → g 0 = .sl .no (p.l.map pU) → g 3 = .bp 0 0 → g 4 = .sl oZ (Z.map pI) → g 5 = .bp p.a 0 → g 6 = .v (.int .i64 k) → g 7 = .bp mm.nb 0 → g 8 = .v (.int .i64 n) → g 9 = .v (.int .i64 cs.sum) → g 10 = .sl oO (((List.range q).map fun t => (cs.take t).sum).map pI) → g 11 = .v (.int .i64 q) → g 12 = .bp mb.nb 0 → g 13 = .v (.int .i64 c) →
              X g (cst p (mb.ext [some [.v (.string (nmF q)), .v (.string str)]]) i4) := by
            intro g i4 str c hfr g0 g3 g4 g5 g6 g7 g8 g9 g10 g11 g12 g13
            refine hX _ _ ?_
            clear hX X
            have e1 : ∀ x ∈ ((List.range q).map fun t => (cs.take t).sum).map pI, x.cells.length = 1 := fun x hx => by
              obtain ⟨y, _, rfl⟩ := List.mem_map.1 hx
              rfl
            (repeat (first | (refine aSeq (fun X hX => ?_)) | (refine aBlk ?_) | (refine aSkip ?_) | (refine aExit ?_; simp only [slx, ↓reduceIte, Nat.reduceEqDiff, reduceCtorEq]) | (refine aRet ?_; try simp only [slx, ↓reduceIte, Nat.reduceEqDiff, reduceCtorEq]) | (refine hX _ _ ?_; clear hX X) | (clear hX X; refine hX _ _ ?_; clear hX X)))
            refine aReg ?_; simp -implicitDefEqProofs only [↓slp, slb, ↓reduceIte, reduceCtorEq, Nat.reduceEqDiff, Nat.reduceAdd, Nat.reduceMul, Nat.reduceLT, Nat.reduceLeDiff, Nat.reduceBEq, Nat.reduceBNe, Int.reduceLE, Int.reduceLT, Int.reduceToNat, Int.reduceEq, tfCeLayL, g0, g3, g4, g5, g6, g7, g8, g9, g10, g11, g12, g13, hB, free_ext]
            refine ⟨⟨hfO, e1, by unfold maxLen; simp; omega, by simp; omega⟩, ?_⟩
            have hcl : cs.length = q := hFF.len.trans hFq
            have hFF' : FieldsR (Z.take Z.length) FF cs := by rw [List.take_length]; exact hFF
            have b1 := cs_lo hFF hR.zlo
            have b2 := sum_bound cs _ (cs_hi hR (Nat.le_refl _) hFF')
            have b3 := pow8 Z.length (by omega)
            have b4 : (0 : Int) ≤ 4 ^ Z.length := Int.pow_nonneg (by omega)
            have b5 : (cs.length : Int) * 4 ^ Z.length ≤ 4 * 65536 := Int.mul_le_mul (by omega) b3 b4 (by omega)
            have b6 : 0 ≤ cs.sum := sum_lo cs b1
            have b7 : 0 ≤ c ∧ c ≤ 65536 := by
              rcases hfr with ⟨_, h⟩ | ⟨j, hj, _, h⟩
              · omega
              · have h1 := hR.zhi j hj
                have h2 := pow8 (j + 1) (by omega)
                have h3 := hR.zlo _ (List.getElem_mem hj)
                omega
            have hw1 : IntKind.i64.wrap (cs.sum + c) = cs.sum + c := wrap64 (by omega)
            have hi1 : IntKind.i64.wrap ((q : Int) + 1) = ((q + 1 : Nat) : Int) := by rw [wrap64 (by omega)]; omega
            have hs1 : mm.nb ≠ p.a := by omega
            have hs2 : mm.nb < ((oO.use mb).fresh 1).nb := by rw [fresh_nb, use_nb]; exact hnb2
            have hs3 : mm.nb < ((oF.use ((oO.use mb).fresh 1)).fresh 2).nb := by rw [fresh_nb, use_nb]; exact hs2
            have hgs : ((oO.use mb).fresh 1).get mm.nb = some [.v (.string (nmS k)), .sl oF (FF.map Pa.pv)] := by rw [fresh_get, use_get]; exact hbs
            have hgs2 : ((oF.use ((oO.use mb).fresh 1)).fresh 2).get mm.nb = some [.v (.string (nmS k)), .sl oF (FF.map Pa.pv)] := by rw [fresh_get, use_get]; exact hgs
            have hA1 : p.a < ((oO.use mb).fresh 1).nb := by rw [fresh_nb, use_nb]; exact hB
            have hA2 : p.a < ((oF.use ((oO.use mb).fresh 1)).fresh 2).nb := by rw [fresh_nb, use_nb]; exact hA1
            have hfF1 : oF.free ((oO.use mb).fresh 1) 2 := free_other hfF (fun t h => (d3 t h).2.2)
            have fS1 : oS.free ((oO.use mb).fresh 1) 2 := free_other hfS2 (fun t h => (d3 t h).1)
            have fZ1 : oZ.free ((oO.use mb).fresh 1) 1 := free_other hfZ2 (fun t h => (d3 t h).2.1)
            have e2 : ∀ x ∈ FF.map Pa.pv, x.cells.length = 2 := fun x hx => by
              obtain ⟨y, _, rfl⟩ := List.mem_map.1 hx
              rfl
            have gA : ∀ (bs' : List (Option (List PV))) (i : Nat), (cst p (((oO.use mb).fresh 1).ext bs') i).get mm.nb = some [.v (.string (nmS k)), .sl oF (FF.map Pa.pv)] := fun _ _ => (cst_oldE hs1 hs2).trans hgs
            have gC : ∀ (bs' : List (Option (List PV))) (i : Nat), (cst p (((oF.use ((oO.use mb).fresh 1)).fresh 2).ext bs') i).get mm.nb = some [.v (.string (nmS k)), .sl oF (FF.map Pa.pv)] := fun _ _ => (cst_oldE hs1 hs3).trans hgs2
            have gB : (cst p (((oO.use mb).fresh 1).ext [some [.v (.string (nmF q)), .v (.string str)]]) i4).get mb.nb = some [.v (.string (nmF q)), .v (.string str)] := cst_own0 (by rw [fresh_nb, use_nb]) hA1
            have uA : ∀ (bs' : List (Option (List PV))) (i : Nat) (c : List PV), (cst p (((oF.use ((oO.use mb).fresh 1)).fresh 2).ext bs') i).upd mm.nb c = cst p ((((oF.use ((oO.use mb).fresh 1)).fresh 2).upd mm.nb c).ext bs') i := fun _ _ _ => cst_updE hs1 hs3
            refine hX _ _ ?_
            clear hX X
            (repeat (first | (refine aSeq (fun X hX => ?_)) | (refine aBlk ?_) | (refine aSkip ?_) | ((first | refine aReg ?_ | refine aDrw (fun m2 => m2 = _) (by kernel_rfl) rfl ?_); simp -implicitDefEqProofs only [forall_eq, ↓slp, slb, ↓reduceIte, reduceCtorEq, Nat.reduceEqDiff, Nat.reduceAdd, Nat.reduceMul, Nat.reduceLT, Nat.reduceLeDiff, Nat.reduceBEq, Nat.reduceBNe, Int.reduceLE, Int.reduceLT, Int.reduceToNat, Int.reduceEq, tfCeLayL, g0, g3, g4, g5, g6, g7, g8, g9, g10, g11, g12, g13, hw1, gA, gB, gC, uA, hi1, free_ext]; try simp only [Ex.fold, Ex.foldcs, ← Va.pv.eq_1]) | (refine aExit ?_; simp only [slx, ↓reduceIte, Nat.reduceEqDiff, reduceCtorEq]) | (refine aRet ?_; try simp only [slx, ↓reduceIte, Nat.reduceEqDiff, reduceCtorEq]) | (refine hX _ _ ?_; clear hX X) | (clear hX X; refine hX _ _ ?_; clear hX X) | (clear hX X; clear hX X; refine hX _ _ ?_; clear hX X) | (intro hlen; unfold maxLen at hlen) | (apply And.intro; (focus (first | omega | assumption | (repeat' apply And.intro) <;> first | omega | assumption)))))
            refine ⟨⟨hfF1, e2, by unfold maxLen; omega, by omega⟩, ?_⟩
            (repeat (first | (refine aSeq (fun X hX => ?_)) | (refine aBlk ?_) | (refine aSkip ?_) | ((first | refine aReg ?_ | refine aDrw (fun m2 => m2 = _) (by kernel_rfl) rfl ?_); simp -implicitDefEqProofs only [forall_eq, ↓slp, slb, ↓reduceIte, reduceCtorEq, Nat.reduceEqDiff, Nat.reduceAdd, Nat.reduceMul, Nat.reduceLT, Nat.reduceLeDiff, Nat.reduceBEq, Nat.reduceBNe, Int.reduceLE, Int.reduceLT, Int.reduceToNat, Int.reduceEq, tfCeLayL, g0, g3, g4, g5, g6, g7, g8, g9, g10, g11, g12, g13, hw1, gA, gB, gC, uA, hi1, free_ext]; try simp only [Ex.fold, Ex.foldcs, ← Va.pv.eq_1]) | (refine aExit ?_; simp only [slx, ↓reduceIte, Nat.reduceEqDiff, reduceCtorEq]) | (refine aRet ?_; try simp only [slx, ↓reduceIte, Nat.reduceEqDiff, reduceCtorEq]) | (refine hX _ _ ?_; clear hX X) | (clear hX X; refine hX _ _ ?_; clear hX X) | (clear hX X; clear hX X; refine hX _ _ ?_; clear hX X) | (intro hlen; unfold maxLen at hlen) | (apply And.intro; (focus (first | omega | assumption | (repeat' apply And.intro) <;> first | omega | assumption)))))
            have hsn := fields_snoc hFF (by omega) str c (by rw [hFq]; exact hfr)
            rw [hFq] at hsn
            have hrange : (List.range (q + 1)).map (fun t => ((cs ++ [c]).take t).sum) = (List.range q).map (fun t => (cs.take t).sum) ++ [cs.sum] := by
              rw [List.range_succ, List.map_append]
              congr 1
              · refine List.map_congr_left (fun t ht => ?_)
                rw [List.take_append_of_le_length (by have := List.mem_range.1 ht; omega)]
              · simp [← hcl]
            have hsum' : (cs ++ [c]).sum = cs.sum + c := by simp
            rw [hI2]
            refine ⟨⟨q + 1, i4, FF ++ [⟨nmF q, str⟩], cs ++ [c], .tok ((oO.use mb).fresh 1).nt, .tok mb.nt, _, hqn, hsn, by simp [hFq], g0, g3, g4, g5, g6, g7, g8, by rw [hsum']; rfl, by rw [hrange, List.map_append]; rfl, rfl, rfl, ?_, ?_, ?_, ?_, ?_, ?_, ?_, d1, ?_, ?_⟩, ?_⟩
            · rw [ext_nb, upd_nb]; exact Nat.lt_of_lt_of_le hs3 (Nat.le_add_right _ _)
            · rw [ext_old' (by rw [upd_nb]; omega), M.get_upd, if_neg (fun h => by omega), fresh_get, use_get, fresh_get, use_get]; exact hb0
            · rw [ext_old' (by rw [upd_nb]; exact hs3), M.get_upd, if_pos ⟨rfl, hs3⟩, List.map_append]; rfl
            · rw [free_ext, free_upd]; exact free_other fS1 (fun t h => (d2 t h).1)
            · rw [free_ext, free_upd]; exact free_other fZ1 (fun t h => (d2 t h).2.1)
            · rw [free_ext, free_upd]; exact free_new _ _ _
            · rw [free_ext, free_upd]; exact free_other (free_new mb oO 1) (fun t h h' => free_ne hfF (by rw [h, h']))
            · intro t h
              cases h
              exact ⟨free_ne fS1, free_ne fZ1, fun h => free_ne (free_new mb oO 1) h⟩
            · intro t h
              cases h
              exact ⟨free_ne hfS2, free_ne hfZ2, fun h => free_ne (free_new mb oO 1) h.symm⟩
            · rw [hme]; omega
          clear hX
          refine aIf ?_; simp -implicitDefEqProofs only [↓slp, slb, ↓reduceIte, reduceCtorEq, Nat.reduceEqDiff, Nat.reduceAdd, Nat.reduceMul, Nat.reduceLT, Nat.reduceLeDiff, Nat.reduceBEq, Nat.reduceBNe, Int.reduceLE, Int.reduceLT, Int.reduceToNat, Int.reduceEq]
          (repeat (first | (refine aSeq (fun X hX => ?_)) | (refine aBlk ?_) | (refine aSkip ?_) | ((first | refine aReg ?_ | refine aDrw (fun m2 => m2 = _) (by kernel_rfl) rfl ?_); simp -implicitDefEqProofs only [forall_eq, ↓slp, slb, ↓reduceIte, reduceCtorEq, Nat.reduceEqDiff, Nat.reduceAdd, Nat.reduceMul, Nat.reduceLT, Nat.reduceLeDiff, Nat.reduceBEq, Nat.reduceBNe, Int.reduceLE, Int.reduceLT, Int.reduceToNat, Int.reduceEq, tfCeLayL, g0, g3, g4, g5, g6, g7, g8, g9, g10, g11, hB]; try simp only [Ex.fold, Ex.foldcs, ← Va.pv.eq_1]) | (refine aExit ?_; simp only [slx, ↓reduceIte, Nat.reduceEqDiff, reduceCtorEq]) | (refine aRet ?_; try simp only [slx, ↓reduceIte, Nat.reduceEqDiff, reduceCtorEq]) | (refine hX _ _ ?_; clear hX X) | (clear hX X; refine hX _ _ ?_; clear hX X) | (clear hX X; clear hX X; refine hX _ _ ?_; clear hX X) | (intro hlen; unfold maxLen at hlen) | (apply And.intro; (focus (first | omega | assumption | (repeat' apply And.intro) <;> first | omega | assumption)))))
          refine callM (nextC_any p _ (hokb.ext _) i3) ?_
          rintro v m' ⟨r2, i4, rfl, hr2, rfl⟩
          obtain ⟨j, hj, hjk⟩ := tmod_nat hr2.1 k hkp
          have hk0 : ¬ ((k : Int) = 0) := by omega
          have hjZ : j < Z.length := by omega
          have gz := getD_map pI Z j hjZ
          have gc : (pI Z[j]).cells = [pI Z[j]] := rfl
          simp -implicitDefEqProofs only [↓slp, slb, ↓reduceIte, reduceCtorEq, Nat.reduceEqDiff, Nat.reduceAdd, Nat.reduceMul, Nat.reduceLT, Nat.reduceLeDiff, Nat.reduceBEq, Nat.reduceBNe, Int.reduceLE, Int.reduceLT, Int.reduceToNat, Int.reduceEq, tfCeLayL, g0, g3, g4, g5, g6, g7, g8, g9, g10, g11, hB, hj, hk0]; try simp only [Ex.fold, Ex.foldcs, ← Va.pv.eq_1]
          (repeat (first | (refine aSeq (fun X hX => ?_)) | (refine aBlk ?_) | (refine aSkip ?_) | ((first | refine aReg ?_ | refine aDrw (fun m2 => m2 = _) (by kernel_rfl) rfl ?_); simp -implicitDefEqProofs only [forall_eq, ↓slp, slb, ↓reduceIte, reduceCtorEq, Nat.reduceEqDiff, Nat.reduceAdd, Nat.reduceMul, Nat.reduceLT, Nat.reduceLeDiff, Nat.reduceBEq, Nat.reduceBNe, Int.reduceLE, Int.reduceLT, Int.reduceToNat, Int.reduceEq, tfCeLayL, g0, g3, g4, g5, g6, g7, g8, g9, g10, g11, hB, hj, hk0]; try simp only [Ex.fold, Ex.foldcs, ← Va.pv.eq_1]) | (refine aExit ?_; simp only [slx, ↓reduceIte, Nat.reduceEqDiff, reduceCtorEq]) | (refine aRet ?_; try simp only [slx, ↓reduceIte, Nat.reduceEqDiff, reduceCtorEq]) | (refine hX _ _ ?_; clear hX X) | (clear hX X; refine hX _ _ ?_; clear hX X) | (clear hX X; clear hX X; refine hX _ _ ?_; clear hX X) | (intro hlen; unfold maxLen at hlen) | (apply And.intro; (focus (first | omega | assumption | (repeat' apply And.intro) <;> first | omega | assumption)))))
          refine callE (letterC_any j (by omega) _) ?_
          have hv : (strOf [((97 + j : Nat) : Int)]).size = 1 := rfl
          simp -implicitDefEqProofs only [↓slp, slb, ↓reduceIte, reduceCtorEq, Nat.reduceEqDiff, Nat.reduceAdd, Nat.reduceMul, Nat.reduceLT, Nat.reduceLeDiff, Nat.reduceBEq, Nat.reduceBNe, Int.reduceLE, Int.reduceLT, Int.reduceToNat, Int.reduceEq, tfCeLayL, g0, g3, g4, g5, g6, g7, g8, g9, g10, g11, hB, pS]; try simp only [Ex.fold, Ex.foldcs, ← Va.pv.eq_1]
          refine ⟨by omega, ?_⟩
          (repeat (first | (refine aSeq (fun X hX => ?_)) | (refine aBlk ?_) | (refine aSkip ?_) | ((first | refine aReg ?_ | refine aDrw (fun m2 => m2 = _) (by kernel_rfl) rfl ?_); simp -implicitDefEqProofs only [forall_eq, ↓slp, slb, ↓reduceIte, reduceCtorEq, Nat.reduceEqDiff, Nat.reduceAdd, Nat.reduceMul, Nat.reduceLT, Nat.reduceLeDiff, Nat.reduceBEq, Nat.reduceBNe, Int.reduceLE, Int.reduceLT, Int.reduceToNat, Int.reduceEq, tfCeLayL, g0, g3, g4, g5, g6, g7, g8, g9, g10, g11, hB, gz, gc]; try simp only [Ex.fold, Ex.foldcs, ← Va.pv.eq_1]) | (refine aExit ?_; simp only [slx, ↓reduceIte, Nat.reduceEqDiff, reduceCtorEq]) | (refine aRet ?_; try simp only [slx, ↓reduceIte, Nat.reduceEqDiff, reduceCtorEq]) | (refine hX _ _ ?_; clear hX X) | (clear hX X; refine hX _ _ ?_; clear hX X) | (clear hX X; clear hX X; refine hX _ _ ?_; clear hX X) | (intro hlen; unfold maxLen at hlen) | (apply And.intro; (focus (first | omega | assumption | (repeat' apply And.intro) <;> first | omega | assumption)))))
          exact join _ i4 (nmS j) Z[j] (.inr ⟨j, hjZ, rfl, rfl⟩) g0 g3 g4 g5 g6 g7 g8 g9 g10 g11 rfl rfl
end Go.Proofs.Ytepjjgnkhcjpcaa
