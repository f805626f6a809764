/-
  clite's structs: the place of one, how many cells it has, where a field begins.
-/
import Derived.Test.YtepjjgnkhcjpcaaAbKit
import Derived.Test.YtepjjgnkhcjpcaaAbEx
import Derived.Test.YtepjjgnkhcjpcaaAbToks
set_option linter.unusedVariables false
set_option linter.unusedSimpArgs false
namespace Go.Proofs.Ytepjjgnkhcjpcaa
open Go
-- EXX: Pa.cells_pv, Sr.cells_pv
set_option maxRecDepth 20000

/-- A field, a struct. -/
structure Pa where
  name : Str
  str : Str
structure Sr where
  name : Str
  fields : List Pa
def Pa.pv (x : Pa) : PV := .ag [.v (.string x.name), .v (.string x.str)]
def Sr.pv (x : Sr) : PV := .ag [.v (.string x.name), .sl .no (x.fields.map Pa.pv)]
theorem Pa.cells_pv (x : Pa) : x.pv.cells = [.v (.string x.name), .v (.string x.str)] := rfl
theorem Sr.cells_pv (x : Sr) : x.pv.cells = [.v (.string x.name), .sl .no (x.fields.map Pa.pv)] := rfl

-- TNAMES: int; string; bool; []clite.Struct; clite.Struct; []clite.Part; clite.Part; []clite.Func; clite.Func; clite.Prog
set_option linter.defProp false
def tfCeLay := And.intro @nk_1 (And.intro @td_2 (And.intro @zv_2 (And.intro @Try.underlying2 (And.intro @td_3 (And.intro @zv_3 (And.intro @Try.underlying3 (And.intro @td_4 (And.intro @zv_4 (And.intro @Try.underlying4 (And.intro @td_5 (And.intro @zv_5 (And.intro @Try.underlying5 (And.intro @td_6 (And.intro @zv_6 (And.intro @Try.underlying6 (And.intro @td_7 (And.intro @zv_7 (And.intro @tf_7 (And.intro @td_8 (And.intro @zv_8 (And.intro @tf_8 (And.intro @td_9 (And.intro @zv_9 (And.intro @Try.underlying9 (And.intro @td_10 (And.intro @zv_10 (And.intro @Try.underlying10 (And.intro @td_11 (And.intro @zv_11 (And.intro @Try.underlying11 (And.intro @td_12 (And.intro @zv_12 (And.intro @Try.underlying12 (And.intro @td_13 (And.intro @zv_13 (And.intro @tf_13 (And.intro @td_14 (And.intro @zv_14 (And.intro @tf_14 (And.intro @nk_15 (And.intro @td_15 (And.intro @zv_15 (And.intro @Try.underlying15 (And.intro @nk_16 (And.intro @td_16 (And.intro @zv_16 (And.intro @Try.underlying16 (And.intro @nk_17 (And.intro @td_17 (And.intro @zv_17 (And.intro @Try.underlying17 (And.intro @td_18 (And.intro @zv_18 (And.intro @tf_18 (And.intro @td_19 (And.intro @zv_19 (And.intro @tf_19 (And.intro @nk_20 (And.intro @td_20 (And.intro @zv_20 (And.intro @td_21 (And.intro @zv_21 (And.intro @Try.underlying21 (And.intro @td_22 (And.intro @zv_22 (And.intro @tel_22 (And.intro @Try.underlying22 (And.intro @nk_23 (And.intro @td_24 (And.intro @zv_24 (And.intro @tel_24 (And.intro @Try.underlying24 (And.intro @td_25 (And.intro @zv_25 (And.intro @tel_25 (And.intro @Try.underlying25 (And.intro @td_26 (And.intro @zv_26 (And.intro @tf_26 (And.intro @td_27 (And.intro @zv_27 (And.intro @tf_27 (And.intro @td_28 (And.intro @zv_28 (And.intro @tel_28 (And.intro @Try.underlying28 (And.intro @nk_29 (And.intro @td_30 (And.intro @zv_30 (And.intro @tel_30 (And.intro @Try.underlying30 (And.intro @td_31 (And.intro @zv_31 (And.intro @tf_31 (And.intro @td_32 (And.intro @zv_32 (And.intro @tf_32 (And.intro @nk_33 (And.intro @nk_34 (And.intro @td_34 (And.intro @zv_34 (And.intro @Try.underlying34 (And.intro @td_35 (And.intro @zv_35 (And.intro @tf_35 (And.intro @fl_35 (And.intro @td_36 (And.intro @zv_36 (And.intro @tf_36 (And.intro @fl_36 (And.intro @nk_37 (And.intro @nk_39 (And.intro @nk_40 (And.intro @td_41 (And.intro @zv_41 (And.intro @tel_41 (And.intro @Try.underlying41 (And.intro @td_42 (And.intro @zv_42 (And.intro @tf_42 (And.intro @td_43 (And.intro @zv_43 (And.intro @tf_43 (And.intro @nk_44 (And.intro @td_45 (And.intro @zv_45 (And.intro @tel_45 (And.intro @Try.underlying45 (And.intro @td_46 (And.intro @zv_46 (And.intro @tel_46 (And.intro @Try.underlying46 (And.intro @td_47 (And.intro @zv_47 (And.intro @tf_47 (And.intro @td_48 (And.intro @zv_48 (And.intro @tf_48 (And.intro @td_49 (And.intro @zv_49 (And.intro @tf_49 (And.intro @td_50 (And.intro @zv_50 (And.intro @tf_50 (And.intro @nk_51 (And.intro @nk_52 (And.intro @td_52 (And.intro @zv_52 (And.intro @Try.underlying52 (And.intro @td_53 (And.intro @zv_53 (And.intro @Try.underlying53 (And.intro @nk_55 (And.intro @td_56 (And.intro @zv_56 (And.intro @tel_56 (And.intro @Try.underlying56 (And.intro @nk_58 (And.intro @nk_59 (And.intro @nk_60 (And.intro @nk_61 (And.intro @nk_62 (And.intro @nk_63 (And.intro @td_64 (And.intro @zv_64 (And.intro @Try.underlying64 (And.intro @nk_65 (And.intro @nk_66 (And.intro @nk_67 (And.intro @td_67 (And.intro @zv_67 (And.intro @Try.underlying67 (And.intro @td_68 (And.intro @zv_68 (And.intro @tel_68 (And.intro @Try.underlying68 (And.intro @td_69 (And.intro @zv_69 (And.intro @tf_69 (And.intro @tel_69 (And.intro @ta_69 (And.intro @Try.underlying69 (And.intro @td_70 (And.intro @zv_70 (And.intro @tf_70 (And.intro @tel_70 (And.intro @ta_70 (And.intro @Try.underlying70 (And.intro @td_71 (And.intro @zv_71 (And.intro @tf_71 (And.intro @td_72 (And.intro @zv_72 (And.intro @tf_72 (And.intro @nk_73 (And.intro @nk_74 (And.intro @nk_75 (And.intro @nk_76 (And.intro @nk_77 (And.intro @nk_78 (And.intro @nk_79 (And.intro @nk_80 (And.intro @nk_81 (And.intro @nk_82 (And.intro @nk_83 (And.intro @td_84 (And.intro @zv_84 (And.intro @Try.underlying84 (And.intro @td_85 (And.intro @zv_85 (And.intro @tf_85 (And.intro @td_86 (And.intro @zv_86 (And.intro @tf_86 (And.intro @td_87 (And.intro @zv_87 (And.intro @tf_87 (And.intro @fl_87 (And.intro @td_88 (And.intro @zv_88 (And.intro @tf_88 (And.intro @fl_88 (And.intro @nk_89 (And.intro @nk_90 (And.intro @nk_91 (And.intro @nk_92 (And.intro @nk_93 (And.intro @nk_94 (And.intro @nk_95 (And.intro @nk_96 (And.intro @nk_97 (And.intro @td_97 (And.intro @zv_97 (And.intro @Try.underlying97 (And.intro @td_98 (And.intro @zv_98 (And.intro @td_99 (And.intro @zv_99 (And.intro @tf_99 (And.intro @td_100 (And.intro @zv_100 (And.intro @tf_100 (And.intro @nk_101 (And.intro @nk_102 (And.intro @nk_103 (And.intro @nk_105 (And.intro @nk_106 (And.intro @td_107 (And.intro @zv_107 (And.intro @tf_107 (And.intro @tel_107 (And.intro @ta_107 (And.intro @Try.underlying107 (And.intro @nk_108 (And.intro @td_109 (And.intro @zv_109 (And.intro @tf_109 (And.intro @td_110 (And.intro @zv_110 (And.intro @tf_110 (And.intro @td_111 (And.intro @zv_111 (And.intro @tf_111 (And.intro @tel_111 (And.intro @ta_111 (And.intro @Try.underlying111 (And.intro @td_112 (And.intro @zv_112 (And.intro @tf_112 (And.intro @td_113 (And.intro @zv_113 (And.intro @tf_113 (And.intro @nk_114 (And.intro @td_115 (And.intro @zv_115 (And.intro @Try.underlying115 (And.intro @td_116 (And.intro @zv_116 (And.intro @Try.underlying116 (And.intro @td_117 (And.intro @zv_117 (And.intro @Try.underlying117 (And.intro @nk_118 (And.intro @nk_119 (And.intro @td_119 (And.intro @zv_119 (And.intro @Try.underlying119 (And.intro @td_120 (And.intro @zv_120 (And.intro @Try.underlying120 (And.intro @td_121 (And.intro @zv_121 (And.intro @Try.underlying121 (And.intro @td_122 (And.intro @zv_122 (And.intro @tf_122 (And.intro @td_123 (And.intro @zv_123 (And.intro @tf_123 (And.intro @td_124 (And.intro @zv_124 (And.intro @Ex.settle_pv (And.intro @Ex.pure_pv (And.intro @Ex.cells_pv (And.intro @Ex.cs.eq_1 (And.intro @On.pv.eq_1 (And.intro @Ty.pv.eq_1 (And.intro @Va.settle_pv (And.intro @Va.pure_pv (And.intro @Va.cells_pv (And.intro @Va.cs.eq_1 (And.intro @Pa.cells_pv @Sr.cells_pv))))))))))))))))))))))))))))))))))))))))))))))))))))))))))))))))))))))))))))))))))))))))))))))))))))))))))))))))))))))))))))))))))))))))))))))))))))))))))))))))))))))))))))))))))))))))))))))))))))))))))))))))))))))))))))))))))))))))))))))))))))))))))))))))))))))))))))))))))))))))))))))))))))))))))))))))))))))))
def idxF {α : Type} (p : α → Bool) : List α → Nat → Int
  | [], _ => -1
  | a :: l, k => if p a then k else idxF p l (k + 1)
theorem idxF_drop {α : Type} {p : α → Bool} {l : List α} {k : Nat} (h : k < l.length) : idxF p (l.drop k) k = if p l[k] then (k : Int) else idxF p (l.drop (k + 1)) (k + 1) := by
  rw [List.drop_eq_getElem_cons h, idxF]
theorem idxF_in {α : Type} {p : α → Bool} : ∀ (l : List α) (n : Nat), idxF p l n = -1 ∨ ∃ k, k < l.length ∧ idxF p l n = ((n + k : Nat) : Int)
  | [], n => .inl rfl
  | a :: l, n => by
    unfold idxF
    split
    · exact .inr ⟨0, by simp, rfl⟩
    · rcases idxF_in l (n + 1) with h | ⟨k, h, h1⟩
      · exact .inl h
      · exact .inr ⟨k + 1, by simpa using h, by rw [h1]; congr 1; omega⟩

set_option maxRecDepth 20000 in
set_option maxHeartbeats 400000 in
theorem idxSr_any (o : Own) (l : List Sr) (p : Sr → Bool) (g : FuncId) (c : PV) (m : M) (hf : ∀ k (hk : k < l.length) (m : M), ACalls Try.prog g [Sr.pv l[k], c] m (fun v m' => v = pB (p l[k]) ∧ m' = m)) :
    ACalls Try.prog 29 [.sl o (l.map (Sr.pv)), .fn (.func g) [] [c]] m (fun v m' => v = pI (idxF p l 0) ∧ m' = m) := by
  refine ACalls.enter (mu := []) ok_mix Try.func29 rfl (by kernel_rfl) (by kernel_rfl) (by simp only [List.length_cons, List.length_nil, Try.ntmps29]; omega) ?_
  (repeat (first | (refine aSeq (fun X hX => ?_)) | (refine aBlk ?_) | (refine aSkip ?_) | ((first | refine aReg ?_ | refine aDrw (fun m2 => m2 = _) (by kernel_rfl) rfl ?_); simp -implicitDefEqProofs only [forall_eq, ↓slp, slb, ↓reduceIte, reduceCtorEq, Nat.reduceEqDiff, Nat.reduceAdd, Nat.reduceMul, Nat.reduceLT, Nat.reduceLeDiff, Nat.reduceBEq, Nat.reduceBNe, Int.reduceLE, Int.reduceLT, Int.reduceToNat, Int.reduceEq, tfCeLay]; try simp only [Ex.fold, Ex.foldcs, ← Va.pv.eq_1]) | (refine aExit ?_; simp only [slx, ↓reduceIte, Nat.reduceEqDiff, reduceCtorEq]) | (refine aRet ?_; try simp only [slx, ↓reduceIte, Nat.reduceEqDiff, reduceCtorEq]) | (refine hX _ _ ?_; clear hX X) | (clear hX X; refine hX _ _ ?_; clear hX X) | (clear hX X; clear hX X; refine hX _ _ ?_; clear hX X) | (intro hlen; unfold maxLen at hlen) | (apply And.intro; (focus (first | omega | assumption | (repeat' apply And.intro) <;> first | omega | assumption)))))
  obtain ⟨I, hI⟩ : ∃ I : F → M → Prop, ∀ f m', I f m' = (∃ k : Nat, k ≤ l.length ∧ f 0 = .sl o (l.map (Sr.pv)) ∧ f 1 = .fn (.func g) [] [c] ∧ f 7 = pI l.length ∧ f 8 = pI k ∧ idxF p l 0 = idxF p (l.drop k) k ∧ m' = m) := ⟨_, fun _ _ => rfl⟩
  refine aLoop I (fun f m => l.length - numOf (f 8)) ?_ ?_
  · rw [hI]; exact ⟨0, by omega, rfl, rfl, rfl, rfl, rfl, rfl⟩
  intro f m' hrel
  rw [hI] at hrel
  obtain ⟨k, hk, h0, h1, h7, h8, hs, rfl⟩ := hrel
  (repeat (first | (refine aSeq (fun X hX => ?_)) | (refine aBlk ?_) | (refine aSkip ?_) | ((first | refine aReg ?_ | refine aDrw (fun m2 => m2 = _) (by kernel_rfl) rfl ?_); simp -implicitDefEqProofs only [forall_eq, ↓slp, slb, ↓reduceIte, reduceCtorEq, Nat.reduceEqDiff, Nat.reduceAdd, Nat.reduceMul, Nat.reduceLT, Nat.reduceLeDiff, Nat.reduceBEq, Nat.reduceBNe, Int.reduceLE, Int.reduceLT, Int.reduceToNat, Int.reduceEq, tfCeLay, h0, h1, h7, h8, pI]; try simp only [Ex.fold, Ex.foldcs, ← Va.pv.eq_1]) | (refine aExit ?_; simp only [slx, ↓reduceIte, Nat.reduceEqDiff, reduceCtorEq]) | (refine aRet ?_; try simp only [slx, ↓reduceIte, Nat.reduceEqDiff, reduceCtorEq]) | (refine hX _ _ ?_; clear hX X) | (clear hX X; refine hX _ _ ?_; clear hX X) | (clear hX X; clear hX X; refine hX _ _ ?_; clear hX X) | (intro hlen; unfold maxLen at hlen) | (apply And.intro; (focus (first | omega | assumption | (repeat' apply And.intro) <;> first | omega | assumption)))))
  refine aIf ?_; simp -implicitDefEqProofs only [↓slp, slb, ↓reduceIte, reduceCtorEq, Nat.reduceEqDiff, Nat.reduceAdd, Nat.reduceMul, Nat.reduceLT, Nat.reduceLeDiff, Nat.reduceBEq, Nat.reduceBNe, Int.reduceLE, Int.reduceLT, Int.reduceToNat, Int.reduceEq]; refine ⟨fun hb => ?_, fun hb => ?_⟩
  · have hlt : k < l.length := by simpa using hb
    have g0 := getD_map (Sr.pv) l k hlt
    have hi : IntKind.i64.wrap ((k : Int) + 1) = ((k + 1 : Nat) : Int) := by rw [wrap64 (by omega)]; omega
    have hd := idxF_drop (p := p) hlt
    (repeat (first | (refine aSeq (fun X hX => ?_)) | (refine aBlk ?_) | (refine aSkip ?_) | ((first | refine aReg ?_ | refine aDrw (fun m2 => m2 = _) (by kernel_rfl) rfl ?_); simp -implicitDefEqProofs only [forall_eq, ↓slp, slb, ↓reduceIte, reduceCtorEq, Nat.reduceEqDiff, Nat.reduceAdd, Nat.reduceMul, Nat.reduceLT, Nat.reduceLeDiff, Nat.reduceBEq, Nat.reduceBNe, Int.reduceLE, Int.reduceLT, Int.reduceToNat, Int.reduceEq, tfCeLay, h0, h1, h7, h8, pI, g0]; try simp only [Ex.fold, Ex.foldcs, ← Va.pv.eq_1]) | (refine aExit ?_; simp only [slx, ↓reduceIte, Nat.reduceEqDiff, reduceCtorEq]) | (refine aRet ?_; try simp only [slx, ↓reduceIte, Nat.reduceEqDiff, reduceCtorEq]) | (refine hX _ _ ?_; clear hX X) | (clear hX X; refine hX _ _ ?_; clear hX X) | (clear hX X; clear hX X; refine hX _ _ ?_; clear hX X) | (intro hlen; unfold maxLen at hlen) | (apply And.intro; (focus (first | omega | assumption | (repeat' apply And.intro) <;> first | omega | assumption)))))
    refine callE (hf k hlt _) ?_
    simp -implicitDefEqProofs only [↓slp, slb, ↓reduceIte, reduceCtorEq, Nat.reduceEqDiff, Nat.reduceAdd, Nat.reduceMul, Nat.reduceLT, Nat.reduceLeDiff, Nat.reduceBEq, Nat.reduceBNe, Int.reduceLE, Int.reduceLT, Int.reduceToNat, Int.reduceEq, tfCeLay, h0, h1, h7, h8, pI, pB]; try simp only [Ex.fold, Ex.foldcs, ← Va.pv.eq_1]
    cases c1 : p l[k] with
    | true =>
      (repeat (first | (refine aSeq (fun X hX => ?_)) | (refine aBlk ?_) | (refine aSkip ?_) | ((first | refine aReg ?_ | refine aDrw (fun m2 => m2 = _) (by kernel_rfl) rfl ?_); simp -implicitDefEqProofs only [forall_eq, ↓slp, slb, ↓reduceIte, reduceCtorEq, Nat.reduceEqDiff, Nat.reduceAdd, Nat.reduceMul, Nat.reduceLT, Nat.reduceLeDiff, Nat.reduceBEq, Nat.reduceBNe, Int.reduceLE, Int.reduceLT, Int.reduceToNat, Int.reduceEq, tfCeLay, h0, h1, h7, h8, pI, g0, c1]; try simp only [Ex.fold, Ex.foldcs, ← Va.pv.eq_1]) | (refine aExit ?_; simp only [slx, ↓reduceIte, Nat.reduceEqDiff, reduceCtorEq]) | (refine aRet ?_; try simp only [slx, ↓reduceIte, Nat.reduceEqDiff, reduceCtorEq]) | (refine hX _ _ ?_; clear hX X) | (clear hX X; refine hX _ _ ?_; clear hX X) | (clear hX X; clear hX X; refine hX _ _ ?_; clear hX X) | (intro hlen; unfold maxLen at hlen) | (apply And.intro; (focus (first | omega | assumption | (repeat' apply And.intro) <;> first | omega | assumption)))))
      refine aIf ?_; simp -implicitDefEqProofs only [↓slp, slb, ↓reduceIte, reduceCtorEq, Nat.reduceEqDiff, Nat.reduceAdd, Nat.reduceMul, Nat.reduceLT, Nat.reduceLeDiff, Nat.reduceBEq, Nat.reduceBNe, Int.reduceLE, Int.reduceLT, Int.reduceToNat, Int.reduceEq, c1]
      (repeat (first | (refine aSeq (fun X hX => ?_)) | (refine aBlk ?_) | (refine aSkip ?_) | ((first | refine aReg ?_ | refine aDrw (fun m2 => m2 = _) (by kernel_rfl) rfl ?_); simp -implicitDefEqProofs only [forall_eq, ↓slp, slb, ↓reduceIte, reduceCtorEq, Nat.reduceEqDiff, Nat.reduceAdd, Nat.reduceMul, Nat.reduceLT, Nat.reduceLeDiff, Nat.reduceBEq, Nat.reduceBNe, Int.reduceLE, Int.reduceLT, Int.reduceToNat, Int.reduceEq, tfCeLay]; try simp only [Ex.fold, Ex.foldcs, ← Va.pv.eq_1]) | (refine aExit ?_; simp only [slx, ↓reduceIte, Nat.reduceEqDiff, reduceCtorEq]) | (refine aRet ?_; try simp only [slx, ↓reduceIte, Nat.reduceEqDiff, reduceCtorEq]) | (refine hX _ _ ?_; clear hX X) | (clear hX X; refine hX _ _ ?_; clear hX X) | (clear hX X; clear hX X; refine hX _ _ ?_; clear hX X) | (intro hlen; unfold maxLen at hlen) | (apply And.intro; (focus (first | omega | assumption | (repeat' apply And.intro) <;> first | omega | assumption)))))
      simp only [aPost, Try.results29, aRes_n, aRes_t, aRes_c, pack_one, pack_two]
      refine leave_same rfl ⟨?_, rfl⟩
      have hv : idxF p l 0 = (k : Int) := by rw [hs, hd]; simp [c1]
      rw [hv]; rfl
    | false =>
      (repeat (first | (refine aSeq (fun X hX => ?_)) | (refine aBlk ?_) | (refine aSkip ?_) | ((first | refine aReg ?_ | refine aDrw (fun m2 => m2 = _) (by kernel_rfl) rfl ?_); simp -implicitDefEqProofs only [forall_eq, ↓slp, slb, ↓reduceIte, reduceCtorEq, Nat.reduceEqDiff, Nat.reduceAdd, Nat.reduceMul, Nat.reduceLT, Nat.reduceLeDiff, Nat.reduceBEq, Nat.reduceBNe, Int.reduceLE, Int.reduceLT, Int.reduceToNat, Int.reduceEq, tfCeLay, h0, h1, h7, h8, pI, g0, c1]; try simp only [Ex.fold, Ex.foldcs, ← Va.pv.eq_1]) | (refine aExit ?_; simp only [slx, ↓reduceIte, Nat.reduceEqDiff, reduceCtorEq]) | (refine aRet ?_; try simp only [slx, ↓reduceIte, Nat.reduceEqDiff, reduceCtorEq]) | (refine hX _ _ ?_; clear hX X) | (clear hX X; refine hX _ _ ?_; clear hX X) | (clear hX X; clear hX X; refine hX _ _ ?_; clear hX X) | (intro hlen; unfold maxLen at hlen) | (apply And.intro; (focus (first | omega | assumption | (repeat' apply And.intro) <;> first | omega | assumption)))))
      refine aIf ?_; simp -implicitDefEqProofs only [↓slp, slb, ↓reduceIte, reduceCtorEq, Nat.reduceEqDiff, Nat.reduceAdd, Nat.reduceMul, Nat.reduceLT, Nat.reduceLeDiff, Nat.reduceBEq, Nat.reduceBNe, Int.reduceLE, Int.reduceLT, Int.reduceToNat, Int.reduceEq, c1]
      (repeat (first | (refine aSeq (fun X hX => ?_)) | (refine aBlk ?_) | (refine aSkip ?_) | ((first | refine aReg ?_ | refine aDrw (fun m2 => m2 = _) (by kernel_rfl) rfl ?_); simp -implicitDefEqProofs only [forall_eq, ↓slp, slb, ↓reduceIte, reduceCtorEq, Nat.reduceEqDiff, Nat.reduceAdd, Nat.reduceMul, Nat.reduceLT, Nat.reduceLeDiff, Nat.reduceBEq, Nat.reduceBNe, Int.reduceLE, Int.reduceLT, Int.reduceToNat, Int.reduceEq, tfCeLay, h0, h1, h7, h8, pI, hi]; try simp only [Ex.fold, Ex.foldcs, ← Va.pv.eq_1]) | (refine aExit ?_; simp only [slx, ↓reduceIte, Nat.reduceEqDiff, reduceCtorEq]) | (refine aRet ?_; try simp only [slx, ↓reduceIte, Nat.reduceEqDiff, reduceCtorEq]) | (refine hX _ _ ?_; clear hX X) | (clear hX X; refine hX _ _ ?_; clear hX X) | (clear hX X; clear hX X; refine hX _ _ ?_; clear hX X) | (intro hlen; unfold maxLen at hlen) | (apply And.intro; (focus (first | omega | assumption | (repeat' apply And.intro) <;> first | omega | assumption)))))
      rw [hI]
      refine ⟨⟨k + 1, hlt, h0, h1, h7, rfl, by rw [hs, hd]; simp [c1], rfl⟩, ?_⟩
      first | omega | (simp only [↓slp, slb, ↓reduceIte, reduceCtorEq, Nat.reduceEqDiff, Nat.reduceAdd, Nat.reduceMul, Nat.reduceLT, Nat.reduceLeDiff, Nat.reduceBEq, Nat.reduceBNe, Int.reduceLE, Int.reduceLT, Int.reduceToNat, Int.reduceEq, h8, pI]; omega)
  · have hlt : k = l.length := by simp at hb; omega
    subst hlt
    (repeat (first | (refine aSeq (fun X hX => ?_)) | (refine aBlk ?_) | (refine aSkip ?_) | ((first | refine aReg ?_ | refine aDrw (fun m2 => m2 = _) (by kernel_rfl) rfl ?_); simp -implicitDefEqProofs only [forall_eq, ↓slp, slb, ↓reduceIte, reduceCtorEq, Nat.reduceEqDiff, Nat.reduceAdd, Nat.reduceMul, Nat.reduceLT, Nat.reduceLeDiff, Nat.reduceBEq, Nat.reduceBNe, Int.reduceLE, Int.reduceLT, Int.reduceToNat, Int.reduceEq, tfCeLay]; try simp only [Ex.fold, Ex.foldcs, ← Va.pv.eq_1]) | (refine aExit ?_; simp only [slx, ↓reduceIte, Nat.reduceEqDiff, reduceCtorEq]) | (refine aRet ?_; try simp only [slx, ↓reduceIte, Nat.reduceEqDiff, reduceCtorEq]) | (refine hX _ _ ?_; clear hX X) | (clear hX X; refine hX _ _ ?_; clear hX X) | (clear hX X; clear hX X; refine hX _ _ ?_; clear hX X) | (intro hlen; unfold maxLen at hlen) | (apply And.intro; (focus (first | omega | assumption | (repeat' apply And.intro) <;> first | omega | assumption)))))
    simp only [aPost, Try.results29, aRes_n, aRes_t, aRes_c, pack_one, pack_two]
    refine leave_same rfl ⟨?_, rfl⟩
    have hv : idxF p l 0 = -1 := by rw [hs]; simp [idxF]
    rw [hv]; rfl

/-- A program of structs. -/
def progPV (o o2 : Own) (L : List Sr) (fs : List PV) : PV := .ag [.sl o (L.map Sr.pv), .sl o2 fs]
def isSr (name : Str) (s : Sr) : Bool := s.name.toList == name.toList
def findS (L : List Sr) (name : Str) : Int := idxF (isSr name) L 0
theorem findS_in (L : List Sr) (name : Str) : findS L name = -1 ∨ ∃ k, k < L.length ∧ findS L name = (k : Int) := by
  rcases idxF_in (p := isSr name) L 0 with h | ⟨k, h, h1⟩
  · exact .inl h
  · exact .inr ⟨k, h, by rw [findS, h1]; simp⟩
theorem isSr_any (s : Sr) (name : Str) (m : M) : ACalls Try.prog 30 [s.pv, .ep [.v (.string name)]] m (fun v m' => v = pB (isSr name s) ∧ m' = m) := by
  unfold Sr.pv
  refine ACalls.enter (mu := []) ok_mix Try.func30 rfl (by kernel_rfl) (by kernel_rfl) (by simp only [List.length_cons, List.length_nil, Try.ntmps30]; omega) ?_
  (repeat (first | (refine aSeq (fun X hX => ?_)) | (refine aBlk ?_) | (refine aSkip ?_) | ((first | refine aReg ?_ | refine aDrw (fun m2 => m2 = _) (by kernel_rfl) rfl ?_); simp -implicitDefEqProofs only [forall_eq, ↓slp, slb, ↓reduceIte, reduceCtorEq, Nat.reduceEqDiff, Nat.reduceAdd, Nat.reduceMul, Nat.reduceLT, Nat.reduceLeDiff, Nat.reduceBEq, Nat.reduceBNe, Int.reduceLE, Int.reduceLT, Int.reduceToNat, Int.reduceEq, tfCeLay]; try simp only [Ex.fold, Ex.foldcs, ← Va.pv.eq_1]) | (refine aExit ?_; simp only [slx, ↓reduceIte, Nat.reduceEqDiff, reduceCtorEq]) | (refine aRet ?_; try simp only [slx, ↓reduceIte, Nat.reduceEqDiff, reduceCtorEq]) | (refine hX _ _ ?_; clear hX X) | (clear hX X; refine hX _ _ ?_; clear hX X) | (clear hX X; clear hX X; refine hX _ _ ?_; clear hX X) | (intro hlen; unfold maxLen at hlen) | (apply And.intro; (focus (first | omega | assumption | (repeat' apply And.intro) <;> first | omega | assumption)))))
  simp only [aPost, Try.results30, aRes_n, aRes_t, aRes_c, pack_one, pack_two]
  exact leave_same rfl ⟨rfl, rfl⟩
theorem find_any (o o2 : Own) (L : List Sr) (fs : List PV) (name : Str) (m : M) : ACalls Try.prog 12 [progPV o o2 L fs, .v (.string name)] m (fun v m' => v = pI (findS L name) ∧ m' = m) := by
  unfold progPV
  refine ACalls.enter (mu := []) ok_mix Try.func12 rfl (by kernel_rfl) (by kernel_rfl) (by simp only [List.length_cons, List.length_nil, Try.ntmps12]; omega) ?_
  (repeat (first | (refine aSeq (fun X hX => ?_)) | (refine aBlk ?_) | (refine aSkip ?_) | ((first | refine aReg ?_ | refine aDrw (fun m2 => m2 = _) (by kernel_rfl) rfl ?_); simp -implicitDefEqProofs only [forall_eq, ↓slp, slb, ↓reduceIte, reduceCtorEq, Nat.reduceEqDiff, Nat.reduceAdd, Nat.reduceMul, Nat.reduceLT, Nat.reduceLeDiff, Nat.reduceBEq, Nat.reduceBNe, Int.reduceLE, Int.reduceLT, Int.reduceToNat, Int.reduceEq, tfCeLay]; try simp only [Ex.fold, Ex.foldcs, ← Va.pv.eq_1]) | (refine aExit ?_; simp only [slx, ↓reduceIte, Nat.reduceEqDiff, reduceCtorEq]) | (refine aRet ?_; try simp only [slx, ↓reduceIte, Nat.reduceEqDiff, reduceCtorEq]) | (refine hX _ _ ?_; clear hX X) | (clear hX X; refine hX _ _ ?_; clear hX X) | (clear hX X; clear hX X; refine hX _ _ ?_; clear hX X) | (intro hlen; unfold maxLen at hlen) | (apply And.intro; (focus (first | omega | assumption | (repeat' apply And.intro) <;> first | omega | assumption)))))
  refine callE (idxSr_any .no L (isSr name) 30 (.ep [.v (.string name)]) _ (fun k hk m => isSr_any _ _ m)) ?_
  simp -implicitDefEqProofs only [↓slp, slb, ↓reduceIte, reduceCtorEq, Nat.reduceEqDiff, Nat.reduceAdd, Nat.reduceMul, Nat.reduceLT, Nat.reduceLeDiff, Nat.reduceBEq, Nat.reduceBNe, Int.reduceLE, Int.reduceLT, Int.reduceToNat, Int.reduceEq, tfCeLay, pI]; try simp only [Ex.fold, Ex.foldcs, ← Va.pv.eq_1]
  (repeat (first | (refine aSeq (fun X hX => ?_)) | (refine aBlk ?_) | (refine aSkip ?_) | ((first | refine aReg ?_ | refine aDrw (fun m2 => m2 = _) (by kernel_rfl) rfl ?_); simp -implicitDefEqProofs only [forall_eq, ↓slp, slb, ↓reduceIte, reduceCtorEq, Nat.reduceEqDiff, Nat.reduceAdd, Nat.reduceMul, Nat.reduceLT, Nat.reduceLeDiff, Nat.reduceBEq, Nat.reduceBNe, Int.reduceLE, Int.reduceLT, Int.reduceToNat, Int.reduceEq, tfCeLay]; try simp only [Ex.fold, Ex.foldcs, ← Va.pv.eq_1]) | (refine aExit ?_; simp only [slx, ↓reduceIte, Nat.reduceEqDiff, reduceCtorEq]) | (refine aRet ?_; try simp only [slx, ↓reduceIte, Nat.reduceEqDiff, reduceCtorEq]) | (refine hX _ _ ?_; clear hX X) | (clear hX X; refine hX _ _ ?_; clear hX X) | (clear hX X; clear hX X; refine hX _ _ ?_; clear hX X) | (intro hlen; unfold maxLen at hlen) | (apply And.intro; (focus (first | omega | assumption | (repeat' apply And.intro) <;> first | omega | assumption)))))
  simp only [aPost, Try.results12, aRes_n, aRes_t, aRes_c, pack_one, pack_two]
  exact leave_same rfl ⟨rfl, rfl⟩

/-- The cells of fields, one behind the other; -1: too many, or one has none. -/
def kF (g : Str → Int) (f : Pa) : Int := if f.str.toList == (⟨#[]⟩ : ByteArray).toList then 1 else g f.str
def sumF (g : Str → Int) : List Pa → Int → Int
  | [], n => n
  | f :: r, n => if kF g f < 0 ∨ n + kF g f > 1073741824 then -1 else sumF g r (n + kF g f)
def sizeF (L : List Sr) : Nat → Str → Int
  | 0, _ => -1
  | d + 1, name => if findS L name < 0 then -1 else sumF (sizeF L d) (L.getD (findS L name).toNat ⟨⟨#[]⟩, []⟩).fields 0
theorem sumF_le (g : Str → Int) : ∀ (l : List Pa) (n : Int), n ≤ 1073741824 → sumF g l n ≤ 1073741824
  | [], n, h => h
  | f :: r, n, h => by
    unfold sumF
    split
    · omega
    · exact sumF_le g r _ (by omega)
theorem sizeF_le (L : List Sr) (d : Nat) (name : Str) : sizeF L d name ≤ 1073741824 := by
  cases d with
  | zero => simp [sizeF]
  | succ d =>
    unfold sizeF
    split
    · omega
    · exact sumF_le _ _ _ (by omega)
end Go.Proofs.Ytepjjgnkhcjpcaa
