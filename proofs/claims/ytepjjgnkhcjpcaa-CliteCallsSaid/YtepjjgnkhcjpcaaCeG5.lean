/-
  Texts that belong together: CeBsD, CeProg, AbMk8c, CeChD, CeCh.
-/
import Derived.Test.YtepjjgnkhcjpcaaCeG4
import Derived.Test.YtepjjgnkhcjpcaaCeMk2
import Derived.Test.YtepjjgnkhcjpcaaCeAw
import Derived.Test.YtepjjgnkhcjpcaaAbKit
/-
  The law's program; what the evaluator does with it.
-/
set_option linter.unusedVariables false
set_option linter.unusedSimpArgs false
namespace Go.Proofs.Ytepjjgnkhcjpcaa
open Go

def sT : Str := ⟨#[116]⟩
def sS : Str := ⟨#[115]⟩
def sFa : Str := ⟨#[102, 97]⟩
def sFb : Str := ⟨#[102, 98]⟩
def sP : Str := ⟨#[112]⟩
def sAdd : Str := ⟨#[97, 100, 100]⟩
def sN : Str := ⟨#[110]⟩
def sO : Str := ⟨#[111]⟩
def sF : Str := ⟨#[102]⟩
def sVa : Str := ⟨#[118, 97]⟩
def sVb : Str := ⟨#[118, 98]⟩
def sE : Str := ⟨#[]⟩
def progL : List Sr := [⟨sT, [⟨sFa, sE⟩, ⟨sFb, sE⟩]⟩, ⟨sS, [⟨sFa, sE⟩, ⟨sP, sT⟩, ⟨sFb, sE⟩]⟩]
def ceL (s : Str) : CE := .mk 2 0 0 s []
def ceF (s : Str) : CE := .mk 3 0 0 s []
def ceZ : CE := .mk 0 0 0 sE []
def addF : CFn := ⟨sAdd, sT, [sN], [sO], [], [.mk 1 sO sE (ceF sFa) [] [] [] [], .mk 2 sFa sE (.mk 5 3 0 sE [ceL sO, ceL sN]) [] [] [] []]⟩
def progF (body : List CS) : List CFn := [addF, ⟨sF, sS, [sVa], [sVb], [], body⟩]
theorem off_fa : offsetF progL sS sFa = (0, sE) := by
  simp [offsetF, findS, idxF, isSr, progL, offF, kF, sizeF, sumF, ByteArray.toList_eq, sT, sS, sFa, sFb, sP, sE]
theorem off_fb : offsetF progL sS sFb = (3, sE) := by
  simp [offsetF, findS, idxF, isSr, progL, offF, kF, sizeF, sumF, ByteArray.toList_eq, sT, sS, sFa, sFb, sP, sE]
theorem off_p : offsetF progL sS sP = (1, sT) := by
  simp [offsetF, findS, idxF, isSr, progL, offF, kF, sizeF, sumF, ByteArray.toList_eq, sT, sS, sFa, sFb, sP, sE]
theorem offT_fa : offsetF progL sT sFa = (0, sE) := by
  simp [offsetF, findS, idxF, isSr, progL, offF, kF, sizeF, sumF, ByteArray.toList_eq, sT, sS, sFa, sFb, sP, sE]
theorem find_f (body : List CS) : findF (progF body) sF = 1 := by
  simp [findF, idxF, progF, addF, ByteArray.toList_eq, sF, sAdd]
theorem find_add (body : List CS) : findF (progF body) sAdd = 0 := by
  simp [findF, idxF, progF, addF, ByteArray.toList_eq, sF, sAdd]
def bodyB : List CS := [.mk 2 sFb sE (ceL sVa) [] [] [] [], .mk 1 sVb sE (ceF sFb) [] [] [] []]
theorem cellB (base : Int) (k : Nat) (a : Int) (ha : IntKind.i64.wrap (base + 3) = a) (s : CM) (hs : s.mem.length = k) : cellC progL sS base sFb s = if 0 ≤ a ∧ a < k then .ok a.toNat { s with tch := s.tch.set a.toNat true } else .bad 2 s := by
  unfold cellC
  simp only [off_fb, ha, hs]
  have e1 : (sE.toList == (⟨#[]⟩ : ByteArray).toList) = true := by simp [sE]
  by_cases h : 0 ≤ a ∧ a < k
  · rw [if_neg (by rw [e1]; rintro (h | h | h | h) <;> first | omega | cases h), if_pos h]
  · rw [if_pos (by rw [e1]; right; right; omega), if_neg h]
theorem bases_run (base n : Int) (k : Nat) (a : Int) (ha : IntKind.i64.wrap (base + 3) = a) : ∃ left, runC progL (progF bodyB) sF base [n] 100 (List.replicate k 0) (List.replicate k false) =
    if 0 ≤ a ∧ a < k then .ok [n] ⟨(List.replicate k 0).set a.toNat n, (List.replicate k false).set a.toNat true, left⟩ else .bad 2 ⟨List.replicate k 0, List.replicate k false, left⟩ := by
  have hc := fun s hs => cellB base k a ha s hs
  have g1 : (progF bodyB).getD (1 : Int).toNat noFn = ⟨sF, sS, [sVa], [sVb], [], bodyB⟩ := rfl
  have fa : Env.find [(sVa, n)] sVa = some n := by simp [Env.find]
  by_cases h : 0 ≤ a ∧ a < k
  · refine ⟨96, ?_⟩
    have hl : a.toNat < k := by omega
    rw [if_pos h]
    unfold runC
    rw [show (progF bodyB).length = 1 + 1 from rfl, show (maxZ 100).toNat = 100 from rfl, mcallC, find_f, g1]
    rw [if_neg (by simp)]
    have gx : ((List.replicate k 0).set a.toNat n)[a.toNat]?.getD 0 = n := by simp [hl]
    have hne : ¬ (ByteArray.toList sVa = ByteArray.toList sVb) := by simp [sVa, sVb, ByteArray.toList_eq]
    have fb : Env.find [(sVa, n), (sVb, n)] sVb = some n := by simp [Env.find, hne]
    simp [bodyB, stsC, stC, evalC, ceL, ceF, stepC, CRn.bind, Env.puts, Env.put, fa, hc, h, outsC, hne, fb]
  · refine ⟨98, ?_⟩
    rw [if_neg h]
    unfold runC
    rw [show (progF bodyB).length = 1 + 1 from rfl, show (maxZ 100).toNat = 100 from rfl, mcallC, find_f, g1]
    rw [if_neg (by simp)]
    simp [bodyB, stsC, stC, evalC, ceL, ceF, stepC, CRn.bind, Env.puts, Env.put, fa, hc, h]
end Go.Proofs.Ytepjjgnkhcjpcaa

/-
  The law's program, made.
-/
set_option linter.unusedVariables false
set_option linter.unusedSimpArgs false
namespace Go.Proofs.Ytepjjgnkhcjpcaa
open Go
-- EXX: CE.settle_pv, CE.pure_pv, CE.cells_pv, CE.cs, CS.settle_pv, CS.pure_pv, CS.cells_pv
set_option maxRecDepth 20000
-- TNAMES: int; uint8; int32; string; bool; clite.Func; clite.Machine; *clite.Machine; clite.Prog; []bool; []int32; []clite.Struct; clite.Struct; []clite.Part; clite.Part; []clite.Func; clite.Expr; []clite.Expr; clite.Stmt; []clite.Stmt; []string
set_option linter.defProp false
def tfCeProg := And.intro @nk_1 (And.intro @td_2 (And.intro @zv_2 (And.intro @Try.underlying2 (And.intro @td_3 (And.intro @zv_3 (And.intro @Try.underlying3 (And.intro @td_4 (And.intro @zv_4 (And.intro @Try.underlying4 (And.intro @td_5 (And.intro @zv_5 (And.intro @Try.underlying5 (And.intro @td_6 (And.intro @zv_6 (And.intro @Try.underlying6 (And.intro @td_7 (And.intro @zv_7 (And.intro @tf_7 (And.intro @td_8 (And.intro @zv_8 (And.intro @tf_8 (And.intro @td_9 (And.intro @zv_9 (And.intro @Try.underlying9 (And.intro @td_10 (And.intro @zv_10 (And.intro @Try.underlying10 (And.intro @td_11 (And.intro @zv_11 (And.intro @Try.underlying11 (And.intro @td_12 (And.intro @zv_12 (And.intro @Try.underlying12 (And.intro @td_13 (And.intro @zv_13 (And.intro @tf_13 (And.intro @td_14 (And.intro @zv_14 (And.intro @tf_14 (And.intro @nk_15 (And.intro @td_15 (And.intro @zv_15 (And.intro @Try.underlying15 (And.intro @nk_16 (And.intro @td_16 (And.intro @zv_16 (And.intro @Try.underlying16 (And.intro @nk_17 (And.intro @td_17 (And.intro @zv_17 (And.intro @Try.underlying17 (And.intro @td_18 (And.intro @zv_18 (And.intro @tf_18 (And.intro @td_19 (And.intro @zv_19 (And.intro @tf_19 (And.intro @nk_20 (And.intro @td_20 (And.intro @zv_20 (And.intro @td_21 (And.intro @zv_21 (And.intro @Try.underlying21 (And.intro @td_22 (And.intro @zv_22 (And.intro @tel_22 (And.intro @Try.underlying22 (And.intro @nk_23 (And.intro @td_24 (And.intro @zv_24 (And.intro @tel_24 (And.intro @Try.underlying24 (And.intro @td_25 (And.intro @zv_25 (And.intro @tel_25 (And.intro @Try.underlying25 (And.intro @td_26 (And.intro @zv_26 (And.intro @tf_26 (And.intro @td_27 (And.intro @zv_27 (And.intro @tf_27 (And.intro @td_28 (And.intro @zv_28 (And.intro @tel_28 (And.intro @Try.underlying28 (And.intro @nk_29 (And.intro @td_30 (And.intro @zv_30 (And.intro @tel_30 (And.intro @Try.underlying30 (And.intro @td_31 (And.intro @zv_31 (And.intro @tf_31 (And.intro @td_32 (And.intro @zv_32 (And.intro @tf_32 (And.intro @nk_33 (And.intro @nk_34 (And.intro @td_34 (And.intro @zv_34 (And.intro @Try.underlying34 (And.intro @td_35 (And.intro @zv_35 (And.intro @tf_35 (And.intro @fl_35 (And.intro @td_36 (And.intro @zv_36 (And.intro @tf_36 (And.intro @fl_36 (And.intro @nk_37 (And.intro @nk_39 (And.intro @nk_40 (And.intro @td_41 (And.intro @zv_41 (And.intro @tel_41 (And.intro @Try.underlying41 (And.intro @td_42 (And.intro @zv_42 (And.intro @tf_42 (And.intro @td_43 (And.intro @zv_43 (And.intro @tf_43 (And.intro @nk_44 (And.intro @td_45 (And.intro @zv_45 (And.intro @tel_45 (And.intro @Try.underlying45 (And.intro @td_46 (And.intro @zv_46 (And.intro @tel_46 (And.intro @Try.underlying46 (And.intro @td_47 (And.intro @zv_47 (And.intro @tf_47 (And.intro @td_48 (And.intro @zv_48 (And.intro @tf_48 (And.intro @td_49 (And.intro @zv_49 (And.intro @tf_49 (And.intro @td_50 (And.intro @zv_50 (And.intro @tf_50 (And.intro @nk_51 (And.intro @nk_52 (And.intro @td_52 (And.intro @zv_52 (And.intro @Try.underlying52 (And.intro @td_53 (And.intro @zv_53 (And.intro @Try.underlying53 (And.intro @nk_55 (And.intro @td_56 (And.intro @zv_56 (And.intro @tel_56 (And.intro @Try.underlying56 (And.intro @nk_58 (And.intro @nk_59 (And.intro @nk_60 (And.intro @nk_61 (And.intro @nk_62 (And.intro @nk_63 (And.intro @td_64 (And.intro @zv_64 (And.intro @Try.underlying64 (And.intro @nk_65 (And.intro @nk_66 (And.intro @nk_67 (And.intro @td_67 (And.intro @zv_67 (And.intro @Try.underlying67 (And.intro @td_68 (And.intro @zv_68 (And.intro @tel_68 (And.intro @Try.underlying68 (And.intro @td_69 (And.intro @zv_69 (And.intro @tf_69 (And.intro @tel_69 (And.intro @ta_69 (And.intro @Try.underlying69 (And.intro @td_70 (And.intro @zv_70 (And.intro @tf_70 (And.intro @tel_70 (And.intro @ta_70 (And.intro @Try.underlying70 (And.intro @td_71 (And.intro @zv_71 (And.intro @tf_71 (And.intro @td_72 (And.intro @zv_72 (And.intro @tf_72 (And.intro @nk_73 (And.intro @nk_74 (And.intro @nk_75 (And.intro @nk_76 (And.intro @nk_77 (And.intro @nk_78 (And.intro @nk_79 (And.intro @nk_80 (And.intro @nk_81 (And.intro @nk_82 (And.intro @nk_83 (And.intro @td_84 (And.intro @zv_84 (And.intro @Try.underlying84 (And.intro @td_85 (And.intro @zv_85 (And.intro @tf_85 (And.intro @td_86 (And.intro @zv_86 (And.intro @tf_86 (And.intro @td_87 (And.intro @zv_87 (And.intro @tf_87 (And.intro @fl_87 (And.intro @td_88 (And.intro @zv_88 (And.intro @tf_88 (And.intro @fl_88 (And.intro @nk_89 (And.intro @nk_90 (And.intro @nk_91 (And.intro @nk_92 (And.intro @nk_93 (And.intro @nk_94 (And.intro @nk_95 (And.intro @nk_96 (And.intro @nk_97 (And.intro @td_97 (And.intro @zv_97 (And.intro @Try.underlying97 (And.intro @td_98 (And.intro @zv_98 (And.intro @td_99 (And.intro @zv_99 (And.intro @tf_99 (And.intro @td_100 (And.intro @zv_100 (And.intro @tf_100 (And.intro @nk_101 (And.intro @nk_102 (And.intro @nk_103 (And.intro @nk_105 (And.intro @nk_106 (And.intro @td_107 (And.intro @zv_107 (And.intro @tf_107 (And.intro @tel_107 (And.intro @ta_107 (And.intro @Try.underlying107 (And.intro @nk_108 (And.intro @td_109 (And.intro @zv_109 (And.intro @tf_109 (And.intro @td_110 (And.intro @zv_110 (And.intro @tf_110 (And.intro @td_111 (And.intro @zv_111 (And.intro @tf_111 (And.intro @tel_111 (And.intro @ta_111 (And.intro @Try.underlying111 (And.intro @td_112 (And.intro @zv_112 (And.intro @tf_112 (And.intro @td_113 (And.intro @zv_113 (And.intro @tf_113 (And.intro @nk_114 (And.intro @td_115 (And.intro @zv_115 (And.intro @Try.underlying115 (And.intro @td_116 (And.intro @zv_116 (And.intro @Try.underlying116 (And.intro @td_117 (And.intro @zv_117 (And.intro @Try.underlying117 (And.intro @nk_118 (And.intro @nk_119 (And.intro @td_119 (And.intro @zv_119 (And.intro @Try.underlying119 (And.intro @td_120 (And.intro @zv_120 (And.intro @Try.underlying120 (And.intro @td_121 (And.intro @zv_121 (And.intro @Try.underlying121 (And.intro @td_122 (And.intro @zv_122 (And.intro @tf_122 (And.intro @td_123 (And.intro @zv_123 (And.intro @tf_123 (And.intro @td_124 (And.intro @zv_124 (And.intro @Ex.settle_pv (And.intro @Ex.pure_pv (And.intro @Ex.cells_pv (And.intro @Ex.cs.eq_1 (And.intro @On.pv.eq_1 (And.intro @Ty.pv.eq_1 (And.intro @Va.settle_pv (And.intro @Va.pure_pv (And.intro @Va.cells_pv (And.intro @Va.cs.eq_1 (And.intro @CE.settle_pv (And.intro @CE.pure_pv (And.intro @CE.cells_pv (And.intro @CE.cs.eq_1 (And.intro @CS.settle_pv (And.intro @CS.pure_pv @CS.cells_pv)))))))))))))))))))))))))))))))))))))))))))))))))))))))))))))))))))))))))))))))))))))))))))))))))))))))))))))))))))))))))))))))))))))))))))))))))))))))))))))))))))))))))))))))))))))))))))))))))))))))))))))))))))))))))))))))))))))))))))))))))))))))))))))))))))))))))))))))))))))))))))))))))))))))))))))))))))))))))))))

set_option maxHeartbeats 4000000 in
theorem prog_any (o : Own) (body : List CS) (m : M) : ACalls Try.prog 24 [.sl o (body.map CS.pv)] m (fun v m' => v = .ag [.sl .no (progL.map Sr.pv), .sl .no ((progF body).map CFn.pv)] ∧ m' = m) := by
  refine ACalls.enter (mu := [2, 5]) ok_mix Try.func24 rfl (by kernel_rfl) (by kernel_rfl) (by simp only [List.length_cons, List.length_nil, Try.ntmps24]; omega) ?_
  (repeat (first | (refine aSeq (fun X hX => ?_)) | (refine aBlk ?_) | (refine aSkip ?_) | ((first | refine aReg ?_ | refine aDrw (fun m2 => m2 = _) (by kernel_rfl) rfl ?_); simp -implicitDefEqProofs only [forall_eq, ↓slp, slb, ↓reduceIte, reduceCtorEq, Nat.reduceEqDiff, Nat.reduceAdd, Nat.reduceMul, Nat.reduceLT, Nat.reduceLeDiff, Nat.reduceBEq, Nat.reduceBNe, Int.reduceLE, Int.reduceLT, Int.reduceToNat, Int.reduceEq, tfCeProg]; try simp only [Ex.fold, Ex.foldcs, ← Va.pv.eq_1]) | (refine aIf ?_; simp -implicitDefEqProofs only [↓slp, slb, ↓reduceIte, reduceCtorEq, Nat.reduceEqDiff, Nat.reduceAdd, Nat.reduceMul, Nat.reduceLT, Nat.reduceLeDiff, Nat.reduceBEq, Nat.reduceBNe, Int.reduceLE, Int.reduceLT, Int.reduceToNat, Int.reduceEq]) | (refine aExit ?_; simp only [slx, ↓reduceIte, Nat.reduceEqDiff, reduceCtorEq]) | (refine aRet ?_; try simp only [slx, ↓reduceIte, Nat.reduceEqDiff, reduceCtorEq]) | (refine hX _ _ ?_; clear hX X) | (clear hX X; refine hX _ _ ?_; clear hX X) | (clear hX X; clear hX X; refine hX _ _ ?_; clear hX X) | (intro hlen; unfold maxLen at hlen) | (apply And.intro; (focus (first | omega | assumption | (repeat' apply And.intro) <;> first | omega | assumption)))))
  refine callE (local_any _ _) ?_
  simp -implicitDefEqProofs only [↓slp, slb, ↓reduceIte, reduceCtorEq, Nat.reduceEqDiff, Nat.reduceAdd, Nat.reduceMul, Nat.reduceLT, Nat.reduceLeDiff, Nat.reduceBEq, Nat.reduceBNe, Int.reduceLE, Int.reduceLT, Int.reduceToNat, Int.reduceEq, tfCeProg]; try simp only [Ex.fold, Ex.foldcs, ← Va.pv.eq_1]
  refine callE (local_any _ _) ?_
  simp -implicitDefEqProofs only [↓slp, slb, ↓reduceIte, reduceCtorEq, Nat.reduceEqDiff, Nat.reduceAdd, Nat.reduceMul, Nat.reduceLT, Nat.reduceLeDiff, Nat.reduceBEq, Nat.reduceBNe, Int.reduceLE, Int.reduceLT, Int.reduceToNat, Int.reduceEq, tfCeProg]; try simp only [Ex.fold, Ex.foldcs, ← Va.pv.eq_1]
  (repeat (first | (refine aSeq (fun X hX => ?_)) | (refine aBlk ?_) | (refine aSkip ?_) | ((first | refine aReg ?_ | refine aDrw (fun m2 => m2 = _) (by kernel_rfl) rfl ?_); simp -implicitDefEqProofs only [forall_eq, ↓slp, slb, ↓reduceIte, reduceCtorEq, Nat.reduceEqDiff, Nat.reduceAdd, Nat.reduceMul, Nat.reduceLT, Nat.reduceLeDiff, Nat.reduceBEq, Nat.reduceBNe, Int.reduceLE, Int.reduceLT, Int.reduceToNat, Int.reduceEq, tfCeProg]; try simp only [Ex.fold, Ex.foldcs, ← Va.pv.eq_1]) | (refine aIf ?_; simp -implicitDefEqProofs only [↓slp, slb, ↓reduceIte, reduceCtorEq, Nat.reduceEqDiff, Nat.reduceAdd, Nat.reduceMul, Nat.reduceLT, Nat.reduceLeDiff, Nat.reduceBEq, Nat.reduceBNe, Int.reduceLE, Int.reduceLT, Int.reduceToNat, Int.reduceEq]) | (refine aExit ?_; simp only [slx, ↓reduceIte, Nat.reduceEqDiff, reduceCtorEq]) | (refine aRet ?_; try simp only [slx, ↓reduceIte, Nat.reduceEqDiff, reduceCtorEq]) | (refine hX _ _ ?_; clear hX X) | (clear hX X; refine hX _ _ ?_; clear hX X) | (clear hX X; clear hX X; refine hX _ _ ?_; clear hX X) | (intro hlen; unfold maxLen at hlen) | (apply And.intro; (focus (first | omega | assumption | (repeat' apply And.intro) <;> first | omega | assumption)))))
  simp only [aPost, Try.results24, aRes_n, aRes_t, aRes_c, pack_one, pack_two]
  simp -implicitDefEqProofs only [↓slp, slb, ↓reduceIte, reduceCtorEq, Nat.reduceEqDiff, Nat.reduceAdd, Nat.reduceMul, Nat.reduceLT, Nat.reduceLeDiff, Nat.reduceBEq, Nat.reduceBNe, Int.reduceLE, Int.reduceLT, Int.reduceToNat, Int.reduceEq, tfCeProg]; try simp only [Ex.fold, Ex.foldcs, ← Va.pv.eq_1]
  exact leave_ext rfl ⟨rfl, rfl⟩
/-- A machine that is new. -/
theorem new_ms {L : List Sr} {fns : List CFn} (k : Nat) (hk : k ≤ 1048576) (m : M) :
    MS (m.nb + 2) m.nb (m.nb + 1) L fns (List.replicate k 0) (List.replicate k false) (((m.push (List.replicate k (.v (.int .i32 0)))).push (List.replicate k (.v (.bool false)))).push [.sl .no (L.map Sr.pv), .sl .no (fns.map CFn.pv), .bs m.nb 0 k, .bs (m.nb + 1) 0 k]) := by
  refine ⟨?_, ?_, ?_, by simp, by simpa using hk, fun x hx => by rw [List.eq_of_mem_replicate hx]; unfold R32; omega, by omega⟩
  · rw [M.get_push, push_nb1, push_nb1, if_pos rfl, List.length_replicate]
  · rw [M.get_push, push_nb1, push_nb1, if_neg (by omega), M.get_push, push_nb1, if_neg (by omega), M.get_push, if_pos rfl]
    simp
  · rw [M.get_push, push_nb1, push_nb1, if_neg (by omega), M.get_push, push_nb1, if_pos rfl]
    simp
theorem new_msE {L : List Sr} {fns : List CFn} (k : Nat) (hk : k ≤ 1048576) (m : M) :
    MS (m.nb + 2) m.nb (m.nb + 1) L fns (List.replicate k 0) (List.replicate k false) (m.ext [some (List.replicate k (.v (.int .i32 0))), some (List.replicate k (.v (.bool false))), some [.sl .no (L.map Sr.pv), .sl .no (fns.map CFn.pv), .bs m.nb 0 k, .bs (m.nb + 1) 0 k]]) := by
  have := new_ms (L := L) (fns := fns) k hk m
  rwa [push_ext, push_ext, push_ext, ext_ext, ext_ext] at this
theorem newMS_any {L : List Sr} {fns : List CFn} (k : Nat) (hk : k ≤ 1048576) (m : M) :
    ACalls Try.prog 17 [.ag [.sl .no (L.map Sr.pv), .sl .no (fns.map CFn.pv)], .v (.int .i64 (k : Int))] m (fun v m' => v = .tp [.bp (m.nb + 2) 0, .v (.int .i64 0)] ∧
      MS (m.nb + 2) m.nb (m.nb + 1) L fns (List.replicate k 0) (List.replicate k false) m' ∧ m'.nb = m.nb + 3 ∧ m'.toks = m.toks ∧ ∀ j, j < m.nb → m'.get j = m.get j) := by
  refine ACallsZ.mono (newC_any (.sl .no (L.map Sr.pv)) (.sl .no (fns.map CFn.pv)) k hk m) ?_ (fun _ _ h => h.elim)
  rintro v m' ⟨rfl, rfl⟩
  refine ⟨rfl, new_ms k hk m, by simp [M.push, M.nb], rfl, fun j hj => ?_⟩
  rw [push_ext, push_ext, push_ext, ext_ext, ext_ext]
  exact ext_old' hj
end Go.Proofs.Ytepjjgnkhcjpcaa

/-
  A call whose arguments forget tokens.
-/
set_option linter.unusedVariables false
namespace Go.Proofs.Ytepjjgnkhcjpcaa
open Go
theorem callMS {P : Program} {g : FuncId} {args args' : List PV} {m : M} {R K Z : PV → M → Prop} (h : ACalls P g args' m R) (he : args.map PV.settle = args') (hk : ∀ v m', R v m' → K v m') : @ACallsI P g args m ⟨K, Z⟩ := by
  subst he
  refine ACallsZ.mono (Z := noZ) ⟨h.cc, fun G w vs hI hl hr => h.run G w vs hI (by simpa using hl) (fun j h1 h2 => ?_)⟩ hk (fun _ _ h => h.elim)
  simpa using (hr j (by simpa using h1) h2).settle
end Go.Proofs.Ytepjjgnkhcjpcaa

/-
  Functions that call one another: the law's program, and what the evaluator does with it.
-/
set_option linter.unusedVariables false
set_option linter.unusedSimpArgs false
namespace Go.Proofs.Ytepjjgnkhcjpcaa
open Go

def nuS (i : Nat) : Str := if i < 10 then strOf [((48 + i : Nat) : Int)] else strOf [((48 + i / 10 : Nat) : Int)] ++ strOf [((48 + i % 10 : Nat) : Int)]
def nsS (i : Nat) : Str := ⟨#[115]⟩ ++ nuS i
def nfS (i : Nat) : Str := ⟨#[102]⟩ ++ nuS i
def sC : Str := ⟨#[99]⟩
def chS (i : Nat) : Sr := if i = 0 then ⟨⟨#[115, 48]⟩, [⟨sC, sE⟩]⟩ else ⟨nsS i, [⟨sC, sE⟩, ⟨sP, nsS (i - 1)⟩]⟩
def ceNum (n : Int) : CE := .mk 1 0 n sE []
def chF (i : Nat) : CFn := if i = 0 then ⟨⟨#[102, 48]⟩, ⟨#[115, 48]⟩, [], [], [], [.mk 2 sC sE (ceNum 7) [] [] [] []]⟩
  else ⟨nfS i, nsS i, [], [], [], [.mk 2 sC sE (ceNum i) [] [] [] [], .mk 4 (nfS (i - 1)) sP ceZ [] [] [] []]⟩
def chL (k : Nat) : List Sr := (List.range k).map chS
def chFs (k : Nat) : List CFn := (List.range k).map chF
theorem chL_succ (k : Nat) : chL (k + 1) = chL k ++ [chS k] := by simp [chL, List.range_succ]
theorem chFs_succ (k : Nat) : chFs (k + 1) = chFs k ++ [chF k] := by simp [chFs, List.range_succ]
theorem chL_len (k : Nat) : (chL k).length = k := by simp [chL]
theorem chFs_len (k : Nat) : (chFs k).length = k := by simp [chFs]
/-- What the memory holds behind the run. -/
def chM (k : Nat) : List Int := (List.range k).map fun i => if k - 1 - i = 0 then 7 else ((k - 1 - i : Nat) : Int)
def chk1 (k : Nat) : Bool := match runC (chL k) (chFs k) (nfS (k - 1)) 0 [] 1000 (List.replicate k 0) (List.replicate k false) with
  | .ok ys s => ys.isEmpty && s.mem == chM k && s.tch == List.replicate k true && s.left == 1000 - (3 * (k - 1) + 2)
  | .bad _ _ => false
def chk2 (k f : Nat) : Bool := match runC (chL k) (chFs k) (nfS (k - 1)) 0 [] f (chM k) (List.replicate k true) with
  | .ok ys s => decide (3 * (k - 1) + 2 ≤ f)
  | .bad how s => decide (f < 3 * (k - 1) + 2) && how == 4 && s.left == 0
theorem chk1_all : ∀ k, k < 12 → chk1 (k + 1) = true := by decide +kernel
theorem chk2_all : ∀ k, k < 12 → ∀ f, f < 40 → chk2 (k + 1) f = true := by decide +kernel
theorem chSize : ∀ k, k < 12 → sizeF (chL (k + 1)) (k + 1) (nsS k) = ((k + 1 : Nat) : Int) := by decide +kernel
theorem chNone : ∀ k, k < 12 → findF (chFs (k + 1)) ⟨#[110, 111, 110, 101]⟩ = -1 := by decide +kernel
theorem ch_run1 (k : Nat) (hk : k < 12) : runC (chL (k + 1)) (chFs (k + 1)) (nfS k) 0 [] 1000 (List.replicate (k + 1) 0) (List.replicate (k + 1) false) = .ok [] ⟨chM (k + 1), List.replicate (k + 1) true, 1000 - (3 * k + 2)⟩ := by
  have h := chk1_all k hk
  unfold chk1 at h
  rw [show k + 1 - 1 = k from rfl] at h
  cases hr : runC (chL (k + 1)) (chFs (k + 1)) (nfS k) 0 [] 1000 (List.replicate (k + 1) 0) (List.replicate (k + 1) false) with
  | bad how s => rw [hr] at h; cases h
  | ok ys s =>
    rw [hr] at h
    simp only [Bool.and_eq_true, beq_iff_eq, List.isEmpty_iff] at h
    obtain ⟨⟨⟨h1, h2⟩, h3⟩, h4⟩ := h
    cases s
    simp only at h2 h3 h4
    subst h1 h2 h3 h4
    rfl
theorem ch_run2 (k : Nat) (hk : k < 12) (f : Nat) (hf : f < 40) : (∃ ys s, runC (chL (k + 1)) (chFs (k + 1)) (nfS k) 0 [] f (chM (k + 1)) (List.replicate (k + 1) true) = .ok ys s ∧ 3 * k + 2 ≤ f) ∨
    ∃ s, runC (chL (k + 1)) (chFs (k + 1)) (nfS k) 0 [] f (chM (k + 1)) (List.replicate (k + 1) true) = .bad 4 s ∧ s.left = 0 ∧ f < 3 * k + 2 := by
  have h := chk2_all k hk f hf
  unfold chk2 at h
  rw [show k + 1 - 1 = k from rfl] at h
  cases hr : runC (chL (k + 1)) (chFs (k + 1)) (nfS k) 0 [] f (chM (k + 1)) (List.replicate (k + 1) true) with
  | ok ys s => rw [hr] at h; exact .inl ⟨ys, s, rfl, by simpa using h⟩
  | bad how s =>
    rw [hr] at h
    simp only [Bool.and_eq_true, beq_iff_eq, decide_eq_true_eq] at h
    obtain ⟨⟨h1, h2⟩, h3⟩ := h
    subst h2
    exact .inr ⟨s, rfl, h3, h1⟩
theorem chF_ins (i : Nat) : (chF i).ins = [] := by unfold chF; split <;> rfl
theorem ch_bad1 (k : Nat) (name : Str) (base : Int) (fuel : Int) (mem : List Int) (tch : List Bool) (x : Int) : runC (chL k) (chFs k) name base [x] fuel mem tch = .bad 1 ⟨mem, tch, (maxZ fuel).toNat⟩ := by
  unfold runC
  refine mcall_bad1 _ (.inr ?_)
  have : ∀ j, ((chFs k).getD j noFn).ins = [] := fun j => by
    unfold chFs
    by_cases hj : j < k
    · simp [List.getD, hj, chF_ins]
    · simp [List.getD, hj, noFn]
  rw [this]
  simp
theorem ch_bad0 (k : Nat) (hk : k < 12) (base : Int) (fuel : Int) (mem : List Int) (tch : List Bool) : runC (chL (k + 1)) (chFs (k + 1)) ⟨#[110, 111, 110, 101]⟩ base [] fuel mem tch = .bad 1 ⟨mem, tch, (maxZ fuel).toNat⟩ := by
  unfold runC
  exact mcall_bad1 _ (.inl (by rw [chNone k hk]; omega))
theorem chM_len (k : Nat) : (chM k).length = k := by simp [chM]
theorem chM_at (k i : Nat) (h : i < k) : (chM k)[i]'(by rw [chM_len]; exact h) = if k - 1 - i = 0 then 7 else ((k - 1 - i : Nat) : Int) := by simp [chM]
theorem ch_good (k : Nat) (hk : k ≤ 12) : ∀ f ∈ chFs k, f.good := by
  intro f hf
  simp only [chFs, List.mem_map, List.mem_range] at hf
  obtain ⟨i, hi, rfl⟩ := hf
  unfold chF
  split
  · simp [CFn.good, CS.goods, CS.good, CE.good, CE.goods, ceNum, R32]
  · simp only [CFn.good, CS.goods, CS.good, CE.good, CE.goods, ceNum, ceZ, R32, List.length_nil]
    refine ⟨⟨⟨by omega, ⟨by omega, by omega, trivial⟩, trivial, trivial, trivial, by omega⟩, ⟨by omega, ⟨by omega, by omega, trivial⟩, trivial, trivial, trivial, by omega⟩, trivial⟩, by omega⟩
theorem ch_fields (k : Nat) : ∀ s ∈ chL k, s.fields.length ≤ 1000000 := by
  intro s hs
  simp only [chL, List.mem_map, List.mem_range] at hs
  obtain ⟨i, _, rfl⟩ := hs
  unfold chS
  split <;> simp
end Go.Proofs.Ytepjjgnkhcjpcaa

/-
  The law CliteCalls.
-/
set_option linter.unusedVariables false
set_option linter.unusedSimpArgs false
namespace Go.Proofs.Ytepjjgnkhcjpcaa
open Go
-- EXX: CE.settle_pv, CE.pure_pv, CE.cells_pv, CE.cs, CS.settle_pv, CS.pure_pv, CS.cells_pv, Sr.cells_pv, CFn.cells_pv
set_option maxRecDepth 20000
-- TNAMES: int; int64; uint64; uint8; int32; string; bool; []uint8; clite.Func; clite.Machine; *clite.Machine; clite.Prog; []bool; []int32; []clite.Struct; clite.Struct; []clite.Part; clite.Part; []clite.Func; clite.Expr; []clite.Expr; clite.Stmt; []clite.Stmt; []string; metronome/api.Kind
set_option linter.defProp false
def tfCeCh := And.intro @nk_1 (And.intro @td_2 (And.intro @zv_2 (And.intro @Try.underlying2 (And.intro @td_3 (And.intro @zv_3 (And.intro @Try.underlying3 (And.intro @td_4 (And.intro @zv_4 (And.intro @Try.underlying4 (And.intro @td_5 (And.intro @zv_5 (And.intro @Try.underlying5 (And.intro @td_6 (And.intro @zv_6 (And.intro @Try.underlying6 (And.intro @td_7 (And.intro @zv_7 (And.intro @tf_7 (And.intro @td_8 (And.intro @zv_8 (And.intro @tf_8 (And.intro @td_9 (And.intro @zv_9 (And.intro @Try.underlying9 (And.intro @td_10 (And.intro @zv_10 (And.intro @Try.underlying10 (And.intro @td_11 (And.intro @zv_11 (And.intro @Try.underlying11 (And.intro @td_12 (And.intro @zv_12 (And.intro @Try.underlying12 (And.intro @td_13 (And.intro @zv_13 (And.intro @tf_13 (And.intro @td_14 (And.intro @zv_14 (And.intro @tf_14 (And.intro @nk_15 (And.intro @td_15 (And.intro @zv_15 (And.intro @Try.underlying15 (And.intro @nk_16 (And.intro @td_16 (And.intro @zv_16 (And.intro @Try.underlying16 (And.intro @nk_17 (And.intro @td_17 (And.intro @zv_17 (And.intro @Try.underlying17 (And.intro @td_18 (And.intro @zv_18 (And.intro @tf_18 (And.intro @td_19 (And.intro @zv_19 (And.intro @tf_19 (And.intro @nk_20 (And.intro @td_20 (And.intro @zv_20 (And.intro @td_21 (And.intro @zv_21 (And.intro @Try.underlying21 (And.intro @td_22 (And.intro @zv_22 (And.intro @tel_22 (And.intro @Try.underlying22 (And.intro @nk_23 (And.intro @td_24 (And.intro @zv_24 (And.intro @tel_24 (And.intro @Try.underlying24 (And.intro @td_25 (And.intro @zv_25 (And.intro @tel_25 (And.intro @Try.underlying25 (And.intro @td_26 (And.intro @zv_26 (And.intro @tf_26 (And.intro @td_27 (And.intro @zv_27 (And.intro @tf_27 (And.intro @td_28 (And.intro @zv_28 (And.intro @tel_28 (And.intro @Try.underlying28 (And.intro @nk_29 (And.intro @td_30 (And.intro @zv_30 (And.intro @tel_30 (And.intro @Try.underlying30 (And.intro @td_31 (And.intro @zv_31 (And.intro @tf_31 (And.intro @td_32 (And.intro @zv_32 (And.intro @tf_32 (And.intro @nk_33 (And.intro @nk_34 (And.intro @td_34 (And.intro @zv_34 (And.intro @Try.underlying34 (And.intro @td_35 (And.intro @zv_35 (And.intro @tf_35 (And.intro @fl_35 (And.intro @td_36 (And.intro @zv_36 (And.intro @tf_36 (And.intro @fl_36 (And.intro @nk_37 (And.intro @nk_39 (And.intro @nk_40 (And.intro @td_41 (And.intro @zv_41 (And.intro @tel_41 (And.intro @Try.underlying41 (And.intro @td_42 (And.intro @zv_42 (And.intro @tf_42 (And.intro @td_43 (And.intro @zv_43 (And.intro @tf_43 (And.intro @nk_44 (And.intro @td_45 (And.intro @zv_45 (And.intro @tel_45 (And.intro @Try.underlying45 (And.intro @td_46 (And.intro @zv_46 (And.intro @tel_46 (And.intro @Try.underlying46 (And.intro @td_47 (And.intro @zv_47 (And.intro @tf_47 (And.intro @td_48 (And.intro @zv_48 (And.intro @tf_48 (And.intro @td_49 (And.intro @zv_49 (And.intro @tf_49 (And.intro @td_50 (And.intro @zv_50 (And.intro @tf_50 (And.intro @nk_51 (And.intro @nk_52 (And.intro @td_52 (And.intro @zv_52 (And.intro @Try.underlying52 (And.intro @td_53 (And.intro @zv_53 (And.intro @Try.underlying53 (And.intro @nk_55 (And.intro @td_56 (And.intro @zv_56 (And.intro @tel_56 (And.intro @Try.underlying56 (And.intro @nk_58 (And.intro @nk_59 (And.intro @nk_60 (And.intro @nk_61 (And.intro @nk_62 (And.intro @nk_63 (And.intro @td_64 (And.intro @zv_64 (And.intro @Try.underlying64 (And.intro @nk_65 (And.intro @nk_66 (And.intro @nk_67 (And.intro @td_67 (And.intro @zv_67 (And.intro @Try.underlying67 (And.intro @td_68 (And.intro @zv_68 (And.intro @tel_68 (And.intro @Try.underlying68 (And.intro @td_69 (And.intro @zv_69 (And.intro @tf_69 (And.intro @tel_69 (And.intro @ta_69 (And.intro @Try.underlying69 (And.intro @td_70 (And.intro @zv_70 (And.intro @tf_70 (And.intro @tel_70 (And.intro @ta_70 (And.intro @Try.underlying70 (And.intro @td_71 (And.intro @zv_71 (And.intro @tf_71 (And.intro @td_72 (And.intro @zv_72 (And.intro @tf_72 (And.intro @nk_73 (And.intro @nk_74 (And.intro @nk_75 (And.intro @nk_76 (And.intro @nk_77 (And.intro @nk_78 (And.intro @nk_79 (And.intro @nk_80 (And.intro @nk_81 (And.intro @nk_82 (And.intro @nk_83 (And.intro @td_84 (And.intro @zv_84 (And.intro @Try.underlying84 (And.intro @td_85 (And.intro @zv_85 (And.intro @tf_85 (And.intro @td_86 (And.intro @zv_86 (And.intro @tf_86 (And.intro @td_87 (And.intro @zv_87 (And.intro @tf_87 (And.intro @fl_87 (And.intro @td_88 (And.intro @zv_88 (And.intro @tf_88 (And.intro @fl_88 (And.intro @nk_89 (And.intro @nk_90 (And.intro @nk_91 (And.intro @nk_92 (And.intro @nk_93 (And.intro @nk_94 (And.intro @nk_95 (And.intro @nk_96 (And.intro @nk_97 (And.intro @td_97 (And.intro @zv_97 (And.intro @Try.underlying97 (And.intro @td_98 (And.intro @zv_98 (And.intro @td_99 (And.intro @zv_99 (And.intro @tf_99 (And.intro @td_100 (And.intro @zv_100 (And.intro @tf_100 (And.intro @nk_101 (And.intro @nk_102 (And.intro @nk_103 (And.intro @nk_105 (And.intro @nk_106 (And.intro @td_107 (And.intro @zv_107 (And.intro @tf_107 (And.intro @tel_107 (And.intro @ta_107 (And.intro @Try.underlying107 (And.intro @nk_108 (And.intro @td_109 (And.intro @zv_109 (And.intro @tf_109 (And.intro @td_110 (And.intro @zv_110 (And.intro @tf_110 (And.intro @td_111 (And.intro @zv_111 (And.intro @tf_111 (And.intro @tel_111 (And.intro @ta_111 (And.intro @Try.underlying111 (And.intro @td_112 (And.intro @zv_112 (And.intro @tf_112 (And.intro @td_113 (And.intro @zv_113 (And.intro @tf_113 (And.intro @nk_114 (And.intro @td_115 (And.intro @zv_115 (And.intro @Try.underlying115 (And.intro @td_116 (And.intro @zv_116 (And.intro @Try.underlying116 (And.intro @td_117 (And.intro @zv_117 (And.intro @Try.underlying117 (And.intro @nk_118 (And.intro @nk_119 (And.intro @td_119 (And.intro @zv_119 (And.intro @Try.underlying119 (And.intro @td_120 (And.intro @zv_120 (And.intro @Try.underlying120 (And.intro @td_121 (And.intro @zv_121 (And.intro @Try.underlying121 (And.intro @td_122 (And.intro @zv_122 (And.intro @tf_122 (And.intro @td_123 (And.intro @zv_123 (And.intro @tf_123 (And.intro @td_124 (And.intro @zv_124 (And.intro @Ex.settle_pv (And.intro @Ex.pure_pv (And.intro @Ex.cells_pv (And.intro @Ex.cs.eq_1 (And.intro @On.pv.eq_1 (And.intro @Ty.pv.eq_1 (And.intro @Va.settle_pv (And.intro @Va.pure_pv (And.intro @Va.cells_pv (And.intro @Va.cs.eq_1 (And.intro @CE.settle_pv (And.intro @CE.pure_pv (And.intro @CE.cells_pv (And.intro @CE.cs.eq_1 (And.intro @CS.settle_pv (And.intro @CS.pure_pv (And.intro @CS.cells_pv (And.intro @Sr.cells_pv @CFn.cells_pv)))))))))))))))))))))))))))))))))))))))))))))))))))))))))))))))))))))))))))))))))))))))))))))))))))))))))))))))))))))))))))))))))))))))))))))))))))))))))))))))))))))))))))))))))))))))))))))))))))))))))))))))))))))))))))))))))))))))))))))))))))))))))))))))))))))))))))))))))))))))))))))))))))))))))))))))))))))))))))))))

set_option maxHeartbeats 1000000 in
theorem dig1_any (n : Nat) (hn : n < 10) (m : M) : ACalls Try.prog 33 [.v (.int .u64 n)] m (fun v m' => v = pS (strOf [((48 + n : Nat) : Int)]) ∧ m' = m) := by
  have h0 : decide ((n : Int) < 10) = true := by simp; omega
  have h1 : IntKind.u64.wrap (48 + (n : Int)) = ((48 + n : Nat) : Int) := by rw [IntWalk.u64_in _ (by omega)]; omega
  have h2 : IntKind.u8.wrap ((48 + n : Nat) : Int) = ((48 + n : Nat) : Int) := IntWalk.u8_in _ (by omega)
  refine ACalls.enter (mu := []) ok_mix Try.func33 rfl (by kernel_rfl) (by kernel_rfl) (by simp only [List.length_cons, List.length_nil, Try.ntmps33]; omega) ?_
  (repeat (first | (refine aSeq (fun X hX => ?_)) | (refine aBlk ?_) | (refine aSkip ?_) | ((first | refine aReg ?_ | refine aDrw (fun m2 => m2 = _) (by kernel_rfl) rfl ?_); simp -implicitDefEqProofs only [forall_eq, ↓slp, slb, ↓reduceIte, reduceCtorEq, Nat.reduceEqDiff, Nat.reduceAdd, Nat.reduceMul, Nat.reduceLT, Nat.reduceLeDiff, Nat.reduceBEq, Nat.reduceBNe, Int.reduceLE, Int.reduceLT, Int.reduceToNat, Int.reduceEq, tfCeCh, h0, h1, h2]; try simp only [Ex.fold, Ex.foldcs, ← Va.pv.eq_1]) | (refine aIf ?_; simp -implicitDefEqProofs only [↓slp, slb, ↓reduceIte, reduceCtorEq, Nat.reduceEqDiff, Nat.reduceAdd, Nat.reduceMul, Nat.reduceLT, Nat.reduceLeDiff, Nat.reduceBEq, Nat.reduceBNe, Int.reduceLE, Int.reduceLT, Int.reduceToNat, Int.reduceEq, h0, h1, h2]) | (refine aExit ?_; simp only [slx, ↓reduceIte, Nat.reduceEqDiff, reduceCtorEq]) | (refine aRet ?_; try simp only [slx, ↓reduceIte, Nat.reduceEqDiff, reduceCtorEq]) | (refine hX _ _ ?_; clear hX X) | (clear hX X; refine hX _ _ ?_; clear hX X) | (clear hX X; clear hX X; refine hX _ _ ?_; clear hX X) | (intro hlen; unfold maxLen at hlen) | (apply And.intro; (focus (first | omega | assumption | (repeat' apply And.intro) <;> first | omega | assumption)))))
  simp only [aPost, Try.results33, aRes_n, aRes_t, aRes_c, pack_one, pack_two]
  exact leave_same rfl ⟨rfl, rfl⟩
set_option maxHeartbeats 1000000 in
theorem dig2_any (n : Nat) (hn : 10 ≤ n) (hn2 : n < 100) (m : M) : ACalls Try.prog 33 [.v (.int .u64 n)] m (fun v m' => v = pS (nuS n) ∧ m' = m) := by
  have h0 : decide ((n : Int) < 10) = false := by simp; omega
  have h1 : IntKind.u64.wrap ((n / 10 : Nat) : Int) = ((n / 10 : Nat) : Int) := IntWalk.u64_in _ (by omega)
  have h2 : IntKind.u64.wrap ((n % 10 : Nat) : Int) = ((n % 10 : Nat) : Int) := IntWalk.u64_in _ (by omega)
  have h2' : (n : Int).tmod 10 = ((n % 10 : Nat) : Int) := by rw [Int.tmod_eq_emod_of_nonneg (by omega)]; omega
  have h1' : (n : Int).tdiv 10 = ((n / 10 : Nat) : Int) := by rw [Int.tdiv_eq_ediv_of_nonneg (by omega)]; omega
  refine ACalls.enter (mu := []) ok_mix Try.func33 rfl (by kernel_rfl) (by kernel_rfl) (by simp only [List.length_cons, List.length_nil, Try.ntmps33]; omega) ?_
  (repeat (first | (refine aSeq (fun X hX => ?_)) | (refine aBlk ?_) | (refine aSkip ?_) | ((first | refine aReg ?_ | refine aDrw (fun m2 => m2 = _) (by kernel_rfl) rfl ?_); simp -implicitDefEqProofs only [forall_eq, ↓slp, slb, ↓reduceIte, reduceCtorEq, Nat.reduceEqDiff, Nat.reduceAdd, Nat.reduceMul, Nat.reduceLT, Nat.reduceLeDiff, Nat.reduceBEq, Nat.reduceBNe, Int.reduceLE, Int.reduceLT, Int.reduceToNat, Int.reduceEq, tfCeCh, h0, h1, h2, h1', h2']; try simp only [Ex.fold, Ex.foldcs, ← Va.pv.eq_1]) | (refine aIf ?_; simp -implicitDefEqProofs only [↓slp, slb, ↓reduceIte, reduceCtorEq, Nat.reduceEqDiff, Nat.reduceAdd, Nat.reduceMul, Nat.reduceLT, Nat.reduceLeDiff, Nat.reduceBEq, Nat.reduceBNe, Int.reduceLE, Int.reduceLT, Int.reduceToNat, Int.reduceEq, h0, h1, h2, h1', h2']) | (refine aExit ?_; simp only [slx, ↓reduceIte, Nat.reduceEqDiff, reduceCtorEq]) | (refine aRet ?_; try simp only [slx, ↓reduceIte, Nat.reduceEqDiff, reduceCtorEq]) | (refine hX _ _ ?_; clear hX X) | (clear hX X; refine hX _ _ ?_; clear hX X) | (clear hX X; clear hX X; refine hX _ _ ?_; clear hX X) | (intro hlen; unfold maxLen at hlen) | (apply And.intro; (focus (first | omega | assumption | (repeat' apply And.intro) <;> first | omega | assumption)))))
  refine callE (dig1_any (n / 10) (by omega) _) ?_
  simp -implicitDefEqProofs only [↓slp, slb, ↓reduceIte, reduceCtorEq, Nat.reduceEqDiff, Nat.reduceAdd, Nat.reduceMul, Nat.reduceLT, Nat.reduceLeDiff, Nat.reduceBEq, Nat.reduceBNe, Int.reduceLE, Int.reduceLT, Int.reduceToNat, Int.reduceEq, tfCeCh, h0, h1, h2, h1', h2', pS]; try simp only [Ex.fold, Ex.foldcs, ← Va.pv.eq_1]
  refine callE (dig1_any (n % 10) (by omega) _) ?_
  have hz : (strOf [((48 + n / 10 : Nat) : Int)]).size = 1 := rfl
  have hz2 : (strOf [((48 + n % 10 : Nat) : Int)]).size = 1 := rfl
  simp -implicitDefEqProofs only [↓slp, slb, ↓reduceIte, reduceCtorEq, Nat.reduceEqDiff, Nat.reduceAdd, Nat.reduceMul, Nat.reduceLT, Nat.reduceLeDiff, Nat.reduceBEq, Nat.reduceBNe, Int.reduceLE, Int.reduceLT, Int.reduceToNat, Int.reduceEq, tfCeCh, pS]; try simp only [Ex.fold, Ex.foldcs, ← Va.pv.eq_1]
  (repeat (first | (refine aSeq (fun X hX => ?_)) | (refine aBlk ?_) | (refine aSkip ?_) | ((first | refine aReg ?_ | refine aDrw (fun m2 => m2 = _) (by kernel_rfl) rfl ?_); simp -implicitDefEqProofs only [forall_eq, ↓slp, slb, ↓reduceIte, reduceCtorEq, Nat.reduceEqDiff, Nat.reduceAdd, Nat.reduceMul, Nat.reduceLT, Nat.reduceLeDiff, Nat.reduceBEq, Nat.reduceBNe, Int.reduceLE, Int.reduceLT, Int.reduceToNat, Int.reduceEq, tfCeCh]; try simp only [Ex.fold, Ex.foldcs, ← Va.pv.eq_1]) | (refine aIf ?_; simp -implicitDefEqProofs only [↓slp, slb, ↓reduceIte, reduceCtorEq, Nat.reduceEqDiff, Nat.reduceAdd, Nat.reduceMul, Nat.reduceLT, Nat.reduceLeDiff, Nat.reduceBEq, Nat.reduceBNe, Int.reduceLE, Int.reduceLT, Int.reduceToNat, Int.reduceEq]) | (refine aExit ?_; simp only [slx, ↓reduceIte, Nat.reduceEqDiff, reduceCtorEq]) | (refine aRet ?_; try simp only [slx, ↓reduceIte, Nat.reduceEqDiff, reduceCtorEq]) | (refine hX _ _ ?_; clear hX X) | (clear hX X; refine hX _ _ ?_; clear hX X) | (clear hX X; clear hX X; refine hX _ _ ?_; clear hX X) | (intro hlen; unfold maxLen at hlen) | (apply And.intro; (focus (first | omega | assumption | (repeat' apply And.intro) <;> first | omega | assumption)))))
  simp only [aPost, Try.results33, aRes_n, aRes_t, aRes_c, pack_one, pack_two]
  refine leave_same rfl ⟨?_, rfl⟩
  unfold nuS
  rw [if_neg (by omega)]
  rfl
set_option maxHeartbeats 1000000 in
theorem numC_any (n : Nat) (hn2 : n < 100) (m : M) : ACalls Try.prog 16 [.v (.int .i64 n)] m (fun v m' => v = pS (nuS n) ∧ m' = m) := by
  have h0 : decide ((n : Int) < 0) = false := by simp
  have h1 : IntKind.u64.wrap (n : Int) = n := IntWalk.u64_in _ (by omega)
  have hd : ∀ m, ACalls Try.prog 33 [.v (.int .u64 n)] m (fun v m' => v = pS (nuS n) ∧ m' = m) := fun m => by
    by_cases h : n < 10
    · have := dig1_any n h m
      unfold nuS
      rwa [if_pos h]
    · exact dig2_any n (by omega) hn2 m
  refine ACalls.enter (mu := []) ok_mix Try.func16 rfl (by kernel_rfl) (by kernel_rfl) (by simp only [List.length_cons, List.length_nil, Try.ntmps16]; omega) ?_
  (repeat (first | (refine aSeq (fun X hX => ?_)) | (refine aBlk ?_) | (refine aSkip ?_) | ((first | refine aReg ?_ | refine aDrw (fun m2 => m2 = _) (by kernel_rfl) rfl ?_); simp -implicitDefEqProofs only [forall_eq, ↓slp, slb, ↓reduceIte, reduceCtorEq, Nat.reduceEqDiff, Nat.reduceAdd, Nat.reduceMul, Nat.reduceLT, Nat.reduceLeDiff, Nat.reduceBEq, Nat.reduceBNe, Int.reduceLE, Int.reduceLT, Int.reduceToNat, Int.reduceEq, tfCeCh, h0, h1]; try simp only [Ex.fold, Ex.foldcs, ← Va.pv.eq_1]) | (refine aIf ?_; simp -implicitDefEqProofs only [↓slp, slb, ↓reduceIte, reduceCtorEq, Nat.reduceEqDiff, Nat.reduceAdd, Nat.reduceMul, Nat.reduceLT, Nat.reduceLeDiff, Nat.reduceBEq, Nat.reduceBNe, Int.reduceLE, Int.reduceLT, Int.reduceToNat, Int.reduceEq, h0, h1]) | (refine aExit ?_; simp only [slx, ↓reduceIte, Nat.reduceEqDiff, reduceCtorEq]) | (refine aRet ?_; try simp only [slx, ↓reduceIte, Nat.reduceEqDiff, reduceCtorEq]) | (refine hX _ _ ?_; clear hX X) | (clear hX X; refine hX _ _ ?_; clear hX X) | (clear hX X; clear hX X; refine hX _ _ ?_; clear hX X) | (intro hlen; unfold maxLen at hlen) | (apply And.intro; (focus (first | omega | assumption | (repeat' apply And.intro) <;> first | omega | assumption)))))
  refine callE (hd _) ?_
  simp -implicitDefEqProofs only [↓slp, slb, ↓reduceIte, reduceCtorEq, Nat.reduceEqDiff, Nat.reduceAdd, Nat.reduceMul, Nat.reduceLT, Nat.reduceLeDiff, Nat.reduceBEq, Nat.reduceBNe, Int.reduceLE, Int.reduceLT, Int.reduceToNat, Int.reduceEq, tfCeCh, pS]; try simp only [Ex.fold, Ex.foldcs, ← Va.pv.eq_1]
  (repeat (first | (refine aSeq (fun X hX => ?_)) | (refine aBlk ?_) | (refine aSkip ?_) | ((first | refine aReg ?_ | refine aDrw (fun m2 => m2 = _) (by kernel_rfl) rfl ?_); simp -implicitDefEqProofs only [forall_eq, ↓slp, slb, ↓reduceIte, reduceCtorEq, Nat.reduceEqDiff, Nat.reduceAdd, Nat.reduceMul, Nat.reduceLT, Nat.reduceLeDiff, Nat.reduceBEq, Nat.reduceBNe, Int.reduceLE, Int.reduceLT, Int.reduceToNat, Int.reduceEq, tfCeCh]; try simp only [Ex.fold, Ex.foldcs, ← Va.pv.eq_1]) | (refine aIf ?_; simp -implicitDefEqProofs only [↓slp, slb, ↓reduceIte, reduceCtorEq, Nat.reduceEqDiff, Nat.reduceAdd, Nat.reduceMul, Nat.reduceLT, Nat.reduceLeDiff, Nat.reduceBEq, Nat.reduceBNe, Int.reduceLE, Int.reduceLT, Int.reduceToNat, Int.reduceEq]) | (refine aExit ?_; simp only [slx, ↓reduceIte, Nat.reduceEqDiff, reduceCtorEq]) | (refine aRet ?_; try simp only [slx, ↓reduceIte, Nat.reduceEqDiff, reduceCtorEq]) | (refine hX _ _ ?_; clear hX X) | (clear hX X; refine hX _ _ ?_; clear hX X) | (clear hX X; clear hX X; refine hX _ _ ?_; clear hX X) | (intro hlen; unfold maxLen at hlen) | (apply And.intro; (focus (first | omega | assumption | (repeat' apply And.intro) <;> first | omega | assumption)))))
  simp only [aPost, Try.results16, aRes_n, aRes_t, aRes_c, pack_one, pack_two]
  exact leave_same rfl ⟨rfl, rfl⟩
theorem nuS_size (i : Nat) : (nuS i).size ≤ 2 := by
  have e : ∀ x, (strOf [x]).size = 1 := fun _ => rfl
  unfold nuS
  split
  · rw [e]; omega
  · rw [ByteArray.size_append, e, e]; omega
set_option maxHeartbeats 8000000 in
theorem calls_any (n fuel : Int) (self : Bool) (hn : 0 ≤ n ∧ n ≤ 255) (hf : 0 ≤ fuel ∧ fuel ≤ 255) :
    ACalls Try.prog 4 [.v (.int .u8 n), .v (.bool self), .v (.int .u8 fuel)] M0 (fun v m' => v = .v (.bool true)) := by
  obtain ⟨k0, hk, hk12⟩ := tmod_nat hn.1 12 (by omega)
  have hk' : n.tmod 12 = (k0 : Int) := hk
  have w0 : IntKind.i64.wrap n = n := wrap64 (by omega)
  have w1 : IntKind.i64.wrap (1 + (k0 : Int)) = ((k0 + 1 : Nat) : Int) := by rw [wrap64 (by omega)]; omega
  refine ACalls.enter (mu := [8]) ok_mix Try.func4 rfl (by kernel_rfl) (by kernel_rfl) (by simp only [List.length_cons, List.length_nil, Try.ntmps4]; omega) ?_
  (repeat (first | (refine aSeq (fun X hX => ?_)) | (refine aBlk ?_) | (refine aSkip ?_) | ((first | refine aReg ?_ | refine aDrw (fun m2 => m2 = _) (by kernel_rfl) rfl ?_); simp -implicitDefEqProofs only [forall_eq, ↓slp, slb, ↓reduceIte, reduceCtorEq, Nat.reduceEqDiff, Nat.reduceAdd, Nat.reduceMul, Nat.reduceLT, Nat.reduceLeDiff, Nat.reduceBEq, Nat.reduceBNe, Int.reduceLE, Int.reduceLT, Int.reduceToNat, Int.reduceEq, tfCeCh]; try simp only [Ex.fold, Ex.foldcs, ← Va.pv.eq_1]) | (refine aExit ?_; simp only [slx, ↓reduceIte, Nat.reduceEqDiff, reduceCtorEq]) | (refine aRet ?_; try simp only [slx, ↓reduceIte, Nat.reduceEqDiff, reduceCtorEq]) | (refine hX _ _ ?_; clear hX X) | (clear hX X; refine hX _ _ ?_; clear hX X) | (clear hX X; clear hX X; refine hX _ _ ?_; clear hX X) | (intro hlen; unfold maxLen at hlen) | (apply And.intro; (focus (first | omega | assumption | (repeat' apply And.intro) <;> first | omega | assumption)))))
  refine callE (awakeC _) ?_
  simp -implicitDefEqProofs only [↓slp, slb, ↓reduceIte, reduceCtorEq, Nat.reduceEqDiff, Nat.reduceAdd, Nat.reduceMul, Nat.reduceLT, Nat.reduceLeDiff, Nat.reduceBEq, Nat.reduceBNe, Int.reduceLE, Int.reduceLT, Int.reduceToNat, Int.reduceEq, tfCeCh]; try simp only [Ex.fold, Ex.foldcs, ← Va.pv.eq_1]
  (repeat (first | (refine aSeq (fun X hX => ?_)) | (refine aBlk ?_) | (refine aSkip ?_) | ((first | refine aReg ?_ | refine aDrw (fun m2 => m2 = _) (by kernel_rfl) rfl ?_); simp -implicitDefEqProofs only [forall_eq, ↓slp, slb, ↓reduceIte, reduceCtorEq, Nat.reduceEqDiff, Nat.reduceAdd, Nat.reduceMul, Nat.reduceLT, Nat.reduceLeDiff, Nat.reduceBEq, Nat.reduceBNe, Int.reduceLE, Int.reduceLT, Int.reduceToNat, Int.reduceEq, tfCeCh, w0, hk', w1]; try simp only [Ex.fold, Ex.foldcs, ← Va.pv.eq_1]) | (refine aIf ?_; simp -implicitDefEqProofs only [↓slp, slb, ↓reduceIte, reduceCtorEq, Nat.reduceEqDiff, Nat.reduceAdd, Nat.reduceMul, Nat.reduceLT, Nat.reduceLeDiff, Nat.reduceBEq, Nat.reduceBNe, Int.reduceLE, Int.reduceLT, Int.reduceToNat, Int.reduceEq, w0, hk', w1]) | (refine aExit ?_; simp only [slx, ↓reduceIte, Nat.reduceEqDiff, reduceCtorEq]) | (refine aRet ?_; try simp only [slx, ↓reduceIte, Nat.reduceEqDiff, reduceCtorEq]) | (refine hX _ _ ?_; clear hX X) | (clear hX X; refine hX _ _ ?_; clear hX X) | (clear hX X; clear hX X; refine hX _ _ ?_; clear hX X) | (intro hlen; unfold maxLen at hlen) | (apply And.intro; (focus (first | omega | assumption | (repeat' apply And.intro) <;> first | omega | assumption)))))
  refine callE (num_any _ _) ?_
  simp -implicitDefEqProofs only [↓slp, slb, ↓reduceIte, reduceCtorEq, Nat.reduceEqDiff, Nat.reduceAdd, Nat.reduceMul, Nat.reduceLT, Nat.reduceLeDiff, Nat.reduceBEq, Nat.reduceBNe, Int.reduceLE, Int.reduceLT, Int.reduceToNat, Int.reduceEq, tfCeCh]; try simp only [Ex.fold, Ex.foldcs, ← Va.pv.eq_1]
  (repeat (first | (refine aSeq (fun X hX => ?_)) | (refine aBlk ?_) | (refine aSkip ?_) | ((first | refine aReg ?_ | refine aDrw (fun m2 => m2 = _) (by kernel_rfl) rfl ?_); simp -implicitDefEqProofs only [forall_eq, ↓slp, slb, ↓reduceIte, reduceCtorEq, Nat.reduceEqDiff, Nat.reduceAdd, Nat.reduceMul, Nat.reduceLT, Nat.reduceLeDiff, Nat.reduceBEq, Nat.reduceBNe, Int.reduceLE, Int.reduceLT, Int.reduceToNat, Int.reduceEq, tfCeCh]; try simp only [Ex.fold, Ex.foldcs, ← Va.pv.eq_1]) | (refine aIf ?_; simp -implicitDefEqProofs only [↓slp, slb, ↓reduceIte, reduceCtorEq, Nat.reduceEqDiff, Nat.reduceAdd, Nat.reduceMul, Nat.reduceLT, Nat.reduceLeDiff, Nat.reduceBEq, Nat.reduceBNe, Int.reduceLE, Int.reduceLT, Int.reduceToNat, Int.reduceEq]) | (refine aExit ?_; simp only [slx, ↓reduceIte, Nat.reduceEqDiff, reduceCtorEq]) | (refine aRet ?_; try simp only [slx, ↓reduceIte, Nat.reduceEqDiff, reduceCtorEq]) | (refine hX _ _ ?_; clear hX X) | (clear hX X; refine hX _ _ ?_; clear hX X) | (clear hX X; clear hX X; refine hX _ _ ?_; clear hX X) | (intro hlen; unfold maxLen at hlen) | (apply And.intro; (focus (first | omega | assumption | (repeat' apply And.intro) <;> first | omega | assumption)))))
  obtain ⟨I, hI⟩ : ∃ I : F → M → Prop, ∀ f m', I f m' = (∃ (i : Nat) (oS oF : Own), 1 ≤ i ∧ i ≤ k0 + 1 ∧ f 2 = .v (.int .u8 fuel) ∧ f 7 = .v (.int .i64 ((k0 + 1 : Nat) : Int)) ∧ f 8 = .bp 0 0 ∧ f 9 = .v (.int .i64 i) ∧ m'.nb = 1 ∧ m'.get 0 = some [.sl oS ((chL i).map Sr.pv), .sl oF ((chFs i).map CFn.pv)] ∧ oS.free m' 2 ∧ oF.free m' 6 ∧ (∀ t, oS = .tok t → oF ≠ .tok t)) := ⟨_, fun _ _ => rfl⟩
  refine aLoop I (fun f m => k0 + 1 - numOf (f 9)) ?_ ?_
  · rw [hI]; exact ⟨1, .full, .full, Nat.le_refl _, by omega, rfl, rfl, rfl, rfl, rfl, rfl, trivial, trivial, fun t h => by cases h⟩
  intro f m1 hrel
  rw [hI] at hrel
  obtain ⟨i, oS, oF, hi1, hik, f2, f7, f8, f9, hnb, hg, hfS, hfF, hne⟩ := hrel
  cases c1 : decide ((i : Int) < ((k0 + 1 : Nat) : Int)) with
  | true =>
    have hlt : i < k0 + 1 := by simp at c1; omega
    have hii : IntKind.i64.wrap ((i : Int) + 1) = ((i + 1 : Nat) : Int) := by rw [wrap64 (by omega)]; omega
    have him : IntKind.i64.wrap ((i : Int) - 1) = ((i - 1 : Nat) : Int) := by rw [wrap64 (by omega)]; omega
    have hi32 : IntKind.i32.wrap (i : Int) = i := IntWalk.i32_in _ (by omega)
    have hme : numOf (f 9) = i := by rw [f9]; exact Int.toNat_natCast i
    obtain ⟨PS, hPS⟩ : ∃ PS : M → Prop, ∀ m2, PS m2 ↔ m2.get 0 = some [.sl oS ((chL i).map Sr.pv), .sl oF ((chFs i).map CFn.pv)] := ⟨_, fun _ => Iff.rfl⟩
    have gPS : ∀ x : Subtype PS, x.1.get 0 = some _ := fun x => (hPS _).1 x.2
    have z1 := nuS_size i
    have z2 := nuS_size (i - 1)
    have z3 : (⟨#[115]⟩ : ByteArray).size = 1 := rfl
    have z4 : (⟨#[102]⟩ : ByteArray).size = 1 := rfl
    (repeat (first | (refine aSeq (fun X hX => ?_)) | (refine aBlk ?_) | (refine aSkip ?_) | ((first | refine aReg ?_ | refine aDrw (fun m2 => m2 = _) (by kernel_rfl) rfl ?_); simp -implicitDefEqProofs only [forall_eq, ↓slp, slb, ↓reduceIte, reduceCtorEq, Nat.reduceEqDiff, Nat.reduceAdd, Nat.reduceMul, Nat.reduceLT, Nat.reduceLeDiff, Nat.reduceBEq, Nat.reduceBNe, Int.reduceLE, Int.reduceLT, Int.reduceToNat, Int.reduceEq, tfCeCh, f2, f7, f8, f9, c1]; try simp only [Ex.fold, Ex.foldcs, ← Va.pv.eq_1]) | (refine aExit ?_; simp only [slx, ↓reduceIte, Nat.reduceEqDiff, reduceCtorEq]) | (refine aRet ?_; try simp only [slx, ↓reduceIte, Nat.reduceEqDiff, reduceCtorEq]) | (refine hX _ _ ?_; clear hX X) | (clear hX X; refine hX _ _ ?_; clear hX X) | (clear hX X; clear hX X; refine hX _ _ ?_; clear hX X) | (intro hlen; unfold maxLen at hlen) | (apply And.intro; (focus (first | omega | assumption | (repeat' apply And.intro) <;> first | omega | assumption)))))
    refine aIf ?_; simp -implicitDefEqProofs only [↓slp, slb, ↓reduceIte, reduceCtorEq, Nat.reduceEqDiff, Nat.reduceAdd, Nat.reduceMul, Nat.reduceLT, Nat.reduceLeDiff, Nat.reduceBEq, Nat.reduceBNe, Int.reduceLE, Int.reduceLT, Int.reduceToNat, Int.reduceEq]
    (repeat (first | (refine aSeq (fun X hX => ?_)) | (refine aBlk ?_) | (refine aSkip ?_) | (refine aReg ?_; simp -implicitDefEqProofs only [forall_eq, ↓slp, slb, ↓reduceIte, reduceCtorEq, Nat.reduceEqDiff, Nat.reduceAdd, Nat.reduceMul, Nat.reduceLT, Nat.reduceLeDiff, Nat.reduceBEq, Nat.reduceBNe, Int.reduceLE, Int.reduceLT, Int.reduceToNat, Int.reduceEq, tfCeCh, f2, f7, f8, f9]; try simp only [Ex.fold, Ex.foldcs, ← Va.pv.eq_1]) | (refine aIf ?_; simp -implicitDefEqProofs only [↓slp, slb, ↓reduceIte, reduceCtorEq, Nat.reduceEqDiff, Nat.reduceAdd, Nat.reduceMul, Nat.reduceLT, Nat.reduceLeDiff, Nat.reduceBEq, Nat.reduceBNe, Int.reduceLE, Int.reduceLT, Int.reduceToNat, Int.reduceEq, f2, f7, f8, f9]) | (refine aExit ?_; simp only [slx, ↓reduceIte, Nat.reduceEqDiff, reduceCtorEq]) | (refine aRet ?_; try simp only [slx, ↓reduceIte, Nat.reduceEqDiff, reduceCtorEq]) | (refine hX _ _ ?_; clear hX X) | (clear hX X; refine hX _ _ ?_; clear hX X) | (clear hX X; clear hX X; refine hX _ _ ?_; clear hX X) | (intro hlen; unfold maxLen at hlen) | (apply And.intro; (focus (first | omega | assumption | (repeat' apply And.intro) <;> first | omega | assumption)))))
    refine aDrwE (isP PS) (hne := List.cons_ne_nil _ _) rfl (by kernel_rfl) (by kernel_rfl) (isP_of ((hPS _).2 hg)) ?_
    simp -implicitDefEqProofs only [↓slp, slb, ↓reduceIte, reduceCtorEq, Nat.reduceEqDiff, Nat.reduceAdd, Nat.reduceMul, Nat.reduceLT, Nat.reduceLeDiff, Nat.reduceBEq, Nat.reduceBNe, Int.reduceLE, Int.reduceLT, Int.reduceToNat, Int.reduceEq, tfCeCh, isP_all, f2, f7, f8, f9, hg, gPS, List.dropLast_cons_cons, List.dropLast_singleton, List.getLast_cons_cons, List.getLast_singleton]; try simp only [Ex.fold, Ex.foldcs, ← Va.pv.eq_1]
    refine callE (numC_any i (by omega) _) ?_
    refine ⟨isP_of ((hPS _).2 hg), ?_⟩
    simp -implicitDefEqProofs only [↓slp, slb, ↓reduceIte, reduceCtorEq, Nat.reduceEqDiff, Nat.reduceAdd, Nat.reduceMul, Nat.reduceLT, Nat.reduceLeDiff, Nat.reduceBEq, Nat.reduceBNe, Int.reduceLE, Int.reduceLT, Int.reduceToNat, Int.reduceEq, tfCeCh, isP_all, pS, him, f2, f7, f8, f9, hg, gPS, List.dropLast_cons_cons, List.dropLast_singleton, List.getLast_cons_cons, List.getLast_singleton]; try simp only [Ex.fold, Ex.foldcs, ← Va.pv.eq_1]
    refine ⟨by omega, ?_⟩
    refine callE (numC_any (i - 1) (by omega) _) ?_
    refine ⟨isP_of ((hPS _).2 hg), ?_⟩
    simp -implicitDefEqProofs only [↓slp, slb, ↓reduceIte, reduceCtorEq, Nat.reduceEqDiff, Nat.reduceAdd, Nat.reduceMul, Nat.reduceLT, Nat.reduceLeDiff, Nat.reduceBEq, Nat.reduceBNe, Int.reduceLE, Int.reduceLT, Int.reduceToNat, Int.reduceEq, tfCeCh, isP_all, pS, him, hi32, f2, f7, f8, f9, hg, gPS, List.dropLast_cons_cons, List.dropLast_singleton, List.getLast_cons_cons, List.getLast_singleton]; try simp only [Ex.fold, Ex.foldcs, ← Va.pv.eq_1]
    refine ⟨by omega, ?_⟩
    have hg2 : ((oS.use m1).fresh 2).get 0 = some [.sl oS ((chL i).map Sr.pv), .sl oF ((chFs i).map CFn.pv)] := by rw [fresh_get, use_get]; exact hg
    refine ⟨⟨hfS, fun x hx => by obtain ⟨z, _, rfl⟩ := List.mem_map.1 hx; rfl, by rw [chL_len]; unfold maxLen; omega, by rw [chL_len]; omega⟩, isP_of ((hPS _).2 hg2), ?_⟩
    simp -implicitDefEqProofs only [↓slp, slb, ↓reduceIte, reduceCtorEq, Nat.reduceEqDiff, Nat.reduceAdd, Nat.reduceMul, Nat.reduceLT, Nat.reduceLeDiff, Nat.reduceBEq, Nat.reduceBNe, Int.reduceLE, Int.reduceLT, Int.reduceToNat, Int.reduceEq, tfCeCh, hg2]; try simp only [Ex.fold, Ex.foldcs, ← Va.pv.eq_1]
    have hnz : i ≠ 0 := by omega
    have eL : (chL i).map Sr.pv ++ [PV.ag [.v (.string (⟨#[115]⟩ ++ nuS i)), .sl .no [.ag [.v (.string ⟨#[99]⟩), .v (.string ⟨#[]⟩)], .ag [.v (.string ⟨#[112]⟩), .v (.string (⟨#[115]⟩ ++ nuS (i - 1)))]]]] = (chL (i + 1)).map Sr.pv := by
      rw [chL_succ, List.map_append, chS, if_neg hnz]
      rfl
    obtain ⟨m2, hm2⟩ : ∃ m2, ((oS.use m1).fresh 2).upd 0 [.sl (.tok m1.nt) ((chL (i + 1)).map Sr.pv), .sl oF ((chFs i).map CFn.pv)] = m2 := ⟨_, rfl⟩
    have knb : m2.nb = 1 := by rw [← hm2, upd_nb]; show ((oS.use m1).boxes).length = 1; rw [use_boxes]; exact hnb
    have kg : m2.get 0 = some [.sl (.tok m1.nt) ((chL (i + 1)).map Sr.pv), .sl oF ((chFs i).map CFn.pv)] := by rw [← hm2]; exact get_upd_eq hg2
    have kfS : (Own.tok m1.nt).free m2 2 := by rw [← hm2, free_upd]; exact free_new m1 oS 2
    have kfF : oF.free m2 6 := by rw [← hm2, free_upd]; exact free_other hfF hne
    have kne : oF ≠ .tok m1.nt := free_ne hfF
    rw [eL, hm2]
    (repeat (first | (refine aSeq (fun X hX => ?_)) | (refine aBlk ?_) | (refine aSkip ?_) | (refine aExit ?_; simp only [slx, ↓reduceIte, Nat.reduceEqDiff, reduceCtorEq]) | (refine aRet ?_; try simp only [slx, ↓reduceIte, Nat.reduceEqDiff, reduceCtorEq]) | (refine hX _ _ ?_; clear hX X) | (clear hX X; refine hX _ _ ?_; clear hX X)))
    obtain ⟨PT, hPT⟩ : ∃ PT : M → Prop, ∀ m3, PT m3 ↔ m3.get 0 = some [.sl (.tok m1.nt) ((chL (i + 1)).map Sr.pv), .sl oF ((chFs i).map CFn.pv)] := ⟨_, fun _ => Iff.rfl⟩
    have gPT : ∀ x : Subtype PT, x.1.get 0 = some _ := fun x => (hPT _).1 x.2
    refine aDrwE (isP PT) (hne := List.cons_ne_nil _ _) rfl (by kernel_rfl) (by kernel_rfl) (isP_of ((hPT _).2 kg)) ?_
    simp -implicitDefEqProofs only [↓slp, slb, ↓reduceIte, reduceCtorEq, Nat.reduceEqDiff, Nat.reduceAdd, Nat.reduceMul, Nat.reduceLT, Nat.reduceLeDiff, Nat.reduceBEq, Nat.reduceBNe, Int.reduceLE, Int.reduceLT, Int.reduceToNat, Int.reduceEq, tfCeCh, isP_all, pS, him, hi32, f2, f7, f8, f9, kg, gPT, List.dropLast_cons_cons, List.dropLast_singleton, List.getLast_cons_cons, List.getLast_singleton]; try simp only [Ex.fold, Ex.foldcs, ← Va.pv.eq_1]
    refine callE (numC_any i (by omega) _) ?_
    refine ⟨isP_of ((hPT _).2 kg), ?_⟩
    simp -implicitDefEqProofs only [↓slp, slb, ↓reduceIte, reduceCtorEq, Nat.reduceEqDiff, Nat.reduceAdd, Nat.reduceMul, Nat.reduceLT, Nat.reduceLeDiff, Nat.reduceBEq, Nat.reduceBNe, Int.reduceLE, Int.reduceLT, Int.reduceToNat, Int.reduceEq, tfCeCh, isP_all, pS, him, hi32, f2, f7, f8, f9, kg, gPT, List.dropLast_cons_cons, List.dropLast_singleton, List.getLast_cons_cons, List.getLast_singleton]; try simp only [Ex.fold, Ex.foldcs, ← Va.pv.eq_1]
    refine ⟨by omega, ?_⟩
    refine callE (numC_any i (by omega) _) ?_
    refine ⟨isP_of ((hPT _).2 kg), ?_⟩
    simp -implicitDefEqProofs only [↓slp, slb, ↓reduceIte, reduceCtorEq, Nat.reduceEqDiff, Nat.reduceAdd, Nat.reduceMul, Nat.reduceLT, Nat.reduceLeDiff, Nat.reduceBEq, Nat.reduceBNe, Int.reduceLE, Int.reduceLT, Int.reduceToNat, Int.reduceEq, tfCeCh, isP_all, pS, him, hi32, f2, f7, f8, f9, kg, gPT, List.dropLast_cons_cons, List.dropLast_singleton, List.getLast_cons_cons, List.getLast_singleton]; try simp only [Ex.fold, Ex.foldcs, ← Va.pv.eq_1]
    refine ⟨by omega, ?_⟩
    refine callE (num_any i _) ?_
    refine ⟨isP_of ((hPT _).2 kg), ?_⟩
    simp -implicitDefEqProofs only [↓slp, slb, ↓reduceIte, reduceCtorEq, Nat.reduceEqDiff, Nat.reduceAdd, Nat.reduceMul, Nat.reduceLT, Nat.reduceLeDiff, Nat.reduceBEq, Nat.reduceBNe, Int.reduceLE, Int.reduceLT, Int.reduceToNat, Int.reduceEq, tfCeCh, isP_all, pS, him, hi32, f2, f7, f8, f9, kg, gPT, List.dropLast_cons_cons, List.dropLast_singleton, List.getLast_cons_cons, List.getLast_singleton]; try simp only [Ex.fold, Ex.foldcs, ← Va.pv.eq_1]
    refine callE (numC_any (i - 1) (by omega) _) ?_
    refine ⟨isP_of ((hPT _).2 kg), ?_⟩
    simp -implicitDefEqProofs only [↓slp, slb, ↓reduceIte, reduceCtorEq, Nat.reduceEqDiff, Nat.reduceAdd, Nat.reduceMul, Nat.reduceLT, Nat.reduceLeDiff, Nat.reduceBEq, Nat.reduceBNe, Int.reduceLE, Int.reduceLT, Int.reduceToNat, Int.reduceEq, tfCeCh, isP_all, pS, him, hi32, f2, f7, f8, f9, kg, gPT, List.dropLast_cons_cons, List.dropLast_singleton, List.getLast_cons_cons, List.getLast_singleton]; try simp only [Ex.fold, Ex.foldcs, ← Va.pv.eq_1]
    refine ⟨by omega, ?_⟩
    have hg3 : ((oF.use m2).fresh 6).get 0 = some [.sl (.tok m1.nt) ((chL (i + 1)).map Sr.pv), .sl oF ((chFs i).map CFn.pv)] := by rw [fresh_get, use_get]; exact kg
    refine ⟨⟨kfF, fun x hx => by obtain ⟨z, _, rfl⟩ := List.mem_map.1 hx; rfl, by rw [chFs_len]; unfold maxLen; omega, by rw [chFs_len]; omega⟩, isP_of ((hPT _).2 hg3), ?_⟩
    simp -implicitDefEqProofs only [↓slp, slb, ↓reduceIte, reduceCtorEq, Nat.reduceEqDiff, Nat.reduceAdd, Nat.reduceMul, Nat.reduceLT, Nat.reduceLeDiff, Nat.reduceBEq, Nat.reduceBNe, Int.reduceLE, Int.reduceLT, Int.reduceToNat, Int.reduceEq, tfCeCh, hg3]; try simp only [Ex.fold, Ex.foldcs, ← Va.pv.eq_1]
    (repeat (first | (refine aSeq (fun X hX => ?_)) | (refine aBlk ?_) | (refine aSkip ?_) | ((first | refine aReg ?_ | refine aDrw (fun m2 => m2 = _) (by kernel_rfl) rfl ?_); simp -implicitDefEqProofs only [forall_eq, ↓slp, slb, ↓reduceIte, reduceCtorEq, Nat.reduceEqDiff, Nat.reduceAdd, Nat.reduceMul, Nat.reduceLT, Nat.reduceLeDiff, Nat.reduceBEq, Nat.reduceBNe, Int.reduceLE, Int.reduceLT, Int.reduceToNat, Int.reduceEq, tfCeCh, f9, hii]; try simp only [Ex.fold, Ex.foldcs, ← Va.pv.eq_1]) | (refine aExit ?_; simp only [slx, ↓reduceIte, Nat.reduceEqDiff, reduceCtorEq]) | (refine aRet ?_; try simp only [slx, ↓reduceIte, Nat.reduceEqDiff, reduceCtorEq]) | (refine hX _ _ ?_; clear hX X) | (clear hX X; refine hX _ _ ?_; clear hX X) | (clear hX X; clear hX X; refine hX _ _ ?_; clear hX X) | (intro hlen; unfold maxLen at hlen) | (apply And.intro; (focus (first | omega | assumption | (repeat' apply And.intro) <;> first | omega | assumption)))))
    rw [hI]
    refine ⟨⟨i + 1, .tok m1.nt, .tok m2.nt, by omega, by omega, f2, f7, f8, rfl, ?_, (get_upd_eq hg3).trans ?_, ?_, ?_, ?_⟩, by first | omega | (simp only [↓slp, slb, ↓reduceIte, reduceCtorEq, Nat.reduceEqDiff, Nat.reduceAdd, Nat.reduceMul, Nat.reduceLT, Nat.reduceLeDiff, Nat.reduceBEq, Nat.reduceBNe, Int.reduceLE, Int.reduceLT, Int.reduceToNat, Int.reduceEq, f9]; omega)⟩
    · rw [upd_nb]; show ((oF.use m2).boxes).length = 1; rw [use_boxes]; exact knb
    · rw [chFs_succ, List.map_append, chF, if_neg hnz]; rfl
    · rw [free_upd]; exact free_other kfS (fun t ht he => by rw [he] at kne; exact kne ht)
    · rw [free_upd]; exact free_new m2 oF 6
    · intro t ht he
      exact free_ne kfS (ht.trans he.symm)
  | false =>
  obtain rfl : i = k0 + 1 := by simp at c1; omega
  clear hI
  (repeat (first | (refine aSeq (fun X hX => ?_)) | (refine aBlk ?_) | (refine aSkip ?_) | ((first | refine aReg ?_ | refine aDrw (fun m2 => m2 = _) (by kernel_rfl) rfl ?_); simp -implicitDefEqProofs only [forall_eq, ↓slp, slb, ↓reduceIte, reduceCtorEq, Nat.reduceEqDiff, Nat.reduceAdd, Nat.reduceMul, Nat.reduceLT, Nat.reduceLeDiff, Nat.reduceBEq, Nat.reduceBNe, Int.reduceLE, Int.reduceLT, Int.reduceToNat, Int.reduceEq, tfCeCh, f2, f7, f8, f9, c1]; try simp only [Ex.fold, Ex.foldcs, ← Va.pv.eq_1]) | (refine aExit ?_; simp only [slx, ↓reduceIte, Nat.reduceEqDiff, reduceCtorEq]) | (refine aRet ?_; try simp only [slx, ↓reduceIte, Nat.reduceEqDiff, reduceCtorEq]) | (refine hX _ _ ?_; clear hX X) | (clear hX X; refine hX _ _ ?_; clear hX X) | (clear hX X; clear hX X; refine hX _ _ ?_; clear hX X) | (intro hlen; unfold maxLen at hlen) | (apply And.intro; (focus (first | omega | assumption | (repeat' apply And.intro) <;> first | omega | assumption)))))
  refine aIf ?_; simp -implicitDefEqProofs only [↓slp, slb, ↓reduceIte, reduceCtorEq, Nat.reduceEqDiff, Nat.reduceAdd, Nat.reduceMul, Nat.reduceLT, Nat.reduceLeDiff, Nat.reduceBEq, Nat.reduceBNe, Int.reduceLE, Int.reduceLT, Int.reduceToNat, Int.reduceEq]
  have wk0 : IntKind.i64.wrap (((k0 + 1 : Nat) : Int) - 1) = (k0 : Int) := by rw [wrap64 (by omega)]; omega
  (repeat (first | (refine aSeq (fun X hX => ?_)) | (refine aBlk ?_) | (refine aSkip ?_) | ((first | refine aReg ?_ | refine aDrw (fun m2 => m2 = _) (by kernel_rfl) rfl ?_); simp -implicitDefEqProofs only [forall_eq, ↓slp, slb, ↓reduceIte, reduceCtorEq, Nat.reduceEqDiff, Nat.reduceAdd, Nat.reduceMul, Nat.reduceLT, Nat.reduceLeDiff, Nat.reduceBEq, Nat.reduceBNe, Int.reduceLE, Int.reduceLT, Int.reduceToNat, Int.reduceEq, tfCeCh, f2, f7, f8, f9, wk0]; try simp only [Ex.fold, Ex.foldcs, ← Va.pv.eq_1]) | (refine aExit ?_; simp only [slx, ↓reduceIte, Nat.reduceEqDiff, reduceCtorEq]) | (refine aRet ?_; try simp only [slx, ↓reduceIte, Nat.reduceEqDiff, reduceCtorEq]) | (refine hX _ _ ?_; clear hX X) | (clear hX X; refine hX _ _ ?_; clear hX X) | (clear hX X; clear hX X; refine hX _ _ ?_; clear hX X) | (intro hlen; unfold maxLen at hlen) | (apply And.intro; (focus (first | omega | assumption | (repeat' apply And.intro) <;> first | omega | assumption)))))
  refine callE (numC_any k0 (by omega) _) ?_
  have z1 := nuS_size k0
  have z3 : (⟨#[115]⟩ : ByteArray).size = 1 := rfl
  have z4 : (⟨#[102]⟩ : ByteArray).size = 1 := rfl
  simp -implicitDefEqProofs only [↓slp, slb, ↓reduceIte, reduceCtorEq, Nat.reduceEqDiff, Nat.reduceAdd, Nat.reduceMul, Nat.reduceLT, Nat.reduceLeDiff, Nat.reduceBEq, Nat.reduceBNe, Int.reduceLE, Int.reduceLT, Int.reduceToNat, Int.reduceEq, tfCeCh, pS, f2, f7, f8, f9]; try simp only [Ex.fold, Ex.foldcs, ← Va.pv.eq_1]
  refine ⟨by omega, ?_⟩
  (repeat (first | (refine aSeq (fun X hX => ?_)) | (refine aBlk ?_) | (refine aSkip ?_) | (refine aExit ?_; simp only [slx, ↓reduceIte, Nat.reduceEqDiff, reduceCtorEq]) | (refine aRet ?_; try simp only [slx, ↓reduceIte, Nat.reduceEqDiff, reduceCtorEq]) | (refine hX _ _ ?_; clear hX X) | (clear hX X; refine hX _ _ ?_; clear hX X)))
  have cS : ∀ m, ACalls Try.prog 11 [.ag [.sl oS ((chL (k0 + 1)).map Sr.pv), .sl oF ((chFs (k0 + 1)).map CFn.pv)], .v (.string (⟨#[115]⟩ ++ nuS k0))] m (fun v m' => v = .v (.int .i64 ((k0 + 1 : Nat) : Int)) ∧ m' = m) := fun m => by
    have := sizeT_any oS oF (chL (k0 + 1)) ((chFs (k0 + 1)).map CFn.pv) (by rw [chL_len]; omega) (nsS k0) m
    rw [chL_len, chSize k0 hk12] at this
    exact this
  (repeat (first | (refine aSeq (fun X hX => ?_)) | (refine aBlk ?_) | (refine aSkip ?_) | ((first | refine aReg ?_ | refine aDrw (fun m2 => m2 = _) (by kernel_rfl) rfl ?_); simp -implicitDefEqProofs only [forall_eq, ↓slp, slb, ↓reduceIte, reduceCtorEq, Nat.reduceEqDiff, Nat.reduceAdd, Nat.reduceMul, Nat.reduceLT, Nat.reduceLeDiff, Nat.reduceBEq, Nat.reduceBNe, Int.reduceLE, Int.reduceLT, Int.reduceToNat, Int.reduceEq, tfCeCh, f2, f7, f8, f9, wk0, hg]; try simp only [Ex.fold, Ex.foldcs, ← Va.pv.eq_1]) | (refine aExit ?_; simp only [slx, ↓reduceIte, Nat.reduceEqDiff, reduceCtorEq]) | (refine aRet ?_; try simp only [slx, ↓reduceIte, Nat.reduceEqDiff, reduceCtorEq]) | (refine hX _ _ ?_; clear hX X) | (clear hX X; refine hX _ _ ?_; clear hX X) | (clear hX X; clear hX X; refine hX _ _ ?_; clear hX X) | (intro hlen; unfold maxLen at hlen) | (apply And.intro; (focus (first | omega | assumption | (repeat' apply And.intro) <;> first | omega | assumption)))))
  refine callE (numC_any k0 (by omega) _) ?_
  refine ⟨rfl, ?_⟩
  simp -implicitDefEqProofs only [↓slp, slb, ↓reduceIte, reduceCtorEq, Nat.reduceEqDiff, Nat.reduceAdd, Nat.reduceMul, Nat.reduceLT, Nat.reduceLeDiff, Nat.reduceBEq, Nat.reduceBNe, Int.reduceLE, Int.reduceLT, Int.reduceToNat, Int.reduceEq, tfCeCh, pS, f2, f7, f8, f9, hg]; try simp only [Ex.fold, Ex.foldcs, ← Va.pv.eq_1]
  refine ⟨by omega, ?_⟩
  refine callE (cS _) ?_
  refine ⟨rfl, ?_⟩
  simp -implicitDefEqProofs only [↓slp, slb, ↓reduceIte, reduceCtorEq, Nat.reduceEqDiff, Nat.reduceAdd, Nat.reduceMul, Nat.reduceLT, Nat.reduceLeDiff, Nat.reduceBEq, Nat.reduceBNe, Int.reduceLE, Int.reduceLT, Int.reduceToNat, Int.reduceEq, tfCeCh, pS, f2, f7, f8, f9, hg]; try simp only [Ex.fold, Ex.foldcs, ← Va.pv.eq_1]
  (repeat (first | (refine aSeq (fun X hX => ?_)) | (refine aBlk ?_) | (refine aSkip ?_) | ((first | refine aReg ?_ | refine aDrw (fun m2 => m2 = _) (by kernel_rfl) rfl ?_); simp -implicitDefEqProofs only [forall_eq, ↓slp, slb, ↓reduceIte, reduceCtorEq, Nat.reduceEqDiff, Nat.reduceAdd, Nat.reduceMul, Nat.reduceLT, Nat.reduceLeDiff, Nat.reduceBEq, Nat.reduceBNe, Int.reduceLE, Int.reduceLT, Int.reduceToNat, Int.reduceEq, tfCeCh, f2, f7, f8, f9, hg]; try simp only [Ex.fold, Ex.foldcs, ← Va.pv.eq_1]) | (refine aExit ?_; simp only [slx, ↓reduceIte, Nat.reduceEqDiff, reduceCtorEq]) | (refine aRet ?_; try simp only [slx, ↓reduceIte, Nat.reduceEqDiff, reduceCtorEq]) | (refine hX _ _ ?_; clear hX X) | (clear hX X; refine hX _ _ ?_; clear hX X) | (clear hX X; clear hX X; refine hX _ _ ?_; clear hX X) | (intro hlen; unfold maxLen at hlen) | (apply And.intro; (focus (first | omega | assumption | (repeat' apply And.intro) <;> first | omega | assumption)))))
  refine callMS (newMS_any (L := chL (k0 + 1)) (fns := chFs (k0 + 1)) (k0 + 1) (by omega) _) rfl ?_
  rintro v m2 ⟨rfl, hms, hnb2, htk2, hgt2⟩
  rw [hnb] at hms ⊢
  have z5 : (((k0 + 1 : Nat) : Int) == ((k0 + 1 : Nat) : Int)) = true := by simp
  simp -implicitDefEqProofs only [↓slp, slb, ↓reduceIte, reduceCtorEq, Nat.reduceEqDiff, Nat.reduceAdd, Nat.reduceMul, Nat.reduceLT, Nat.reduceLeDiff, Nat.reduceBEq, Nat.reduceBNe, Int.reduceLE, Int.reduceLT, Int.reduceToNat, Int.reduceEq, tfCeCh, f2, f7, f8, f9]; try simp only [Ex.fold, Ex.foldcs, ← Va.pv.eq_1]
  (repeat (first | (refine aSeq (fun X hX => ?_)) | (refine aBlk ?_) | (refine aSkip ?_) | ((first | refine aReg ?_ | refine aDrw (fun m2 => m2 = _) (by kernel_rfl) rfl ?_); simp -implicitDefEqProofs only [forall_eq, ↓slp, slb, ↓reduceIte, reduceCtorEq, Nat.reduceEqDiff, Nat.reduceAdd, Nat.reduceMul, Nat.reduceLT, Nat.reduceLeDiff, Nat.reduceBEq, Nat.reduceBNe, Int.reduceLE, Int.reduceLT, Int.reduceToNat, Int.reduceEq, tfCeCh, f2, f7, f8, f9, z5, Int.reduceBEq]; try simp only [Ex.fold, Ex.foldcs, ← Va.pv.eq_1]) | (refine aIf ?_; simp -implicitDefEqProofs only [↓slp, slb, ↓reduceIte, reduceCtorEq, Nat.reduceEqDiff, Nat.reduceAdd, Nat.reduceMul, Nat.reduceLT, Nat.reduceLeDiff, Nat.reduceBEq, Nat.reduceBNe, Int.reduceLE, Int.reduceLT, Int.reduceToNat, Int.reduceEq, f2, f7, f8, f9, z5, Int.reduceBEq]) | (refine aExit ?_; simp only [slx, ↓reduceIte, Nat.reduceEqDiff, reduceCtorEq]) | (refine aRet ?_; try simp only [slx, ↓reduceIte, Nat.reduceEqDiff, reduceCtorEq]) | (refine hX _ _ ?_; clear hX X) | (clear hX X; refine hX _ _ ?_; clear hX X) | (clear hX X; clear hX X; refine hX _ _ ?_; clear hX X) | (intro hlen; unfold maxLen at hlen) | (apply And.intro; (focus (first | omega | assumption | (repeat' apply And.intro) <;> first | omega | assumption)))))
  have hz1 : maxZ 1000 = 1000 := rfl
  have hz9 : maxZ 9 = 9 := rfl
  have e1 : ((1 : Nat) : Int) = 1 := rfl
  have hrun1 := runM_any hms (by rw [chL_len]; omega) (ch_fields _) (ch_good _ (by omega)) (by rw [chFs_len]; omega) .full (nfS k0) 0 [] 1000 (by omega) (by intro x hx; cases hx) _ (ch_run1 k0 hk12)
  refine callM hrun1 ?_
  rintro v m3 ⟨rfl, hms3, hc3⟩
  dsimp only [CRn.cm] at hms3
  have est : (1000 : Int) - ((1000 - (3 * k0 + 2) : Nat) : Int) = ((3 * k0 + 2 : Nat) : Int) := by omega
  simp -implicitDefEqProofs only [↓slp, slb, ↓reduceIte, reduceCtorEq, Nat.reduceEqDiff, Nat.reduceAdd, Nat.reduceMul, Nat.reduceLT, Nat.reduceLeDiff, Nat.reduceBEq, Nat.reduceBNe, Int.reduceLE, Int.reduceLT, Int.reduceToNat, Int.reduceEq, tfCeCh, runV, hz1, est]; try simp only [Ex.fold, Ex.foldcs, ← Va.pv.eq_1]
  (repeat (first | (refine aSeq (fun X hX => ?_)) | (refine aBlk ?_) | (refine aSkip ?_) | ((first | refine aReg ?_ | refine aDrw (fun m2 => m2 = _) (by kernel_rfl) rfl ?_); simp -implicitDefEqProofs only [forall_eq, ↓slp, slb, ↓reduceIte, reduceCtorEq, Nat.reduceEqDiff, Nat.reduceAdd, Nat.reduceMul, Nat.reduceLT, Nat.reduceLeDiff, Nat.reduceBEq, Nat.reduceBNe, Int.reduceLE, Int.reduceLT, Int.reduceToNat, Int.reduceEq, tfCeCh]; try simp only [Ex.fold, Ex.foldcs, ← Va.pv.eq_1]) | (refine aIf ?_; simp -implicitDefEqProofs only [↓slp, slb, ↓reduceIte, reduceCtorEq, Nat.reduceEqDiff, Nat.reduceAdd, Nat.reduceMul, Nat.reduceLT, Nat.reduceLeDiff, Nat.reduceBEq, Nat.reduceBNe, Int.reduceLE, Int.reduceLT, Int.reduceToNat, Int.reduceEq]) | (refine aExit ?_; simp only [slx, ↓reduceIte, Nat.reduceEqDiff, reduceCtorEq]) | (refine aRet ?_; try simp only [slx, ↓reduceIte, Nat.reduceEqDiff, reduceCtorEq]) | (refine hX _ _ ?_; clear hX X) | (clear hX X; refine hX _ _ ?_; clear hX X) | (clear hX X; clear hX X; refine hX _ _ ?_; clear hX X) | (intro hlen; unfold maxLen at hlen) | (apply And.intro; (focus (first | omega | assumption | (repeat' apply And.intro) <;> first | omega | assumption)))))
  refine callE (cells_any hms3) ?_
  simp -implicitDefEqProofs only [↓slp, slb, ↓reduceIte, reduceCtorEq, Nat.reduceEqDiff, Nat.reduceAdd, Nat.reduceMul, Nat.reduceLT, Nat.reduceLeDiff, Nat.reduceBEq, Nat.reduceBNe, Int.reduceLE, Int.reduceLT, Int.reduceToNat, Int.reduceEq, tfCeCh]; try simp only [Ex.fold, Ex.foldcs, ← Va.pv.eq_1]
  (repeat (first | (refine aSeq (fun X hX => ?_)) | (refine aBlk ?_) | (refine aSkip ?_) | ((first | refine aReg ?_ | refine aDrw (fun m2 => m2 = _) (by kernel_rfl) rfl ?_); simp -implicitDefEqProofs only [forall_eq, ↓slp, slb, ↓reduceIte, reduceCtorEq, Nat.reduceEqDiff, Nat.reduceAdd, Nat.reduceMul, Nat.reduceLT, Nat.reduceLeDiff, Nat.reduceBEq, Nat.reduceBNe, Int.reduceLE, Int.reduceLT, Int.reduceToNat, Int.reduceEq, tfCeCh]; try simp only [Ex.fold, Ex.foldcs, ← Va.pv.eq_1]) | (refine aIf ?_; simp -implicitDefEqProofs only [↓slp, slb, ↓reduceIte, reduceCtorEq, Nat.reduceEqDiff, Nat.reduceAdd, Nat.reduceMul, Nat.reduceLT, Nat.reduceLeDiff, Nat.reduceBEq, Nat.reduceBNe, Int.reduceLE, Int.reduceLT, Int.reduceToNat, Int.reduceEq]) | (refine aExit ?_; simp only [slx, ↓reduceIte, Nat.reduceEqDiff, reduceCtorEq]) | (refine aRet ?_; try simp only [slx, ↓reduceIte, Nat.reduceEqDiff, reduceCtorEq]) | (refine hX _ _ ?_; clear hX X) | (clear hX X; refine hX _ _ ?_; clear hX X) | (clear hX X; clear hX X; refine hX _ _ ?_; clear hX X) | (intro hlen; unfold maxLen at hlen) | (apply And.intro; (focus (first | omega | assumption | (repeat' apply And.intro) <;> first | omega | assumption)))))
  obtain ⟨I2, hI2⟩ : ∃ I2 : F → M → Prop, ∀ f m', I2 f m' = (∃ i : Nat, i ≤ k0 + 1 ∧ f 2 = .v (.int .u8 fuel) ∧ f 7 = .v (.int .i64 ((k0 + 1 : Nat) : Int)) ∧ f 10 = .v (.string (⟨#[102]⟩ ++ nuS k0)) ∧ f 12 = .bp 3 0 ∧ f 15 = .v (.int .u8 0) ∧ f 16 = .v (.int .i64 ((3 * k0 + 2 : Nat) : Int)) ∧ f 17 = .sl .no (memB (chM (k0 + 1))) ∧ f 18 = .v (.int .i64 i) ∧ m' = m3) := ⟨_, fun _ _ => rfl⟩
  refine aLoop I2 (fun f m => k0 + 1 - numOf (f 18)) ?_ ?_
  · rw [hI2]; exact ⟨0, by omega, f2, f7, rfl, rfl, rfl, rfl, rfl, rfl, rfl⟩
  clear f2 f7 f8 f9
  intro f m4 hrel
  rw [hI2] at hrel
  obtain ⟨i, hi, f2, f7, f10, f12, f15, f16, f17, f18, rfl⟩ := hrel
  cases c2 : decide ((i : Int) < ((k0 + 1 : Nat) : Int)) with
  | true =>
    have hlt : i < k0 + 1 := by simp at c2; omega
    have hii : IntKind.i64.wrap ((i : Int) + 1) = ((i + 1 : Nat) : Int) := by rw [wrap64 (by omega)]; omega
    have hwi : IntKind.i64.wrap ((k0 : Int) - (i : Int)) = ((k0 - i : Nat) : Int) := by rw [wrap64 (by omega)]; omega
    have hw3 : IntKind.i32.wrap ((k0 - i : Nat) : Int) = ((k0 - i : Nat) : Int) := IntWalk.i32_in _ (by omega)
    have hme : numOf (f 18) = i := by rw [f18]; exact Int.toNat_natCast i
    have hl : (memB (chM (k0 + 1))).length = k0 + 1 := by rw [memB, List.length_map, chM_len]
    have hc := chM_at (k0 + 1) i hlt
    rw [show k0 + 1 - 1 = k0 from rfl] at hc
    have ga : (memB (chM (k0 + 1))).getD i .junk = pJ (if k0 - i = 0 then 7 else ((k0 - i : Nat) : Int)) := by
      rw [← hc]
      exact getD_map (fun x => PV.v (.int .i32 x)) (chM (k0 + 1)) i (by rw [chM_len]; exact hlt)
    by_cases hq : k0 - i = 0
    · have b1 : (((k0 - i : Nat) : Int) == 0) = true := by simp [hq]
      rw [if_pos hq] at ga
      (repeat (first | (refine aSeq (fun X hX => ?_)) | (refine aBlk ?_) | (refine aSkip ?_) | ((first | refine aReg ?_ | refine aDrw (fun m2 => m2 = _) (by kernel_rfl) rfl ?_); simp -implicitDefEqProofs only [forall_eq, ↓slp, slb, ↓reduceIte, reduceCtorEq, Nat.reduceEqDiff, Nat.reduceAdd, Nat.reduceMul, Nat.reduceLT, Nat.reduceLeDiff, Nat.reduceBEq, Nat.reduceBNe, Int.reduceLE, Int.reduceLT, Int.reduceToNat, Int.reduceEq, tfCeCh, f2, f7, f10, f12, f15, f16, f17, f18, c2]; try simp only [Ex.fold, Ex.foldcs, ← Va.pv.eq_1]) | (refine aExit ?_; simp only [slx, ↓reduceIte, Nat.reduceEqDiff, reduceCtorEq]) | (refine aRet ?_; try simp only [slx, ↓reduceIte, Nat.reduceEqDiff, reduceCtorEq]) | (refine hX _ _ ?_; clear hX X) | (clear hX X; refine hX _ _ ?_; clear hX X) | (clear hX X; clear hX X; refine hX _ _ ?_; clear hX X) | (intro hlen; unfold maxLen at hlen) | (apply And.intro; (focus (first | omega | assumption | (repeat' apply And.intro) <;> first | omega | assumption)))))
      refine aIf ?_; simp -implicitDefEqProofs only [↓slp, slb, ↓reduceIte, reduceCtorEq, Nat.reduceEqDiff, Nat.reduceAdd, Nat.reduceMul, Nat.reduceLT, Nat.reduceLeDiff, Nat.reduceBEq, Nat.reduceBNe, Int.reduceLE, Int.reduceLT, Int.reduceToNat, Int.reduceEq]
      (repeat (first | (refine aSeq (fun X hX => ?_)) | (refine aBlk ?_) | (refine aSkip ?_) | ((first | refine aReg ?_ | refine aDrw (fun m2 => m2 = _) (by kernel_rfl) rfl ?_); simp -implicitDefEqProofs only [forall_eq, ↓slp, slb, ↓reduceIte, reduceCtorEq, Nat.reduceEqDiff, Nat.reduceAdd, Nat.reduceMul, Nat.reduceLT, Nat.reduceLeDiff, Nat.reduceBEq, Nat.reduceBNe, Int.reduceLE, Int.reduceLT, Int.reduceToNat, Int.reduceEq, tfCeCh, f2, f7, f10, f12, f15, f16, f17, f18, wk0, hwi, hw3, b1, hl, ga, hii]; try simp only [Ex.fold, Ex.foldcs, ← Va.pv.eq_1]) | (refine aIf ?_; simp -implicitDefEqProofs only [↓slp, slb, ↓reduceIte, reduceCtorEq, Nat.reduceEqDiff, Nat.reduceAdd, Nat.reduceMul, Nat.reduceLT, Nat.reduceLeDiff, Nat.reduceBEq, Nat.reduceBNe, Int.reduceLE, Int.reduceLT, Int.reduceToNat, Int.reduceEq, f2, f7, f10, f12, f15, f16, f17, f18, wk0, hwi, hw3, b1, hl, ga, hii]) | (refine aExit ?_; simp only [slx, ↓reduceIte, Nat.reduceEqDiff, reduceCtorEq]) | (refine aRet ?_; try simp only [slx, ↓reduceIte, Nat.reduceEqDiff, reduceCtorEq]) | (refine hX _ _ ?_; clear hX X) | (clear hX X; refine hX _ _ ?_; clear hX X) | (clear hX X; clear hX X; refine hX _ _ ?_; clear hX X) | (intro hlen; unfold maxLen at hlen) | (apply And.intro; (focus (first | omega | assumption | (repeat' apply And.intro) <;> first | omega | assumption)))))
      rw [hI2]
      exact ⟨⟨i + 1, by omega, f2, f7, f10, f12, f15, f16, f17, rfl, rfl⟩, by first | omega | (simp only [↓slp, slb, ↓reduceIte, reduceCtorEq, Nat.reduceEqDiff, Nat.reduceAdd, Nat.reduceMul, Nat.reduceLT, Nat.reduceLeDiff, Nat.reduceBEq, Nat.reduceBNe, Int.reduceLE, Int.reduceLT, Int.reduceToNat, Int.reduceEq, f18]; omega)⟩
    · have b1 : (((k0 - i : Nat) : Int) == 0) = false := by simp; omega
      rw [if_neg hq] at ga
      (repeat (first | (refine aSeq (fun X hX => ?_)) | (refine aBlk ?_) | (refine aSkip ?_) | ((first | refine aReg ?_ | refine aDrw (fun m2 => m2 = _) (by kernel_rfl) rfl ?_); simp -implicitDefEqProofs only [forall_eq, ↓slp, slb, ↓reduceIte, reduceCtorEq, Nat.reduceEqDiff, Nat.reduceAdd, Nat.reduceMul, Nat.reduceLT, Nat.reduceLeDiff, Nat.reduceBEq, Nat.reduceBNe, Int.reduceLE, Int.reduceLT, Int.reduceToNat, Int.reduceEq, tfCeCh, f2, f7, f10, f12, f15, f16, f17, f18, c2]; try simp only [Ex.fold, Ex.foldcs, ← Va.pv.eq_1]) | (refine aExit ?_; simp only [slx, ↓reduceIte, Nat.reduceEqDiff, reduceCtorEq]) | (refine aRet ?_; try simp only [slx, ↓reduceIte, Nat.reduceEqDiff, reduceCtorEq]) | (refine hX _ _ ?_; clear hX X) | (clear hX X; refine hX _ _ ?_; clear hX X) | (clear hX X; clear hX X; refine hX _ _ ?_; clear hX X) | (intro hlen; unfold maxLen at hlen) | (apply And.intro; (focus (first | omega | assumption | (repeat' apply And.intro) <;> first | omega | assumption)))))
      refine aIf ?_; simp -implicitDefEqProofs only [↓slp, slb, ↓reduceIte, reduceCtorEq, Nat.reduceEqDiff, Nat.reduceAdd, Nat.reduceMul, Nat.reduceLT, Nat.reduceLeDiff, Nat.reduceBEq, Nat.reduceBNe, Int.reduceLE, Int.reduceLT, Int.reduceToNat, Int.reduceEq]
      (repeat (first | (refine aSeq (fun X hX => ?_)) | (refine aBlk ?_) | (refine aSkip ?_) | ((first | refine aReg ?_ | refine aDrw (fun m2 => m2 = _) (by kernel_rfl) rfl ?_); simp -implicitDefEqProofs only [forall_eq, ↓slp, slb, ↓reduceIte, reduceCtorEq, Nat.reduceEqDiff, Nat.reduceAdd, Nat.reduceMul, Nat.reduceLT, Nat.reduceLeDiff, Nat.reduceBEq, Nat.reduceBNe, Int.reduceLE, Int.reduceLT, Int.reduceToNat, Int.reduceEq, tfCeCh, f2, f7, f10, f12, f15, f16, f17, f18, wk0, hwi, hw3, b1, hl, ga, hii]; try simp only [Ex.fold, Ex.foldcs, ← Va.pv.eq_1]) | (refine aIf ?_; simp -implicitDefEqProofs only [↓slp, slb, ↓reduceIte, reduceCtorEq, Nat.reduceEqDiff, Nat.reduceAdd, Nat.reduceMul, Nat.reduceLT, Nat.reduceLeDiff, Nat.reduceBEq, Nat.reduceBNe, Int.reduceLE, Int.reduceLT, Int.reduceToNat, Int.reduceEq, f2, f7, f10, f12, f15, f16, f17, f18, wk0, hwi, hw3, b1, hl, ga, hii]) | (refine aExit ?_; simp only [slx, ↓reduceIte, Nat.reduceEqDiff, reduceCtorEq]) | (refine aRet ?_; try simp only [slx, ↓reduceIte, Nat.reduceEqDiff, reduceCtorEq]) | (refine hX _ _ ?_; clear hX X) | (clear hX X; refine hX _ _ ?_; clear hX X) | (clear hX X; clear hX X; refine hX _ _ ?_; clear hX X) | (intro hlen; unfold maxLen at hlen) | (apply And.intro; (focus (first | omega | assumption | (repeat' apply And.intro) <;> first | omega | assumption)))))
      rw [hI2]
      exact ⟨⟨i + 1, by omega, f2, f7, f10, f12, f15, f16, f17, rfl, rfl⟩, by first | omega | (simp only [↓slp, slb, ↓reduceIte, reduceCtorEq, Nat.reduceEqDiff, Nat.reduceAdd, Nat.reduceMul, Nat.reduceLT, Nat.reduceLeDiff, Nat.reduceBEq, Nat.reduceBNe, Int.reduceLE, Int.reduceLT, Int.reduceToNat, Int.reduceEq, f18]; omega)⟩
  | false =>
  obtain ⟨g, hg40, hgl⟩ := tmod_nat hf.1 40 (by omega)
  have hg' : fuel.tmod 40 = (g : Int) := hg40
  have wf : IntKind.i64.wrap fuel = fuel := wrap64 (by omega)
  have w3 : IntKind.i64.wrap (3 * (k0 : Int)) = ((3 * k0 : Nat) : Int) := by rw [wrap64 (by omega)]; omega
  have w4 : IntKind.i64.wrap (((3 * k0 : Nat) : Int) + 2) = ((3 * k0 + 2 : Nat) : Int) := by rw [wrap64 (by omega)]; omega
  have b0 : (((3 * k0 + 2 : Nat) : Int) == ((3 * k0 + 2 : Nat) : Int)) = true := by simp
  (repeat (first | (refine aSeq (fun X hX => ?_)) | (refine aBlk ?_) | (refine aSkip ?_) | ((first | refine aReg ?_ | refine aDrw (fun m2 => m2 = _) (by kernel_rfl) rfl ?_); simp -implicitDefEqProofs only [forall_eq, ↓slp, slb, ↓reduceIte, reduceCtorEq, Nat.reduceEqDiff, Nat.reduceAdd, Nat.reduceMul, Nat.reduceLT, Nat.reduceLeDiff, Nat.reduceBEq, Nat.reduceBNe, Int.reduceLE, Int.reduceLT, Int.reduceToNat, Int.reduceEq, tfCeCh, f2, f7, f10, f12, f15, f16, f17, f18, c2]; try simp only [Ex.fold, Ex.foldcs, ← Va.pv.eq_1]) | (refine aExit ?_; simp only [slx, ↓reduceIte, Nat.reduceEqDiff, reduceCtorEq]) | (refine aRet ?_; try simp only [slx, ↓reduceIte, Nat.reduceEqDiff, reduceCtorEq]) | (refine hX _ _ ?_; clear hX X) | (clear hX X; refine hX _ _ ?_; clear hX X) | (clear hX X; clear hX X; refine hX _ _ ?_; clear hX X) | (intro hlen; unfold maxLen at hlen) | (apply And.intro; (focus (first | omega | assumption | (repeat' apply And.intro) <;> first | omega | assumption)))))
  refine aIf ?_; simp -implicitDefEqProofs only [↓slp, slb, ↓reduceIte, reduceCtorEq, Nat.reduceEqDiff, Nat.reduceAdd, Nat.reduceMul, Nat.reduceLT, Nat.reduceLeDiff, Nat.reduceBEq, Nat.reduceBNe, Int.reduceLE, Int.reduceLT, Int.reduceToNat, Int.reduceEq]
  (repeat (first | (refine aSeq (fun X hX => ?_)) | (refine aBlk ?_) | (refine aSkip ?_) | ((first | refine aReg ?_ | refine aDrw (fun m2 => m2 = _) (by kernel_rfl) rfl ?_); simp -implicitDefEqProofs only [forall_eq, ↓slp, slb, ↓reduceIte, reduceCtorEq, Nat.reduceEqDiff, Nat.reduceAdd, Nat.reduceMul, Nat.reduceLT, Nat.reduceLeDiff, Nat.reduceBEq, Nat.reduceBNe, Int.reduceLE, Int.reduceLT, Int.reduceToNat, Int.reduceEq, tfCeCh, f2, f7, f10, f12, f15, f16, f17, f18, wk0, w3, w4, b0, Int.reduceBEq, wf, hg']; try simp only [Ex.fold, Ex.foldcs, ← Va.pv.eq_1]) | (refine aIf ?_; simp -implicitDefEqProofs only [↓slp, slb, ↓reduceIte, reduceCtorEq, Nat.reduceEqDiff, Nat.reduceAdd, Nat.reduceMul, Nat.reduceLT, Nat.reduceLeDiff, Nat.reduceBEq, Nat.reduceBNe, Int.reduceLE, Int.reduceLT, Int.reduceToNat, Int.reduceEq, f2, f7, f10, f12, f15, f16, f17, f18, wk0, w3, w4, b0, Int.reduceBEq, wf, hg']) | (refine aExit ?_; simp only [slx, ↓reduceIte, Nat.reduceEqDiff, reduceCtorEq]) | (refine aRet ?_; try simp only [slx, ↓reduceIte, Nat.reduceEqDiff, reduceCtorEq]) | (refine hX _ _ ?_; clear hX X) | (clear hX X; refine hX _ _ ?_; clear hX X) | (clear hX X; clear hX X; refine hX _ _ ?_; clear hX X) | (intro hlen; unfold maxLen at hlen) | (apply And.intro; (focus (first | omega | assumption | (repeat' apply And.intro) <;> first | omega | assumption)))))
  have hzg : maxZ (g : Int) = g := by unfold maxZ; rw [if_neg (by omega)]
  rcases ch_run2 k0 hk12 g hgl with ⟨ys, s, hr2, hle⟩ | ⟨s, hr2, hs0, hlt2⟩
  · have hrun2 := runM_any hms3 (by rw [chL_len]; omega) (ch_fields _) (ch_good _ (by omega)) (by rw [chFs_len]; omega) .full (nfS k0) 0 [] g (by omega) (by intro x hx; cases hx) _ hr2
    refine callM hrun2 ?_
    rintro v m5 ⟨rfl, hms4, hc4⟩
    dsimp only [CRn.cm] at hms4
    have b2 : decide ((g : Int) < ((3 * k0 + 2 : Nat) : Int)) = false := by simp; omega
    simp -implicitDefEqProofs only [↓slp, slb, ↓reduceIte, reduceCtorEq, Nat.reduceEqDiff, Nat.reduceAdd, Nat.reduceMul, Nat.reduceLT, Nat.reduceLeDiff, Nat.reduceBEq, Nat.reduceBNe, Int.reduceLE, Int.reduceLT, Int.reduceToNat, Int.reduceEq, tfCeCh, runV, hzg]; try simp only [Ex.fold, Ex.foldcs, ← Va.pv.eq_1]
    (repeat (first | (refine aSeq (fun X hX => ?_)) | (refine aBlk ?_) | (refine aSkip ?_) | ((first | refine aReg ?_ | refine aDrw (fun m2 => m2 = _) (by kernel_rfl) rfl ?_); simp -implicitDefEqProofs only [forall_eq, ↓slp, slb, ↓reduceIte, reduceCtorEq, Nat.reduceEqDiff, Nat.reduceAdd, Nat.reduceMul, Nat.reduceLT, Nat.reduceLeDiff, Nat.reduceBEq, Nat.reduceBNe, Int.reduceLE, Int.reduceLT, Int.reduceToNat, Int.reduceEq, tfCeCh, f2, f7, f10, f12, wk0, w3, w4, b2, wf, hg']; try simp only [Ex.fold, Ex.foldcs, ← Va.pv.eq_1]) | (refine aIf ?_; simp -implicitDefEqProofs only [↓slp, slb, ↓reduceIte, reduceCtorEq, Nat.reduceEqDiff, Nat.reduceAdd, Nat.reduceMul, Nat.reduceLT, Nat.reduceLeDiff, Nat.reduceBEq, Nat.reduceBNe, Int.reduceLE, Int.reduceLT, Int.reduceToNat, Int.reduceEq, f2, f7, f10, f12, wk0, w3, w4, b2, wf, hg']) | (refine aExit ?_; simp only [slx, ↓reduceIte, Nat.reduceEqDiff, reduceCtorEq]) | (refine aRet ?_; try simp only [slx, ↓reduceIte, Nat.reduceEqDiff, reduceCtorEq]) | (refine hX _ _ ?_; clear hX X) | (clear hX X; refine hX _ _ ?_; clear hX X) | (clear hX X; clear hX X; refine hX _ _ ?_; clear hX X) | (intro hlen; unfold maxLen at hlen) | (apply And.intro; (focus (first | omega | assumption | (repeat' apply And.intro) <;> first | omega | assumption)))))
    have hb0 := ch_bad0 k0 hk12 0 9 (s.mem) (s.tch)
    have hrun3 := runM_any hms4 (by rw [chL_len]; omega) (ch_fields _) (ch_good _ (by omega)) (by rw [chFs_len]; omega) .full ⟨#[110, 111, 110, 101]⟩ 0 [] 9 (by omega) (by intro x hx; cases hx) _ hb0
    refine callM hrun3 ?_
    rintro v m5 ⟨rfl, hms5, hc5⟩
    dsimp only [CRn.cm] at hms5
    simp -implicitDefEqProofs only [↓slp, slb, ↓reduceIte, reduceCtorEq, Nat.reduceEqDiff, Nat.reduceAdd, Nat.reduceMul, Nat.reduceLT, Nat.reduceLeDiff, Nat.reduceBEq, Nat.reduceBNe, Int.reduceLE, Int.reduceLT, Int.reduceToNat, Int.reduceEq, tfCeCh, runV, hz9]; try simp only [Ex.fold, Ex.foldcs, ← Va.pv.eq_1]
    (repeat (first | (refine aSeq (fun X hX => ?_)) | (refine aBlk ?_) | (refine aSkip ?_) | ((first | refine aReg ?_ | refine aDrw (fun m2 => m2 = _) (by kernel_rfl) rfl ?_); simp -implicitDefEqProofs only [forall_eq, ↓slp, slb, ↓reduceIte, reduceCtorEq, Nat.reduceEqDiff, Nat.reduceAdd, Nat.reduceMul, Nat.reduceLT, Nat.reduceLeDiff, Nat.reduceBEq, Nat.reduceBNe, Int.reduceLE, Int.reduceLT, Int.reduceToNat, Int.reduceEq, tfCeCh, f2, f7, f10, f12]; try simp only [Ex.fold, Ex.foldcs, ← Va.pv.eq_1]) | (refine aIf ?_; simp -implicitDefEqProofs only [↓slp, slb, ↓reduceIte, reduceCtorEq, Nat.reduceEqDiff, Nat.reduceAdd, Nat.reduceMul, Nat.reduceLT, Nat.reduceLeDiff, Nat.reduceBEq, Nat.reduceBNe, Int.reduceLE, Int.reduceLT, Int.reduceToNat, Int.reduceEq, f2, f7, f10, f12]) | (refine aExit ?_; simp only [slx, ↓reduceIte, Nat.reduceEqDiff, reduceCtorEq]) | (refine aRet ?_; try simp only [slx, ↓reduceIte, Nat.reduceEqDiff, reduceCtorEq]) | (refine hX _ _ ?_; clear hX X) | (clear hX X; refine hX _ _ ?_; clear hX X) | (clear hX X; clear hX X; refine hX _ _ ?_; clear hX X) | (intro hlen; unfold maxLen at hlen) | (apply And.intro; (focus (first | omega | assumption | (repeat' apply And.intro) <;> first | omega | assumption)))))
    have hb1 := ch_bad1 (k0 + 1) (nfS k0) 0 9 (s.mem) (s.tch) 1
    have hrun4 := runM_any hms5 (by rw [chL_len]; omega) (ch_fields _) (ch_good _ (by omega)) (by rw [chFs_len]; omega) .full (nfS k0) 0 [1] 9 (by omega) (by intro x hx; simp at hx; subst hx; unfold R32; omega) _ hb1
    refine callM hrun4 ?_
    rintro v m6 ⟨rfl, hms6, hc6⟩
    simp -implicitDefEqProofs only [↓slp, slb, ↓reduceIte, reduceCtorEq, Nat.reduceEqDiff, Nat.reduceAdd, Nat.reduceMul, Nat.reduceLT, Nat.reduceLeDiff, Nat.reduceBEq, Nat.reduceBNe, Int.reduceLE, Int.reduceLT, Int.reduceToNat, Int.reduceEq, tfCeCh, runV, hz9]; try simp only [Ex.fold, Ex.foldcs, ← Va.pv.eq_1]
    (repeat (first | (refine aSeq (fun X hX => ?_)) | (refine aBlk ?_) | (refine aSkip ?_) | ((first | refine aReg ?_ | refine aDrw (fun m2 => m2 = _) (by kernel_rfl) rfl ?_); simp -implicitDefEqProofs only [forall_eq, ↓slp, slb, ↓reduceIte, reduceCtorEq, Nat.reduceEqDiff, Nat.reduceAdd, Nat.reduceMul, Nat.reduceLT, Nat.reduceLeDiff, Nat.reduceBEq, Nat.reduceBNe, Int.reduceLE, Int.reduceLT, Int.reduceToNat, Int.reduceEq, tfCeCh, Int.reduceBEq, e1]; try simp only [Ex.fold, Ex.foldcs, ← Va.pv.eq_1]) | (refine aIf ?_; simp -implicitDefEqProofs only [↓slp, slb, ↓reduceIte, reduceCtorEq, Nat.reduceEqDiff, Nat.reduceAdd, Nat.reduceMul, Nat.reduceLT, Nat.reduceLeDiff, Nat.reduceBEq, Nat.reduceBNe, Int.reduceLE, Int.reduceLT, Int.reduceToNat, Int.reduceEq, Int.reduceBEq, e1]) | (refine aExit ?_; simp only [slx, ↓reduceIte, Nat.reduceEqDiff, reduceCtorEq]) | (refine aRet ?_; try simp only [slx, ↓reduceIte, Nat.reduceEqDiff, reduceCtorEq]) | (refine hX _ _ ?_; clear hX X) | (clear hX X; refine hX _ _ ?_; clear hX X) | (clear hX X; clear hX X; refine hX _ _ ?_; clear hX X) | (intro hlen; unfold maxLen at hlen) | (apply And.intro; (focus (first | omega | assumption | (repeat' apply And.intro) <;> first | omega | assumption)))))
    simp only [aPost, Try.results4, aRes_n, aRes_t, aRes_c, pack_one, pack_two]
    exact leave_M0 rfl rfl
  · have hrun2 := runM_any hms3 (by rw [chL_len]; omega) (ch_fields _) (ch_good _ (by omega)) (by rw [chFs_len]; omega) .full (nfS k0) 0 [] g (by omega) (by intro x hx; cases hx) _ hr2
    refine callM hrun2 ?_
    rintro v m5 ⟨rfl, hms4, hc4⟩
    dsimp only [CRn.cm] at hms4
    have b2 : decide ((g : Int) < ((3 * k0 + 2 : Nat) : Int)) = true := by simp; omega
    have b3 : (g : Int) - (s.left : Int) = g := by omega
    have e4 : ((4 : Nat) : Int) = 4 := rfl
    simp -implicitDefEqProofs only [↓slp, slb, ↓reduceIte, reduceCtorEq, Nat.reduceEqDiff, Nat.reduceAdd, Nat.reduceMul, Nat.reduceLT, Nat.reduceLeDiff, Nat.reduceBEq, Nat.reduceBNe, Int.reduceLE, Int.reduceLT, Int.reduceToNat, Int.reduceEq, tfCeCh, runV, hzg, b3, e4]; try simp only [Ex.fold, Ex.foldcs, ← Va.pv.eq_1]
    (repeat (first | (refine aSeq (fun X hX => ?_)) | (refine aBlk ?_) | (refine aSkip ?_) | ((first | refine aReg ?_ | refine aDrw (fun m2 => m2 = _) (by kernel_rfl) rfl ?_); simp -implicitDefEqProofs only [forall_eq, ↓slp, slb, ↓reduceIte, reduceCtorEq, Nat.reduceEqDiff, Nat.reduceAdd, Nat.reduceMul, Nat.reduceLT, Nat.reduceLeDiff, Nat.reduceBEq, Nat.reduceBNe, Int.reduceLE, Int.reduceLT, Int.reduceToNat, Int.reduceEq, tfCeCh, f2, f7, f10, f12, wk0, w3, w4, b2, wf, hg', Int.reduceBEq]; try simp only [Ex.fold, Ex.foldcs, ← Va.pv.eq_1]) | (refine aIf ?_; simp -implicitDefEqProofs only [↓slp, slb, ↓reduceIte, reduceCtorEq, Nat.reduceEqDiff, Nat.reduceAdd, Nat.reduceMul, Nat.reduceLT, Nat.reduceLeDiff, Nat.reduceBEq, Nat.reduceBNe, Int.reduceLE, Int.reduceLT, Int.reduceToNat, Int.reduceEq, f2, f7, f10, f12, wk0, w3, w4, b2, wf, hg', Int.reduceBEq]) | (refine aExit ?_; simp only [slx, ↓reduceIte, Nat.reduceEqDiff, reduceCtorEq]) | (refine aRet ?_; try simp only [slx, ↓reduceIte, Nat.reduceEqDiff, reduceCtorEq]) | (refine hX _ _ ?_; clear hX X) | (clear hX X; refine hX _ _ ?_; clear hX X) | (clear hX X; clear hX X; refine hX _ _ ?_; clear hX X) | (intro hlen; unfold maxLen at hlen) | (apply And.intro; (focus (first | omega | assumption | (repeat' apply And.intro) <;> first | omega | assumption)))))
    have hb0 := ch_bad0 k0 hk12 0 9 (s.mem) (s.tch)
    have hrun3 := runM_any hms4 (by rw [chL_len]; omega) (ch_fields _) (ch_good _ (by omega)) (by rw [chFs_len]; omega) .full ⟨#[110, 111, 110, 101]⟩ 0 [] 9 (by omega) (by intro x hx; cases hx) _ hb0
    refine callM hrun3 ?_
    rintro v m5 ⟨rfl, hms5, hc5⟩
    dsimp only [CRn.cm] at hms5
    simp -implicitDefEqProofs only [↓slp, slb, ↓reduceIte, reduceCtorEq, Nat.reduceEqDiff, Nat.reduceAdd, Nat.reduceMul, Nat.reduceLT, Nat.reduceLeDiff, Nat.reduceBEq, Nat.reduceBNe, Int.reduceLE, Int.reduceLT, Int.reduceToNat, Int.reduceEq, tfCeCh, runV, hz9]; try simp only [Ex.fold, Ex.foldcs, ← Va.pv.eq_1]
    (repeat (first | (refine aSeq (fun X hX => ?_)) | (refine aBlk ?_) | (refine aSkip ?_) | ((first | refine aReg ?_ | refine aDrw (fun m2 => m2 = _) (by kernel_rfl) rfl ?_); simp -implicitDefEqProofs only [forall_eq, ↓slp, slb, ↓reduceIte, reduceCtorEq, Nat.reduceEqDiff, Nat.reduceAdd, Nat.reduceMul, Nat.reduceLT, Nat.reduceLeDiff, Nat.reduceBEq, Nat.reduceBNe, Int.reduceLE, Int.reduceLT, Int.reduceToNat, Int.reduceEq, tfCeCh, f2, f7, f10, f12]; try simp only [Ex.fold, Ex.foldcs, ← Va.pv.eq_1]) | (refine aIf ?_; simp -implicitDefEqProofs only [↓slp, slb, ↓reduceIte, reduceCtorEq, Nat.reduceEqDiff, Nat.reduceAdd, Nat.reduceMul, Nat.reduceLT, Nat.reduceLeDiff, Nat.reduceBEq, Nat.reduceBNe, Int.reduceLE, Int.reduceLT, Int.reduceToNat, Int.reduceEq, f2, f7, f10, f12]) | (refine aExit ?_; simp only [slx, ↓reduceIte, Nat.reduceEqDiff, reduceCtorEq]) | (refine aRet ?_; try simp only [slx, ↓reduceIte, Nat.reduceEqDiff, reduceCtorEq]) | (refine hX _ _ ?_; clear hX X) | (clear hX X; refine hX _ _ ?_; clear hX X) | (clear hX X; clear hX X; refine hX _ _ ?_; clear hX X) | (intro hlen; unfold maxLen at hlen) | (apply And.intro; (focus (first | omega | assumption | (repeat' apply And.intro) <;> first | omega | assumption)))))
    have hb1 := ch_bad1 (k0 + 1) (nfS k0) 0 9 (s.mem) (s.tch) 1
    have hrun4 := runM_any hms5 (by rw [chL_len]; omega) (ch_fields _) (ch_good _ (by omega)) (by rw [chFs_len]; omega) .full (nfS k0) 0 [1] 9 (by omega) (by intro x hx; simp at hx; subst hx; unfold R32; omega) _ hb1
    refine callM hrun4 ?_
    rintro v m6 ⟨rfl, hms6, hc6⟩
    simp -implicitDefEqProofs only [↓slp, slb, ↓reduceIte, reduceCtorEq, Nat.reduceEqDiff, Nat.reduceAdd, Nat.reduceMul, Nat.reduceLT, Nat.reduceLeDiff, Nat.reduceBEq, Nat.reduceBNe, Int.reduceLE, Int.reduceLT, Int.reduceToNat, Int.reduceEq, tfCeCh, runV, hz9]; try simp only [Ex.fold, Ex.foldcs, ← Va.pv.eq_1]
    (repeat (first | (refine aSeq (fun X hX => ?_)) | (refine aBlk ?_) | (refine aSkip ?_) | ((first | refine aReg ?_ | refine aDrw (fun m2 => m2 = _) (by kernel_rfl) rfl ?_); simp -implicitDefEqProofs only [forall_eq, ↓slp, slb, ↓reduceIte, reduceCtorEq, Nat.reduceEqDiff, Nat.reduceAdd, Nat.reduceMul, Nat.reduceLT, Nat.reduceLeDiff, Nat.reduceBEq, Nat.reduceBNe, Int.reduceLE, Int.reduceLT, Int.reduceToNat, Int.reduceEq, tfCeCh, Int.reduceBEq, e1]; try simp only [Ex.fold, Ex.foldcs, ← Va.pv.eq_1]) | (refine aIf ?_; simp -implicitDefEqProofs only [↓slp, slb, ↓reduceIte, reduceCtorEq, Nat.reduceEqDiff, Nat.reduceAdd, Nat.reduceMul, Nat.reduceLT, Nat.reduceLeDiff, Nat.reduceBEq, Nat.reduceBNe, Int.reduceLE, Int.reduceLT, Int.reduceToNat, Int.reduceEq, Int.reduceBEq, e1]) | (refine aExit ?_; simp only [slx, ↓reduceIte, Nat.reduceEqDiff, reduceCtorEq]) | (refine aRet ?_; try simp only [slx, ↓reduceIte, Nat.reduceEqDiff, reduceCtorEq]) | (refine hX _ _ ?_; clear hX X) | (clear hX X; refine hX _ _ ?_; clear hX X) | (clear hX X; clear hX X; refine hX _ _ ?_; clear hX X) | (intro hlen; unfold maxLen at hlen) | (apply And.intro; (focus (first | omega | assumption | (repeat' apply And.intro) <;> first | omega | assumption)))))
    simp only [aPost, Try.results4, aRes_n, aRes_t, aRes_c, pack_one, pack_two]
    exact leave_M0 rfl rfl
end Go.Proofs.Ytepjjgnkhcjpcaa
