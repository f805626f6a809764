/-
  The law LexLimits: eighty runs.
-/
import Derived.Test.YtijdhfjdnndkmaaDoorLxB
import Derived.Test.YtijdhfjdnndkmaaDoorAbEr
import Derived.Test.YtijdhfjdnndkmaaDoorAbKit
import Derived.Test.YtijdhfjdnndkmaaDoorAbEx
import Derived.Test.YtijdhfjdnndkmaaDoorAbInvB
set_option linter.unusedVariables false
set_option linter.unusedSimpArgs false
namespace Go.Proofs.YtijdhfjdnndkmaaDoor
open Go
set_option maxRecDepth 20000
-- TNAMES: int; uint8; string; bool
set_option linter.defProp false
def tfLxLim := And.intro @nk_1 (And.intro @td_2 (And.intro @zv_2 (And.intro @Tryd.underlying2 (And.intro @td_3 (And.intro @zv_3 (And.intro @Tryd.underlying3 (And.intro @td_4 (And.intro @zv_4 (And.intro @Tryd.underlying4 (And.intro @td_5 (And.intro @zv_5 (And.intro @Tryd.underlying5 (And.intro @td_6 (And.intro @zv_6 (And.intro @Tryd.underlying6 (And.intro @td_7 (And.intro @zv_7 (And.intro @tf_7 (And.intro @td_8 (And.intro @zv_8 (And.intro @tf_8 (And.intro @td_9 (And.intro @zv_9 (And.intro @Tryd.underlying9 (And.intro @td_10 (And.intro @zv_10 (And.intro @Tryd.underlying10 (And.intro @td_11 (And.intro @zv_11 (And.intro @Tryd.underlying11 (And.intro @td_12 (And.intro @zv_12 (And.intro @Tryd.underlying12 (And.intro @td_13 (And.intro @zv_13 (And.intro @tf_13 (And.intro @td_14 (And.intro @zv_14 (And.intro @tf_14 (And.intro @nk_15 (And.intro @td_15 (And.intro @zv_15 (And.intro @Tryd.underlying15 (And.intro @nk_16 (And.intro @td_16 (And.intro @zv_16 (And.intro @Tryd.underlying16 (And.intro @nk_17 (And.intro @td_17 (And.intro @zv_17 (And.intro @Tryd.underlying17 (And.intro @td_18 (And.intro @zv_18 (And.intro @tf_18 (And.intro @td_19 (And.intro @zv_19 (And.intro @tf_19 (And.intro @nk_20 (And.intro @td_20 (And.intro @zv_20 (And.intro @td_21 (And.intro @zv_21 (And.intro @Tryd.underlying21 (And.intro @td_22 (And.intro @zv_22 (And.intro @Tryd.underlying22 (And.intro @td_23 (And.intro @zv_23 (And.intro @Tryd.underlying23 (And.intro @td_24 (And.intro @zv_24 (And.intro @tel_24 (And.intro @Tryd.underlying24 (And.intro @td_25 (And.intro @zv_25 (And.intro @tel_25 (And.intro @Tryd.underlying25 (And.intro @nk_26 (And.intro @td_26 (And.intro @zv_26 (And.intro @nk_27 (And.intro @td_27 (And.intro @zv_27 (And.intro @nk_29 (And.intro @nk_30 (And.intro @td_31 (And.intro @zv_31 (And.intro @Tryd.underlying31 (And.intro @nk_32 (And.intro @td_33 (And.intro @zv_33 (And.intro @tf_33 (And.intro @fl_33 (And.intro @td_34 (And.intro @zv_34 (And.intro @tf_34 (And.intro @fl_34 (And.intro @td_35 (And.intro @zv_35 (And.intro @tf_35 (And.intro @td_36 (And.intro @zv_36 (And.intro @tf_36 (And.intro @nk_37 (And.intro @nk_38 (And.intro @nk_39 (And.intro @nk_40 (And.intro @nk_41 (And.intro @nk_42 (And.intro @nk_43 (And.intro @td_43 (And.intro @zv_43 (And.intro @Tryd.underlying43 (And.intro @td_44 (And.intro @zv_44 (And.intro @tf_44 (And.intro @td_45 (And.intro @zv_45 (And.intro @tf_45 (And.intro @nk_46 (And.intro @nk_47 (And.intro @nk_48 (And.intro @nk_49 (And.intro @td_49 (And.intro @zv_49 (And.intro @Tryd.underlying49 (And.intro @nk_50 (And.intro @nk_51 (And.intro @td_51 (And.intro @zv_51 (And.intro @Tryd.underlying51 (And.intro @td_52 (And.intro @zv_52 (And.intro @tf_52 (And.intro @td_53 (And.intro @zv_53 (And.intro @tf_53 (And.intro @nk_54 (And.intro @nk_55 (And.intro @td_55 (And.intro @zv_55 (And.intro @nk_56 (And.intro @td_56 (And.intro @zv_56 (And.intro @nk_57 (And.intro @nk_58 (And.intro @td_59 (And.intro @zv_59 (And.intro @td_60 (And.intro @zv_60 (And.intro @Tryd.underlying60 (And.intro @td_61 (And.intro @zv_61 (And.intro @tf_61 (And.intro @td_62 (And.intro @zv_62 (And.intro @tf_62 (And.intro @nk_63 (And.intro @nk_64 (And.intro @td_65 (And.intro @zv_65 (And.intro @Tryd.underlying65 (And.intro @nk_66 (And.intro @nk_67 (And.intro @nk_68 (And.intro @nk_69 (And.intro @nk_70 (And.intro @td_71 (And.intro @zv_71 (And.intro @tf_71 (And.intro @tel_71 (And.intro @ta_71 (And.intro @Tryd.underlying71 (And.intro @nk_72 (And.intro @td_73 (And.intro @zv_73 (And.intro @tf_73 (And.intro @td_74 (And.intro @zv_74 (And.intro @tf_74 (And.intro @nk_75 (And.intro @td_75 (And.intro @zv_75 (And.intro @Tryd.underlying75 (And.intro @nk_76 (And.intro @td_76 (And.intro @zv_76 (And.intro @nk_78 (And.intro @nk_79 (And.intro @td_79 (And.intro @zv_79 (And.intro @nk_80 (And.intro @nk_81 (And.intro @td_81 (And.intro @zv_81 (And.intro @td_82 (And.intro @zv_82 (And.intro @tel_82 (And.intro @Tryd.underlying82 (And.intro @nk_83 (And.intro @nk_84 (And.intro @nk_85 (And.intro @nk_86 (And.intro @td_86 (And.intro @zv_86 (And.intro @nk_88 (And.intro @nk_89 (And.intro @nk_90 (And.intro @td_91 (And.intro @zv_91 (And.intro @Tryd.underlying91 (And.intro @nk_93 (And.intro @nk_94 (And.intro @td_95 (And.intro @zv_95 (And.intro @tf_95 (And.intro @td_96 (And.intro @zv_96 (And.intro @tf_96 (And.intro @td_97 (And.intro @zv_97 (And.intro @tf_97 (And.intro @tel_97 (And.intro @ta_97 (And.intro @Tryd.underlying97 (And.intro @td_98 (And.intro @zv_98 (And.intro @tf_98 (And.intro @td_99 (And.intro @zv_99 (And.intro @tf_99 (And.intro @nk_100 (And.intro @nk_101 (And.intro @td_102 (And.intro @zv_102 (And.intro @Tryd.underlying102 (And.intro @nk_103 (And.intro @nk_104 (And.intro @td_104 (And.intro @zv_104 (And.intro @Tryd.underlying104 (And.intro @td_105 (And.intro @zv_105 (And.intro @Tryd.underlying105 (And.intro @td_106 (And.intro @zv_106 (And.intro @Tryd.underlying106 (And.intro @td_107 (And.intro @zv_107 (And.intro @tf_107 (And.intro @td_108 (And.intro @zv_108 (And.intro @tf_108 (And.intro @nk_109 (And.intro @nk_110 (And.intro @td_111 (And.intro @zv_111 (And.intro @tf_111 (And.intro @td_112 (And.intro @zv_112 (And.intro @tf_112 (And.intro @nk_113 (And.intro @td_113 (And.intro @zv_113 (And.intro @Tryd.underlying113 (And.intro @nk_114 (And.intro @td_115 (And.intro @zv_115 (And.intro @Tryd.underlying115 (And.intro @td_116 (And.intro @zv_116 (And.intro @tf_116 (And.intro @td_117 (And.intro @zv_117 (And.intro @tf_117 (And.intro @td_118 (And.intro @zv_118 (And.intro @tel_118 (And.intro @Tryd.underlying118 (And.intro @td_119 (And.intro @zv_119 (And.intro @Tryd.underlying119 (And.intro @td_120 (And.intro @zv_120 (And.intro @tf_120 (And.intro @td_121 (And.intro @zv_121 (And.intro @tf_121 (And.intro @nk_122 (And.intro @td_122 (And.intro @zv_122 (And.intro @Tryd.underlying122 (And.intro @Ex.settle_pv (And.intro @Ex.pure_pv (And.intro @Ex.cells_pv (And.intro @Ex.cs.eq_1 (And.intro @On.pv.eq_1 (And.intro @Ty.pv.eq_1 (And.intro @Va.settle_pv (And.intro @Va.pure_pv (And.intro @Va.cells_pv @Va.cs.eq_1)))))))))))))))))))))))))))))))))))))))))))))))))))))))))))))))))))))))))))))))))))))))))))))))))))))))))))))))))))))))))))))))))))))))))))))))))))))))))))))))))))))))))))))))))))))))))))))))))))))))))))))))))))))))))))))))))))))))))))))))))))))))))))))))))))))))))))))))))))))))))))))))))))))))))))))

/-- Slots that stay boxes. -/
def mus (g : Nat) : List Nat := match g with
  | 9 => [2, 3]
  | _ => []
def hook3 : CallR := lexHook (asHookK (asHook isHook2))
theorem hook3_ok : CallOk Tryd.prog hook3 := lexHook_ok (asHookK_ok (asHook_ok isHook2_ok))
theorem awake3 (m : M) : ACalls Tryd.prog 7 [] m (fun v m' => v = .v (.bool true) ∧ m' = m) := ACalls.ranD (mus := mus) (hook := hook3) (k := 300) ok_mix hook3_ok (by kernel_rfl) m ⟨rfl, rfl⟩

set_option maxHeartbeats 4000000 in
theorem limits_any (n : Int) (hn : 0 ≤ n ∧ n ≤ 255) (g : Bool) : ACalls Tryd.prog 4 [.v (.int .u8 n), .v (.bool g)] M0 (fun v m' => v = .v (.bool true)) := by
  obtain ⟨κ, hk, h0, h1⟩ : ∃ κ, (IntKind.i64.wrap n).tmod 40 = κ ∧ 0 ≤ κ ∧ κ < 40 := by
    refine ⟨_, rfl, ?_⟩
    rw [wrap64 (n := n) (by omega), Int.tmod_eq_emod_of_nonneg hn.1]
    omega
  have h40 : κ = 0 ∨ κ = 1 ∨ κ = 2 ∨ κ = 3 ∨ κ = 4 ∨ κ = 5 ∨ κ = 6 ∨ κ = 7 ∨ κ = 8 ∨ κ = 9 ∨ κ = 10 ∨ κ = 11 ∨ κ = 12 ∨ κ = 13 ∨ κ = 14 ∨ κ = 15 ∨ κ = 16 ∨ κ = 17 ∨ κ = 18 ∨ κ = 19 ∨ κ = 20 ∨ κ = 21 ∨ κ = 22 ∨ κ = 23 ∨ κ = 24 ∨ κ = 25 ∨ κ = 26 ∨ κ = 27 ∨ κ = 28 ∨ κ = 29 ∨ κ = 30 ∨ κ = 31 ∨ κ = 32 ∨ κ = 33 ∨ κ = 34 ∨ κ = 35 ∨ κ = 36 ∨ κ = 37 ∨ κ = 38 ∨ κ = 39 := by omega
  refine ACalls.enter (mu := []) ok_mix Tryd.func4 rfl (by kernel_rfl) (by kernel_rfl) (by simp only [List.length_cons, List.length_nil, Tryd.ntmps4]; omega) ?_
  refine aSeq (fun X hX => ?_)
  refine aReg ?_; simp -implicitDefEqProofs only [↓slp, slb, ↓reduceIte, reduceCtorEq, Nat.reduceEqDiff, Nat.reduceAdd, Nat.reduceMul, Nat.reduceLT, Nat.reduceLeDiff, Nat.reduceBEq, Nat.reduceBNe, Int.reduceLE, Int.reduceLT, Int.reduceToNat, Int.reduceEq, tfLxLim]
  refine hX _ _ ?_
  clear hX X
  refine aSeq (fun X hX => ?_)
  refine aReg ?_; simp -implicitDefEqProofs only [↓slp, slb, ↓reduceIte, reduceCtorEq, Nat.reduceEqDiff, Nat.reduceAdd, Nat.reduceMul, Nat.reduceLT, Nat.reduceLeDiff, Nat.reduceBEq, Nat.reduceBNe, Int.reduceLE, Int.reduceLT, Int.reduceToNat, Int.reduceEq, tfLxLim, hk]
  refine hX _ _ ?_
  clear hX X
  rw [args_fl]
  repeat rw [put_fl (by decide)]
  refine aTail (call := eCallD Tryd.prog mus hook3 300) (k := 300) (eCallD_sound ok_mix hook3_ok 300) ?_
  clear hk h0 h1
  rcases h40 with rfl | rfl | rfl | rfl | rfl | rfl | rfl | rfl | rfl | rfl | rfl | rfl | rfl | rfl | rfl | rfl | rfl | rfl | rfl | rfl | rfl | rfl | rfl | rfl | rfl | rfl | rfl | rfl | rfl | rfl | rfl | rfl | rfl | rfl | rfl | rfl | rfl | rfl | rfl | rfl <;> cases g
  all_goals (as_aux_lemma => kernel_rfl)
end Go.Proofs.YtijdhfjdnndkmaaDoor
