/-
  Layer 7: the document's example, run; which slots stay boxes.
-/
import Derived.Test.YteiaedmipkcfeaaDoorRnA
import Derived.Test.YteiaedmipkcfeaaDoorAbIs
import Derived.Test.YteiaedmipkcfeaaDoorAsA
import Derived.Test.YteiaedmipkcfeaaDoorSlcX
import Derived.Test.YteiaedmipkcfeaaDoorNmI
import Derived.Test.YteiaedmipkcfeaaDoorNvA
import Derived.Test.YteiaedmipkcfeaaDoorAbT
set_option linter.unusedVariables false
set_option linter.unusedSimpArgs false
namespace Go.Proofs.YteiaedmipkcfeaaDoor
open Nat renaming reduceEqDiff → jA, reduceAdd → jB, reduceMul → jC, reduceLT → jD, reduceLeDiff → jE, reduceBEq → jF, reduceBNe → jG
open Int renaming reduceLE → jH, reduceLT → jI, reduceToNat → jJ, reduceEq → jK
open Go
-- EXX: bt_nb
set_option maxRecDepth 20000
-- TNAMES: int; uint8; int32; string; bool; []string; []api.Expr; api.Expr; api.Pos; api.Type; api.On; []api.On; api.Var; []api.Var; api.Program; names.looker; names.scope; *names.looker; []api.Enum; api.Enum
set_option linter.defProp false
def tfNmAw := And.intro @tfA (And.intro @Ex.settle_pv (And.intro @Ex.pure_pv (And.intro @Ex.cells_pv (And.intro @Ex.cs.eq_1 (And.intro @On.pv.eq_1 (And.intro @Ty.pv.eq_1 (And.intro @Va.settle_pv (And.intro @Va.pure_pv (And.intro @Va.cells_pv (And.intro @Va.cs.eq_1 @bt_nb))))))))))
set_option maxHeartbeats 4000000 in
/-- The first variable, of no enumeration, without a last value. -/
theorem varP_any (lk : PV) (nm tn es : Str) (k a b : Int) (dt : (k == 3) = false) (m : M) :
    ACalls Tryd.prog 46 [lk, .ag [.sl .full [], .sl .full []], .ag [.v (.string nm), .v (.int .u8 k), .v (.string tn), .sl .no [], .v (.bool false), .v (.int .u8 0), .v (.int .u8 0), .v (.int .i32 0), .v (.string es), .sl .no [], .sl .no [], .v (.int .i64 0), .v (.int .i64 0), .v (.int .i64 a), .v (.int .i64 b)]] m (fun x m' => x = .ag [.sl (.tok (m.nt + 1)) [.ag [.v (.string nm), .v (.int .u8 k), .v (.string tn), .sl .no [], .v (.bool false), .v (.int .u8 0), .v (.int .u8 0), .v (.int .i32 0), .v (.string es), .sl .no [], .sl .no [], .v (.int .i64 0), .v (.int .i64 0), .v (.int .i64 a), .v (.int .i64 b)]], .sl .full []] ∧ m' = ((Own.tok m.nt).use (m.fresh 15)).fresh 15) := by
  have hfv := fun (m : M) => findVar_any .full [] nm m
  obtain ⟨d, hd, hd1, hd2⟩ : ∃ d : TD, tdat Tryd.prog 67 = some d ∧ d.sz = 15 ∧ d.by_ ≤ 400 := ⟨(tdat Tryd.prog 67).get (by kernel_rfl), (Option.some_get _).symm, by kernel_rfl, of_decide_eq_true (by kernel_rfl)⟩
  have hcl := fun m => clone_73 .full [] m d hd (fun x hx => by cases hx) (by simp) (by simp)
  rw [hd1] at hcl
  have cneg : decide ((-1 : Int) ≥ 0) = false := rfl
  have h0 : findVar [] nm = -1 := rfl
  rw [h0] at hfv
  have t1 : Toks m (m.fresh 15) := (Toks.refl m).use (o := .full) (s := 15) (s' := 15) .full
  have m1 : Mine m (m.fresh 15) (.tok m.nt) 15 := Mine.new (o := .full) (Toks.refl m) 15
  have hal := m1.free
  have t2 := t1.use (s := 15) m1
  have hlt : (m.fresh 15).nt < (((Own.tok m.nt).use (m.fresh 15)).fresh 15).nt := by simp [M.fresh, M.nt, Own.use, M.kill]
  have hnt : (m.fresh 15).nt = m.nt + 1 := by simp [M.fresh, M.nt]
  have hmx : (0 : Nat) + 1 ≤ maxLen := by unfold maxLen; omega
  refine ACalls.enter (mu := [4, 6]) ok_mix Tryd.func46 rfl (by kernel_rfl) (by kernel_rfl) (by simp only [List.length_cons, List.length_nil, Tryd.ntmps46]; omega) ?_
  (repeat (first | refine aSeq fun X hX => ?_ | refine aBlk ?_ | refine aSkip ?_ | (first | refine aExit ?_ | refine aRet ?_); try simp only [slx, ↓reduceIte, Nat.reduceEqDiff, reduceCtorEq] | (first | refine aReg ?_ | refine aIf ?_); simp -implicitDefEqProofs only [forall_eq, ↓slp, slb, ↓reduceIte, reduceCtorEq, jA, jB, jC, jD, jE, jF, jG, jH, jI, jJ, jK, tfNmAw]; try simp only [Ex.fold, Ex.foldcs, ← Va.pv.eq_1] | refine hX _ _ ?_; clear hX X | clear hX X; refine hX _ _ ?_; clear hX X | clear hX X; clear hX X; refine hX _ _ ?_; clear hX X | intro hlen; unfold maxLen at hlen | apply And.intro; focus (first | omega | assumption | (repeat' apply And.intro) <;> first | omega | assumption)))
  refine callE (hfv _) ?_
  simp -implicitDefEqProofs only [↓slp, slb, ↓reduceIte, reduceCtorEq, jA, jB, jC, jD, jE, jF, jG, jH, jI, jJ, jK, tfNmAw, pI, cneg]; try simp only [Ex.fold, Ex.foldcs, ← Va.pv.eq_1]
  (repeat (first | refine aSeq fun X hX => ?_ | refine aBlk ?_ | refine aSkip ?_ | (first | refine aExit ?_ | refine aRet ?_); try simp only [slx, ↓reduceIte, Nat.reduceEqDiff, reduceCtorEq] | (first | refine aReg ?_ | refine aIf ?_); simp -implicitDefEqProofs only [forall_eq, ↓slp, slb, ↓reduceIte, reduceCtorEq, jA, jB, jC, jD, jE, jF, jG, jH, jI, jJ, jK, tfNmAw, cneg]; try simp only [Ex.fold, Ex.foldcs, ← Va.pv.eq_1] | refine hX _ _ ?_; clear hX X | clear hX X; refine hX _ _ ?_; clear hX X | clear hX X; clear hX X; refine hX _ _ ?_; clear hX X | intro hlen; unfold maxLen at hlen | apply And.intro; focus (first | omega | assumption | (repeat' apply And.intro) <;> first | omega | assumption)))
  refine aDrw (fun _ => True) (by kernel_rfl) trivial ?_; simp -implicitDefEqProofs only [forall_eq, eq_self, ↓slp, slb, ↓reduceIte, reduceCtorEq, jA, jB, jC, jD, jE, jF, jG, jH, jI, jJ, jK, tfNmAw, dt]; try simp only [Ex.fold, Ex.foldcs, ← Va.pv.eq_1]
  (repeat (first | refine aSeq fun X hX => ?_ | refine aBlk ?_ | refine aSkip ?_ | (first | refine aExit ?_ | refine aRet ?_); try simp only [slx, ↓reduceIte, Nat.reduceEqDiff, reduceCtorEq] | (first | refine aReg ?_ | refine aIf ?_); simp -implicitDefEqProofs only [forall_eq, ↓slp, slb, ↓reduceIte, reduceCtorEq, jA, jB, jC, jD, jE, jF, jG, jH, jI, jJ, jK, tfNmAw, dt]; try simp only [Ex.fold, Ex.foldcs, ← Va.pv.eq_1] | refine hX _ _ ?_; clear hX X | clear hX X; refine hX _ _ ?_; clear hX X | clear hX X; clear hX X; refine hX _ _ ?_; clear hX X | intro hlen; unfold maxLen at hlen | apply And.intro; focus (first | omega | assumption | (repeat' apply And.intro) <;> first | omega | assumption)))
  refine aDrwE (isB m [some [PV.sl .full [], PV.sl .full []], some [PV.sl .full [], PV.sl .full []]]) (hne := List.cons_ne_nil _ _) rfl (by kernel_rfl) (by kernel_rfl) ⟨m.toks, rfl⟩ ?_
  simp -implicitDefEqProofs only [↓slp, slb, ↓reduceIte, reduceCtorEq, jA, jB, jC, jD, jE, jF, jG, jH, jI, jJ, jK, tfNmAw, isB_all, bt_nb, forall_const, List.dropLast_cons_cons, List.dropLast_singleton, List.getLast_cons_cons, List.getLast_singleton, List.set_cons_succ, List.set_cons_zero, List.getElem?_cons_succ, List.getElem?_cons_zero]; try simp only [Ex.fold, Ex.foldcs, ← Va.pv.eq_1]
  refine callM (hcl _) ?_
  rintro w mw ⟨rfl, rfl⟩
  refine ⟨⟨m.toks ++ [some 15], rfl⟩, ?_⟩
  simp -implicitDefEqProofs only [↓slp, slb, ↓reduceIte, reduceCtorEq, jA, jB, jC, jD, jE, jF, jG, jH, jI, jJ, jK, tfNmAw, isB_all, bt_nb, forall_const, List.dropLast_cons_cons, List.dropLast_singleton, List.getLast_cons_cons, List.getLast_singleton, List.set_cons_succ, List.set_cons_zero, List.getElem?_cons_succ, List.getElem?_cons_zero]; try simp only [Ex.fold, Ex.foldcs, ← Va.pv.eq_1]
  refine ⟨⟨hal, hmx⟩, ⟨_, rfl⟩, ?_⟩
  (repeat (first | refine aSeq fun X hX => ?_ | refine aBlk ?_ | refine aSkip ?_ | (first | refine aExit ?_ | refine aRet ?_); try simp only [slx, ↓reduceIte, Nat.reduceEqDiff, reduceCtorEq] | (first | refine aReg ?_ | refine aIf ?_); simp -implicitDefEqProofs only [forall_eq, ↓slp, slb, ↓reduceIte, reduceCtorEq, jA, jB, jC, jD, jE, jF, jG, jH, jI, jJ, jK, tfNmAw, List.set_cons_succ, List.set_cons_zero]; try simp only [Ex.fold, Ex.foldcs, ← Va.pv.eq_1] | refine hX _ _ ?_; clear hX X | clear hX X; refine hX _ _ ?_; clear hX X | clear hX X; clear hX X; refine hX _ _ ?_; clear hX X | intro hlen; unfold maxLen at hlen | apply And.intro; focus (first | omega | assumption | (repeat' apply And.intro) <;> first | omega | assumption)))
  simp only [aPost, Tryd.results46, aRes_n, aRes_t, aRes_c, pack_one, pack_two]
  simp -implicitDefEqProofs only [↓slp, slb, ↓reduceIte, reduceCtorEq, jA, jB, jC, jD, jE, jF, jG, jH, jI, jJ, jK, tfNmAw, List.set_cons_succ, List.set_cons_zero]; try simp only [Ex.fold, Ex.foldcs, ← Va.pv.eq_1]
  exact leave_tok2 t2 (within2 hlt (.inr rfl)) ⟨by rw [hnt], rfl⟩
/-- Slots that stay boxes. -/
def mus (g : Nat) : List Nat := match g with
  | 4 => [7, 11, 15]
  | 5 => [5, 9]
  | 6 => [5]
  | 7 => [1, 2]
  | 8 => [1, 2, 5, 7, 9, 13]
  | 9 => [2, 4, 10, 30]
  | 10 => [1, 2, 4, 6, 8, 10]
  | 11 => [1, 3, 14]
  | 13 => [2, 3]
  | 14 => [4, 5, 8]
  | 16 => [2]
  | 17 => [2]
  | 18 => [1, 3, 6]
  | 19 => [1]
  | 21 => [2]
  | 22 => [4]
  | 23 => [2, 3]
  | 24 => [3]
  | 25 => [3, 4, 6, 8, 11]
  | 28 => [4, 5, 6]
  | 29 => [2]
  | 30 => [7]
  | 31 => [3, 4, 5, 7, 12]
  | 32 => [5]
  | 33 => [2]
  | 34 => [3]
  | 36 => [5]
  | 37 => [1, 5, 7]
  | 38 => [3]
  | 41 => [3]
  | 43 => [2]
  | 46 => [4, 5, 6]
  | 47 => [5, 6, 10, 12, 14, 17, 24]
  | 50 => [0]
  | 51 => [0]
  | 52 => [0]
  | 53 => [3, 4]
  | 54 => [5, 8, 9, 12, 14]
  | 55 => [3, 4]
  | 56 => [7]
  | 57 => [5]
  | 58 => [9, 19]
  | 64 => [6]
  | 69 => [2]
  | 71 => [3]
  | 72 => [4, 5, 7]
  | 76 => [4, 5, 8]
  | 78 => [2]
  | 80 => [5, 10]
  | 81 => [2, 4]
  | 83 => [5]
  | 85 => [7, 14]
  | 90 => [2]
  | 91 => [3]
  | 92 => [3, 4, 5, 10]
  | 93 => [5, 8, 9]
  | 94 => [5, 8, 9, 13]
  | 95 => [6, 7, 10, 11, 12, 13, 14, 15, 16, 17]
  | 96 => [5, 10, 11, 12]
  | 97 => [5, 10, 11, 12, 13, 14, 15, 16]
  | 99 => [2]
  | 101 => [2]
  | 102 => [5, 6, 9]
  | 103 => [4]
  | 105 => [4]
  | 106 => [5, 6]
  | 107 => [6, 7, 8]
  | 108 => [5, 10]
  | 109 => [6, 7, 10, 13, 15, 16]
  | 111 => [2]
  | _ => []
def varHook (next : CallR) : CallR := fun g args m => if g = 46 then (match args with
    | [lk, .ag [.sl .full [], .sl .full []], .ag [.v (.string nm), .v (.int .u8 k), .v (.string tn), .sl .no [], .v (.bool false), .v (.int .u8 0), .v (.int .u8 0), .v (.int .i32 0), .v (.string es), .sl .no [], .sl .no [], .v (.int .i64 0), .v (.int .i64 0), .v (.int .i64 a), .v (.int .i64 b)]] => if (k == 3) = false then some (.val (.ag [.sl (.tok (m.nt + 1)) [.ag [.v (.string nm), .v (.int .u8 k), .v (.string tn), .sl .no [], .v (.bool false), .v (.int .u8 0), .v (.int .u8 0), .v (.int .i32 0), .v (.string es), .sl .no [], .sl .no [], .v (.int .i64 0), .v (.int .i64 0), .v (.int .i64 a), .v (.int .i64 b)]], .sl .full []]) (((Own.tok m.nt).use (m.fresh 15)).fresh 15)) else none
    | _ => none) else next g args m
theorem varHook_ok {next : CallR} (hn : CallOk Tryd.prog next) : CallOk Tryd.prog (varHook next) := by
  intro g args m r h
  unfold varHook at h
  split at h
  · rename_i hg
    subst hg
    split at h
    · split at h
      · rename_i hk
        cases h
        exact varP_any _ _ _ _ _ _ _ hk m
      · cases h
    · cases h
  · exact hn _ _ _ _ h
def hook7 (P : Program) : CallR := slcHook P (varHook (asHook isHook))
theorem hook7_ok : CallOk Tryd.prog (hook7 Tryd.prog) := slcHook_ok (varHook_ok (asHook_ok isHook_ok))
theorem awake_run (m : M) : ACalls Tryd.prog 7 [] m (fun v m' => v = .v (.bool true) ∧ m' = m) := ACalls.ranD (mus := mus) (hook := hook7 Tryd.prog) (k := 300) ok_mix hook7_ok (by kernel_rfl) m ⟨rfl, rfl⟩
end Go.Proofs.YteiaedmipkcfeaaDoor
