/-
  What law 20 makes its classes of: expressions, statements.
-/
import Derived.Test.YtmcajiccepgagaaObGen
import Derived.Test.YtmcajiccepgagaaAbMk8c
set_option linter.unusedVariables false
set_option linter.unusedSimpArgs false
namespace Go.Proofs.Ytmcajiccepgagaa
open Nat renaming reduceEqDiff → jA, reduceAdd → jB, reduceMul → jC, reduceLT → jD, reduceLeDiff → jE, reduceBEq → jF, reduceBNe → jG
open Int renaming reduceLE → jH, reduceLT → jI, reduceToNat → jJ, reduceEq → jK
open Go
set_option maxRecDepth 20000
-- TNAMES: int; uint8; int32; string; bool; []api.Expr; api.Expr; []string; obc.Stmt; []obc.Stmt; api.Type; obc.Mem; []obc.Mem; api.Var; []api.Var; obc.Class; []obc.Inst
set_option linter.defProp false
def tfObCn := And.intro @tfA (And.intro @Ex.settle_pv (And.intro @Ex.pure_pv (And.intro @Ex.cells_pv (And.intro @Ex.cs.eq_1 (And.intro @On.pv.eq_1 (And.intro @Ty.pv.eq_1 (And.intro @Va.settle_pv (And.intro @Va.pure_pv (And.intro @Va.cells_pv @Va.cs.eq_1)))))))))

theorem number_any (n : Int) (m : M) : ACalls Try.prog 8 [.v (.int .i32 n)] m (fun v m' => v = Ex.pv (.mk 1 0 n ⟨#[]⟩ [] [] 0 0) ∧ m' = m) := by
  refine ACalls.enter (mu := [2]) ok_mix Try.func8 rfl (by kernel_rfl) (by kernel_rfl) (by simp only [List.length_cons, List.length_nil, Try.ntmps8]; omega) ?_
  (repeat (first | refine aSeq fun X hX => ?_ | refine aBlk ?_ | refine aSkip ?_ | (first | refine aExit ?_ | refine aRet ?_); try simp only [slx, ↓reduceIte, Nat.reduceEqDiff, reduceCtorEq] | (first | refine aReg ?_ | refine aDrE ?_ | refine aIf ?_); simp -implicitDefEqProofs only [forall_eq, ↓slp, slb, ↓reduceIte, reduceCtorEq, jA, jB, jC, jD, jE, jF, jG, jH, jI, jJ, jK, tfObCn]; try simp only [Ex.fold, Ex.foldcs, ← Va.pv.eq_1] | refine hX _ _ ?_; clear hX X | clear hX X; refine hX _ _ ?_; clear hX X | clear hX X; clear hX X; refine hX _ _ ?_; clear hX X | intro hlen; unfold maxLen at hlen | apply And.intro; focus (first | omega | assumption | (repeat' apply And.intro) <;> first | omega | assumption)))
  simp only [aPost, Try.results8, aRes_n, aRes_t, aRes_c, pack_one, pack_two]
  simp -implicitDefEqProofs only [↓slp, slb, ↓reduceIte, reduceCtorEq, jA, jB, jC, jD, jE, jF, jG, jH, jI, jJ, jK, tfObCn]; try simp only [Ex.fold, Ex.foldcs, ← Va.pv.eq_1]
  exact leave_ext rfl ⟨rfl, rfl⟩
theorem name_any (s : Str) (m : M) : ACalls Try.prog 7 [.v (.string s)] m (fun v m' => v = Ex.pv (.mk 4 0 0 s [] [] 0 0) ∧ m' = m) := by
  refine ACalls.enter (mu := [2]) ok_mix Try.func7 rfl (by kernel_rfl) (by kernel_rfl) (by simp only [List.length_cons, List.length_nil, Try.ntmps7]; omega) ?_
  (repeat (first | refine aSeq fun X hX => ?_ | refine aBlk ?_ | refine aSkip ?_ | (first | refine aExit ?_ | refine aRet ?_); try simp only [slx, ↓reduceIte, Nat.reduceEqDiff, reduceCtorEq] | (first | refine aReg ?_ | refine aDrE ?_ | refine aIf ?_); simp -implicitDefEqProofs only [forall_eq, ↓slp, slb, ↓reduceIte, reduceCtorEq, jA, jB, jC, jD, jE, jF, jG, jH, jI, jJ, jK, tfObCn]; try simp only [Ex.fold, Ex.foldcs, ← Va.pv.eq_1] | refine hX _ _ ?_; clear hX X | clear hX X; refine hX _ _ ?_; clear hX X | clear hX X; clear hX X; refine hX _ _ ?_; clear hX X | intro hlen; unfold maxLen at hlen | apply And.intro; focus (first | omega | assumption | (repeat' apply And.intro) <;> first | omega | assumption)))
  simp only [aPost, Try.results7, aRes_n, aRes_t, aRes_c, pack_one, pack_two]
  simp -implicitDefEqProofs only [↓slp, slb, ↓reduceIte, reduceCtorEq, jA, jB, jC, jD, jE, jF, jG, jH, jI, jJ, jK, tfObCn]; try simp only [Ex.fold, Ex.foldcs, ← Va.pv.eq_1]
  exact leave_ext rfl ⟨rfl, rfl⟩
/-- A statement. -/
inductive OS where
  | mk (kind : Int) (name : Str) (e : Ex) (th el : List OS)
mutual
def OS.pv : OS → PV
  | .mk kind name e th el => .ag [.v (.int .u8 kind), .v (.string name), .v (.int .u8 e.kind), .v (.int .u8 e.op), .v (.int .i32 e.n), .v (.string e.name), .sl .no (e.names.map pS), .sl .no (e.kids.map Ex.pv), .v (.int .i64 e.line), .v (.int .i64 e.col), .sl .no (OS.pvs th), .sl .no (OS.pvs el), .sl .no [], .sl .no []]
def OS.pvs : List OS → List PV
  | [] => []
  | e :: l => e.pv :: OS.pvs l
end
theorem OS.pvs_eq (l : List OS) : OS.pvs l = l.map OS.pv := by
  induction l with
  | nil => rfl
  | cons e l ih => simp [OS.pvs, ih]
namespace OS
def kind : OS → Int | .mk k _ _ _ _ => k
def name : OS → Str | .mk _ k _ _ _ => k
def e : OS → Ex | .mk _ _ k _ _ => k
def th : OS → List OS | .mk _ _ _ k _ => k
def el : OS → List OS | .mk _ _ _ _ k => k
def cs (s : OS) : List PV := [.v (.int .u8 s.kind), .v (.string s.name), .v (.int .u8 s.e.kind), .v (.int .u8 s.e.op), .v (.int .i32 s.e.n), .v (.string s.e.name), .sl .no (s.e.names.map pS), .sl .no (s.e.kids.map Ex.pv), .v (.int .i64 s.e.line), .v (.int .i64 s.e.col), .sl .no (s.th.map OS.pv), .sl .no (s.el.map OS.pv), .sl .no [], .sl .no []]
theorem pv_eq (s : OS) : s.pv = .ag s.cs := by cases s; simp [OS.pv, cs, kind, name, e, th, el, OS.pvs_eq]
end OS
theorem OS.foldcs (s : OS) : [PV.v (.int .u8 s.kind), PV.v (.string s.name), PV.v (.int .u8 s.e.kind), PV.v (.int .u8 s.e.op), PV.v (.int .i32 s.e.n), PV.v (.string s.e.name), PV.sl .no (s.e.names.map pS), PV.sl .no (s.e.kids.map Ex.pv), PV.v (.int .i64 s.e.line), PV.v (.int .i64 s.e.col), PV.sl .no (s.th.map OS.pv), PV.sl .no (s.el.map OS.pv), PV.sl .no [], PV.sl .no []] = s.cs := rfl
theorem OS.fold (s : OS) : PV.ag s.cs = s.pv := s.pv_eq.symm
theorem OS.cells_pv (s : OS) : s.pv.cells = s.cs := by rw [s.pv_eq]; rfl
theorem OS.settle_pv (s : OS) : s.pv.settle = s.pv := by rw [s.pv_eq]; rfl
theorem OS.ok_pv (s : OS) : s.pv.ok = true := by rw [s.pv_eq]; rfl
theorem OS.pure_pv (s : OS) : s.pv.pure = true := by rw [s.pv_eq]; rfl
set_option maxHeartbeats 1000000 in
theorem let_any (s : Str) (e : Ex) (m : M) : ACalls Try.prog 25 [.v (.string s), e.pv] m (fun v m' => v = OS.pv (.mk 1 s e [] []) ∧ m' = m) := by
  refine ACalls.enter (mu := [4]) ok_mix Try.func25 rfl (by kernel_rfl) (by kernel_rfl) (by simp only [List.length_cons, List.length_nil, Try.ntmps25]; omega) ?_
  (repeat (first | refine aSeq fun X hX => ?_ | refine aBlk ?_ | refine aSkip ?_ | (first | refine aExit ?_ | refine aRet ?_); try simp only [slx, ↓reduceIte, Nat.reduceEqDiff, reduceCtorEq] | (first | refine aReg ?_ | refine aDrE ?_ | refine aIf ?_); simp -implicitDefEqProofs only [forall_eq, ↓slp, slb, ↓reduceIte, reduceCtorEq, jA, jB, jC, jD, jE, jF, jG, jH, jI, jJ, jK, tfObCn]; try simp only [Ex.fold, Ex.foldcs, ← Va.pv.eq_1] | refine hX _ _ ?_; clear hX X | clear hX X; refine hX _ _ ?_; clear hX X | clear hX X; clear hX X; refine hX _ _ ?_; clear hX X | intro hlen; unfold maxLen at hlen | apply And.intro; focus (first | omega | assumption | (repeat' apply And.intro) <;> first | omega | assumption)))
  simp only [aPost, Try.results25, aRes_n, aRes_t, aRes_c, pack_one, pack_two]
  simp -implicitDefEqProofs only [↓slp, slb, ↓reduceIte, reduceCtorEq, jA, jB, jC, jD, jE, jF, jG, jH, jI, jJ, jK, tfObCn]; try simp only [Ex.fold, Ex.foldcs, ← Va.pv.eq_1]
  exact leave_ext rfl ⟨rfl, rfl⟩
/-- A kept variable's cells; a variable; the class of law 20. -/
abbrev sC : Str := ⟨#[99]⟩
abbrev sM : Str := ⟨#[109]⟩
abbrev sA : Str := ⟨#[97]⟩
abbrev sX : Str := ⟨#[120]⟩
abbrev sZ : Str := ⟨#[]⟩
def exN (n : Int) : Ex := .mk 1 0 n sZ [] [] 0 0
def exV (s : Str) : Ex := .mk 4 0 0 s [] [] 0 0
def exL (s : Str) : Ex := .mk 5 0 0 s [] [] 0 0
def pMem (n : Int) : PV := .ag [pS sM, .v (.int .u8 2), pS sZ, .v (.int .u8 1), .v (.int .u8 0), .v (.int .i32 n), .v (.string sZ), .sl .no [], .sl .no [], .v (.int .i64 0), .v (.int .i64 0)]
def vaI (s : Str) : Va := ⟨s, ⟨2, sZ⟩, [], false, .mk 0 0 0 sZ [] [] 0 0, 0, 0⟩
def stepsC : List OS := [.mk 1 sX (exL sM) [] [], .mk 2 sM (.mk 7 3 0 sZ [] [exV sX, exV sA] 0 0) [] []]
def pCls (n : Int) : PV := .ag [pS sC, .sl .no [pMem n], .sl .no [], .sl .no [(vaI sA).pv], .sl .no [(vaI sX).pv], .sl .no [], .sl .no (stepsC.map OS.pv)]
/-- The states that hold some boxes ahead of others. -/
def isE (m : M) (bs : List (Option (List PV))) (m2 : M) : Prop := ∃ r, m2 = m.ext (bs ++ r)
theorem isE_all {m : M} {bs : List (Option (List PV))} {Q : M → Prop} : (∀ m2, isE m bs m2 → Q m2) = ∀ r, Q (m.ext (bs ++ r)) := by
  refine propext ⟨fun h r => h _ ⟨r, rfl⟩, fun h m2 ⟨r, e⟩ => e ▸ h r⟩
theorem isE_0 {m : M} {bs : List (Option (List PV))} : isE m bs (m.ext bs) := ⟨[], by simp⟩
theorem isE_1 {m : M} {bs : List (Option (List PV))} {c : Option (List PV)} : isE m bs (m.ext (bs ++ [c])) := ⟨[c], rfl⟩
set_option maxHeartbeats 4000000 in
theorem counter_any (n : Int) (m : M) : ACalls Try.prog 10 [.v (.int .i32 n)] m (fun v m' => v = pCls n ∧ m' = m) := by
  refine ACalls.enter (mu := [2, 3, 4, 5]) ok_mix Try.func10 rfl (by kernel_rfl) (by kernel_rfl) (by simp only [List.length_cons, List.length_nil, Try.ntmps10]; omega) ?_
  (repeat (first | refine aSeq fun X hX => ?_ | refine aBlk ?_ | refine aSkip ?_ | (first | refine aExit ?_ | refine aRet ?_); try simp only [slx, ↓reduceIte, Nat.reduceEqDiff, reduceCtorEq] | (first | refine aReg ?_ | refine aIf ?_); simp -implicitDefEqProofs only [forall_eq, ↓slp, slb, ↓reduceIte, reduceCtorEq, jA, jB, jC, jD, jE, jF, jG, jH, jI, jJ, jK, tfObCn]; try simp only [Ex.fold, Ex.foldcs, ← Va.pv.eq_1] | refine hX _ _ ?_; clear hX X | clear hX X; refine hX _ _ ?_; clear hX X | clear hX X; clear hX X; refine hX _ _ ?_; clear hX X | intro hlen; unfold maxLen at hlen | apply And.intro; focus (first | omega | assumption | (repeat' apply And.intro) <;> first | omega | assumption)))
  have join : ∀ f : F, f 0 = .v (.int .i32 n) → f 2 = .bp m.nb 0 → f 4 = .bp (m.nb + 2) 0 → X f (m.ext [some [PV.v (Value.string { data := #[] }), PV.sl Own.full [], PV.sl Own.full [], PV.sl Own.full [], PV.sl Own.full [], PV.sl Own.full [], PV.sl Own.full []], some [PV.v (Value.int IntKind.u8 2), PV.v (Value.string { data := #[] })], some [PV.v (.string sC), PV.sl .full [pMem n], PV.sl .full [], PV.sl .full [(vaI sA).pv], PV.sl .full [(vaI sX).pv], PV.sl .full [], PV.sl .full []]]) := by
    intro f h0 h2 h4
    refine hX _ _ ?_
    clear hX X
    (repeat (first | refine aSeq fun X hX => ?_ | refine aBlk ?_ | refine aSkip ?_ | (first | refine aExit ?_ | refine aRet ?_); try simp only [slx, ↓reduceIte, Nat.reduceEqDiff, reduceCtorEq] | (first | refine aReg ?_ | refine aIf ?_); simp -implicitDefEqProofs only [forall_eq, ↓slp, slb, ↓reduceIte, reduceCtorEq, jA, jB, jC, jD, jE, jF, jG, jH, jI, jJ, jK, tfObCn, h0, h2, h4]; try simp only [Ex.fold, Ex.foldcs, ← Va.pv.eq_1] | refine hX _ _ ?_; clear hX X | clear hX X; refine hX _ _ ?_; clear hX X | clear hX X; clear hX X; refine hX _ _ ?_; clear hX X | intro hlen; unfold maxLen at hlen | apply And.intro; focus (first | omega | assumption | (repeat' apply And.intro) <;> first | omega | assumption)))
    refine callE (name_any _ _) ?_
    simp -implicitDefEqProofs only [↓slp, slb, ↓reduceIte, reduceCtorEq, jA, jB, jC, jD, jE, jF, jG, jH, jI, jJ, jK, tfObCn, h0, h2, h4]; try simp only [Ex.fold, Ex.foldcs, ← Va.pv.eq_1]
    refine callE (name_any _ _) ?_
    simp -implicitDefEqProofs only [↓slp, slb, ↓reduceIte, reduceCtorEq, jA, jB, jC, jD, jE, jF, jG, jH, jI, jJ, jK, tfObCn, h0, h2, h4]; try simp only [Ex.fold, Ex.foldcs, ← Va.pv.eq_1]
    (repeat (first | refine aSeq fun X hX => ?_ | refine aBlk ?_ | refine aSkip ?_ | (first | refine aExit ?_ | refine aRet ?_); try simp only [slx, ↓reduceIte, Nat.reduceEqDiff, reduceCtorEq] | (first | refine aReg ?_ | refine aIf ?_); simp -implicitDefEqProofs only [forall_eq, ↓slp, slb, ↓reduceIte, reduceCtorEq, jA, jB, jC, jD, jE, jF, jG, jH, jI, jJ, jK, tfObCn, h0, h2, h4]; try simp only [Ex.fold, Ex.foldcs, ← Va.pv.eq_1] | refine hX _ _ ?_; clear hX X | clear hX X; refine hX _ _ ?_; clear hX X | clear hX X; clear hX X; refine hX _ _ ?_; clear hX X | intro hlen; unfold maxLen at hlen | apply And.intro; focus (first | omega | assumption | (repeat' apply And.intro) <;> first | omega | assumption)))
    refine aDrwE (fun m2 => m2 = _) (hne := List.cons_ne_nil _ _) rfl (by kernel_rfl) (by kernel_rfl) rfl ?_
    simp -implicitDefEqProofs only [↓slp, slb, ↓reduceIte, reduceCtorEq, jA, jB, jC, jD, jE, jF, jG, jH, jI, jJ, jK, tfObCn, h0, h2, h4, List.getLast_cons_cons, List.getLast_singleton, List.dropLast_cons_cons, List.dropLast_singleton]; try simp only [Ex.fold, Ex.foldcs, ← Va.pv.eq_1]
    refine callMS (let_any sX (exL sM) _) rfl ?_
    rintro v m' ⟨rfl, rfl⟩
    refine ⟨rfl, ?_⟩
    simp -implicitDefEqProofs only [↓slp, slb, ↓reduceIte, reduceCtorEq, jA, jB, jC, jD, jE, jF, jG, jH, jI, jJ, jK, tfObCn, h0, h2, h4]; try simp only [Ex.fold, Ex.foldcs, ← Va.pv.eq_1]
    refine ⟨⟨rfl, rfl⟩, ?_⟩
    refine hX _ _ ?_
    clear hX X
    (repeat (first | refine aSeq fun X hX => ?_ | refine aBlk ?_ | refine aSkip ?_ | (first | refine aExit ?_ | refine aRet ?_); try simp only [slx, ↓reduceIte, Nat.reduceEqDiff, reduceCtorEq] | (first | refine aReg ?_ | refine aDrE ?_); simp -implicitDefEqProofs only [forall_eq, ↓slp, slb, ↓reduceIte, reduceCtorEq, jA, jB, jC, jD, jE, jF, jG, jH, jI, jJ, jK, tfObCn, h0, h2, h4]; try simp only [Ex.fold, Ex.foldcs, ← Va.pv.eq_1] | refine hX _ _ ?_; clear hX X | clear hX X; refine hX _ _ ?_; clear hX X | clear hX X; clear hX X; refine hX _ _ ?_; clear hX X | intro hlen; unfold maxLen at hlen | apply And.intro; focus (first | omega | assumption | (repeat' apply And.intro) <;> first | omega | assumption)))
    simp only [aPost, Try.results10, aRes_n, aRes_t, aRes_c, pack_one, pack_two]
    simp -implicitDefEqProofs only [↓slp, slb, ↓reduceIte, reduceCtorEq, jA, jB, jC, jD, jE, jF, jG, jH, jI, jJ, jK, tfObCn, h0, h2, h4]; try simp only [Ex.fold, Ex.foldcs, ← Va.pv.eq_1]
    exact leave_ext rfl ⟨rfl, rfl⟩
  clear hX
  refine aFltN 12 (isE m [some [PV.v (Value.string { data := #[] }), PV.sl Own.full [], PV.sl Own.full [], PV.sl Own.full [], PV.sl Own.full [], PV.sl Own.full [], PV.sl Own.full []], some [PV.v (Value.int IntKind.u8 2), PV.v (Value.string { data := #[] })]]) (by simp only [List.length_cons, List.length_nil]; omega) (by kernel_rfl) isE_0 ?_
  simp -implicitDefEqProofs only [↓slp, slb, ↓reduceIte, reduceCtorEq, jA, jB, jC, jD, jE, jF, jG, jH, jI, jJ, jK, tfObCn, isE_all, List.getElem_cons_succ, List.getElem_cons_zero, List.getLast_cons_cons, List.getLast_singleton, List.dropLast_cons_cons, List.dropLast_singleton]; try simp only [Ex.fold, Ex.foldcs, ← Va.pv.eq_1]
  refine ⟨?_, ?_⟩
  · refine ⟨⟨_, rfl⟩, ?_⟩
    refine callE (number_any _ _) ?_
    refine ⟨⟨_, rfl⟩, ?_⟩
    simp -implicitDefEqProofs only [↓slp, slb, ↓reduceIte, reduceCtorEq, jA, jB, jC, jD, jE, jF, jG, jH, jI, jJ, jK, tfObCn, isE_all]; try simp only [Ex.fold, Ex.foldcs, ← Va.pv.eq_1]
    exact ⟨⟨_, rfl⟩, join _ rfl rfl rfl⟩
  · refine callE (number_any _ _) ?_
    refine ⟨isE_0, ?_⟩
    simp -implicitDefEqProofs only [↓slp, slb, ↓reduceIte, reduceCtorEq, jA, jB, jC, jD, jE, jF, jG, jH, jI, jJ, jK, tfObCn, isE_all]; try simp only [Ex.fold, Ex.foldcs, ← Va.pv.eq_1]
    exact ⟨⟨_, rfl⟩, ⟨_, rfl⟩, join _ rfl rfl rfl⟩
end Go.Proofs.Ytmcajiccepgagaa
