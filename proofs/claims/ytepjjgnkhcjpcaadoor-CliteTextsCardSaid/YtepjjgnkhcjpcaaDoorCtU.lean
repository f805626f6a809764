/-
  The law's tidy, walked.
-/
import Derived.Test.YtepjjgnkhcjpcaaDoorCtT
import Derived.Test.YtepjjgnkhcjpcaaDoorCtMk
set_option linter.unusedVariables false
set_option linter.unusedSimpArgs false
namespace Go.Proofs.YtepjjgnkhcjpcaaDoor
open Nat renaming reduceEqDiff → jA, reduceAdd → jB, reduceMul → jC, reduceLT → jD, reduceLeDiff → jE, reduceBEq → jF, reduceBNe → jG
open Int renaming reduceLE → jH, reduceLT → jI, reduceToNat → jJ, reduceEq → jK
open Go
-- EXX: CE.settle_pv, CE.pure_pv, CE.cells_pv, CE.cs
set_option maxRecDepth 20000
-- TNAMES: int; uint8; int32; string; bool; []clite.Expr; clite.Expr; []int
set_option linter.defProp false
def tfCtU := And.intro @tfA (And.intro @Ex.settle_pv (And.intro @Ex.pure_pv (And.intro @Ex.cells_pv (And.intro @Ex.cs.eq_1 (And.intro @On.pv.eq_1 (And.intro @Ty.pv.eq_1 (And.intro @Va.settle_pv (And.intro @Va.pure_pv (And.intro @Va.cells_pv (And.intro @Va.cs.eq_1 (And.intro @CE.settle_pv (And.intro @CE.pure_pv (And.intro @CE.cells_pv @CE.cs.eq_1)))))))))))))

def isB (m : M) (bs : List (Option (List PV))) (m2 : M) : Prop := ∃ ts, m2 = (⟨m.boxes, ts⟩ : M).ext bs
theorem isB_all {m : M} {bs : List (Option (List PV))} {Q : M → Prop} : (∀ m2, isB m bs m2 → Q m2) = ∀ ts, Q ((⟨m.boxes, ts⟩ : M).ext bs) :=
  propext ⟨fun h ts => h _ ⟨ts, rfl⟩, fun h m2 ⟨ts, e⟩ => e ▸ h ts⟩
theorem bt_nb {m : M} {ts : List (Option Nat)} : (⟨m.boxes, ts⟩ : M).nb = m.nb := rfl
abbrev zCE : List PV := [.v (.int .u8 0), .v (.int .u8 0), .v (.int .i32 0), .v (.string ⟨#[]⟩), .sl .full []]
/-- An expression without what means nothing for its kind. -/
structure Tdy (e : CE) : Prop where
  n : e.kind ≠ 1 → e.n = 0
  nm : e.kind ≠ 2 → e.kind ≠ 3 → e.name = eS
  op : e.kind ≠ 4 → e.kind ≠ 5 → e.op = 0
theorem ces_len (l : List CE) : ∀ x ∈ l.map CE.pv, x.cells.length = 5 := fun x hx => by
  obtain ⟨a, _, rfl⟩ := List.mem_map.1 hx
  rw [CE.cells_pv]; rfl
set_option maxHeartbeats 8000000 in
theorem tidy_step (e : CE) (ht : Tdy e) (hk6 : e.kind = 1 ∨ e.kind = 2 ∨ e.kind = 3 ∨ e.kind = 4 ∨ e.kind = 5 ∨ e.kind = 6) (hkl : e.kids.length ≤ 3) (ih : ∀ j (h : j < e.kids.length) (m : M), ACalls Tryd.prog 8 [e.kids[j].pv] m (fun v m' => v = e.kids[j].pv ∧ m' = m)) (m : M) : ACalls Tryd.prog 8 [e.pv] m (fun v m' => v = e.pv ∧ m' = m) := by
  obtain ⟨t1, t2, t3⟩ := ht
  refine ACalls.enter (mu := [2, 3]) ok_mix Tryd.func8 rfl (by kernel_rfl) (by kernel_rfl) (by simp only [List.length_cons, List.length_nil, Tryd.ntmps8]; omega) ?_
  (repeat (first | refine aSeq fun X hX => ?_ | refine aBlk ?_ | refine aSkip ?_ | (first | refine aExit ?_ | refine aRet ?_); try simp only [slx, ↓reduceIte, Nat.reduceEqDiff, reduceCtorEq] | (first | refine aReg ?_ | refine aIf ?_); simp -implicitDefEqProofs only [forall_eq, ↓slp, slb, ↓reduceIte, reduceCtorEq, jA, jB, jC, jD, jE, jF, jG, jH, jI, jJ, jK, tfCtU]; try simp only [Ex.fold, Ex.foldcs, ← Va.pv.eq_1] | refine hX _ _ ?_; clear hX X | clear hX X; refine hX _ _ ?_; clear hX X | clear hX X; clear hX X; refine hX _ _ ?_; clear hX X | intro hlen; unfold maxLen at hlen | apply And.intro; focus (first | omega | assumption | (repeat' apply And.intro) <;> first | omega | assumption)))
  have join : ∀ (f : F) (kd op n : Int) (nm : Str), kd = e.kind → op = e.op → n = e.n → nm = e.name → f 1 = .ep [.v (.int .u8 e.kind), .v (.int .u8 e.op), .v (.int .i32 e.n), .v (.string e.name), .sl .no (e.kids.map CE.pv)] → f 2 = .bp m.nb 0 → f 3 = .bp (m.nb + 1) 0 → X f (m.ext [some zCE, some [.v (.int .u8 kd), .v (.int .u8 op), .v (.int .i32 n), .v (.string nm), .sl .full []]]) := by
    rintro f kd op n nm rfl rfl rfl rfl f1 f2 f3
    refine hX _ _ ?_
    clear hX X
    (repeat (first | refine aSeq fun X hX => ?_ | refine aBlk ?_ | refine aSkip ?_ | (first | refine aExit ?_ | refine aRet ?_); try simp only [slx, ↓reduceIte, Nat.reduceEqDiff, reduceCtorEq] | (first | refine aReg ?_ | refine aIf ?_); simp -implicitDefEqProofs only [forall_eq, ↓slp, slb, ↓reduceIte, reduceCtorEq, jA, jB, jC, jD, jE, jF, jG, jH, jI, jJ, jK, tfCtU]; try simp only [Ex.fold, Ex.foldcs, ← Va.pv.eq_1] | refine hX _ _ ?_; clear hX X | clear hX X; refine hX _ _ ?_; clear hX X | clear hX X; clear hX X; refine hX _ _ ?_; clear hX X | intro hlen; unfold maxLen at hlen | apply And.intro; focus (first | omega | assumption | (repeat' apply And.intro) <;> first | omega | assumption)))
    obtain ⟨I, hI⟩ : ∃ I : F → M → Prop, ∀ f m', I f m' = (∃ (j : Nat) (o : Own) (mm : M), j ≤ e.kids.length ∧ f 1 = .ep [.v (.int .u8 e.kind), .v (.int .u8 e.op), .v (.int .i32 e.n), .v (.string e.name), .sl .no (e.kids.map CE.pv)] ∧ f 2 = .bp m.nb 0 ∧ f 3 = .bp (m.nb + 1) 0 ∧ f 4 = pI j ∧ Toks m mm ∧ Mine m mm o 5 ∧ m' = mm.ext [some zCE, some [.v (.int .u8 e.kind), .v (.int .u8 e.op), .v (.int .i32 e.n), .v (.string e.name), .sl o ((e.kids.take j).map CE.pv)]]) := ⟨_, fun _ _ => rfl⟩
    refine aLoop I (fun f m => e.kids.length - numOf (f 4)) ?_ ?_
    · rw [hI]; exact ⟨0, .full, m, by omega, f1, f2, f3, rfl, .refl _, .full, rfl⟩
    clear f1 f2 f3
    intro f m' hrel
    rw [hI] at hrel
    obtain ⟨j, o, mm, hj, f1, f2, f3, f4, htk, hmi, rfl⟩ := hrel
    have hnb := htk.nb
    cases c4 : decide ((j : Int) < (e.kids.length : Int)) with
    | false =>
      obtain rfl : j = e.kids.length := by simp at c4; omega
      rw [List.take_length]
      (repeat (first | refine aSeq fun X hX => ?_ | refine aBlk ?_ | refine aSkip ?_ | (first | refine aExit ?_ | refine aRet ?_); try simp only [slx, ↓reduceIte, Nat.reduceEqDiff, reduceCtorEq] | (first | refine aReg ?_ | refine aIf ?_); simp -implicitDefEqProofs only [forall_eq, ↓slp, slb, ↓reduceIte, reduceCtorEq, jA, jB, jC, jD, jE, jF, jG, jH, jI, jJ, jK, tfCtU, f1, f2, f3, f4, pI, c4, hnb, List.set_cons_succ, List.cons_append, List.getElem?_cons_succ, List.set_cons_zero]; try simp only [Ex.fold, Ex.foldcs, ← Va.pv.eq_1] | refine hX _ _ ?_; clear hX X | clear hX X; refine hX _ _ ?_; clear hX X | clear hX X; clear hX X; refine hX _ _ ?_; clear hX X | intro hlen; unfold maxLen at hlen | apply And.intro; focus (first | omega | assumption | (repeat' apply And.intro) <;> first | omega | assumption)))
      simp only [aPost, Tryd.results8, aRes_n, aRes_t, aRes_c, pack_one, pack_two]
      simp -implicitDefEqProofs only [↓slp, slb, ↓reduceIte, reduceCtorEq, jA, jB, jC, jD, jE, jF, jG, jH, jI, jJ, jK, tfCtU, f1, f2, f3, f4, hnb, List.set_cons_succ, List.cons_append, List.getElem?_cons_succ, List.set_cons_zero]; try simp only [Ex.fold, Ex.foldcs, ← Va.pv.eq_1]
      exact leave_toks htk rfl ⟨(CE.pv_eq e).symm, rfl⟩
    | true =>
      have hlt : j < e.kids.length := by simpa using c4
      have g0 := getD_map CE.pv e.kids j hlt
      have hi : IntKind.i64.wrap ((j : Int) + 1) = ((j + 1 : Nat) : Int) := by rw [wrap64 (by omega)]; omega
      have hme : numOf (f 4) = j := by rw [f4]; exact Int.toNat_natCast j
      have hc := ih j hlt
      have hfr := hmi.free
      have h5 := ces_len (e.kids.take j)
      have hmx : (e.kids.take j).length + 1 ≤ maxLen := by rw [List.length_take]; unfold maxLen; omega
      have hml : (e.kids.take j).length ≤ 3 := by rw [List.length_take]; omega
      have hnx : (e.kids.take (j + 1)).map CE.pv = (e.kids.take j).map CE.pv ++ [e.kids[j].pv] := by rw [List.take_succ_eq_append_getElem hlt, List.map_append]; rfl
      generalize e.kids.take j = Kj at *
      generalize e.kids[j] = a at *
      rw [CE.pv_eq] at hc
      unfold CE.cs at hc
      (repeat (first | refine aSeq fun X hX => ?_ | refine aBlk ?_ | refine aSkip ?_ | (first | refine aExit ?_ | refine aRet ?_); try simp only [slx, ↓reduceIte, Nat.reduceEqDiff, reduceCtorEq] | (first | refine aReg ?_ | refine aIf ?_); simp -implicitDefEqProofs only [forall_eq, ↓slp, slb, ↓reduceIte, reduceCtorEq, jA, jB, jC, jD, jE, jF, jG, jH, jI, jJ, jK, tfCtU, f1, f2, f3, f4, pI, c4, g0, hlt, hnb, List.set_cons_succ, List.cons_append, List.getElem?_cons_succ, List.set_cons_zero]; try simp only [Ex.fold, Ex.foldcs, ← Va.pv.eq_1] | refine hX _ _ ?_; clear hX X | clear hX X; refine hX _ _ ?_; clear hX X | clear hX X; clear hX X; refine hX _ _ ?_; clear hX X | intro hlen; unfold maxLen at hlen | apply And.intro; focus (first | omega | assumption | (repeat' apply And.intro) <;> first | omega | assumption)))
      refine aDrwE (isB mm [some zCE, some [.v (.int .u8 e.kind), .v (.int .u8 e.op), .v (.int .i32 e.n), .v (.string e.name), .sl o (Kj.map CE.pv)]]) (hne := List.cons_ne_nil _ _) rfl (by kernel_rfl) (by kernel_rfl) ⟨mm.toks, rfl⟩ ?_
      simp -implicitDefEqProofs only [↓slp, slb, ↓reduceIte, reduceCtorEq, jA, jB, jC, jD, jE, jF, jG, jH, jI, jJ, jK, tfCtU, f1, f2, f3, f4, pI, c4, g0, hlt, hnb, isB_all, bt_nb, forall_const, List.dropLast_cons_cons, List.dropLast_singleton, List.getLast_cons_cons, List.getLast_singleton, List.set_cons_succ, List.cons_append, List.getElem?_cons_succ, List.set_cons_zero]; try simp only [Ex.fold, Ex.foldcs, ← Va.pv.eq_1]
      refine callM (hc _) ?_
      rintro v mc ⟨rfl, rfl⟩
      simp -implicitDefEqProofs only [↓slp, slb, ↓reduceIte, reduceCtorEq, jA, jB, jC, jD, jE, jF, jG, jH, jI, jJ, jK, tfCtU, f1, f2, f3, f4, pI, c4, g0, hlt, hnb, isB_all, bt_nb, forall_const, List.dropLast_cons_cons, List.dropLast_singleton, List.getLast_cons_cons, List.getLast_singleton, List.set_cons_succ, List.cons_append, List.getElem?_cons_succ, List.set_cons_zero]; try simp only [Ex.fold, Ex.foldcs, ← Va.pv.eq_1]
      refine ⟨⟨mm.toks, rfl⟩, ⟨hfr, h5, hmx, by omega⟩, ⟨((o.use mm).fresh 5).toks, by cases o <;> rfl⟩, ?_⟩
      (repeat (first | refine aSeq fun X hX => ?_ | refine aBlk ?_ | refine aSkip ?_ | (first | refine aExit ?_ | refine aRet ?_); try simp only [slx, ↓reduceIte, Nat.reduceEqDiff, reduceCtorEq] | (first | refine aReg ?_ | refine aIf ?_); simp -implicitDefEqProofs only [forall_eq, ↓slp, slb, ↓reduceIte, reduceCtorEq, jA, jB, jC, jD, jE, jF, jG, jH, jI, jJ, jK, tfCtU, f4, pI, hi]; try simp only [Ex.fold, Ex.foldcs, ← Va.pv.eq_1] | refine hX _ _ ?_; clear hX X | clear hX X; refine hX _ _ ?_; clear hX X | clear hX X; clear hX X; refine hX _ _ ?_; clear hX X | intro hlen; unfold maxLen at hlen | apply And.intro; focus (first | omega | assumption | (repeat' apply And.intro) <;> first | omega | assumption)))
      rw [hI]
      exact ⟨⟨j + 1, .tok mm.nt, (o.use mm).fresh 5, hlt, f1, f2, f3, rfl, htk.use hmi, Mine.new htk o 5, by rw [hnx, CE.pv_eq]; rfl⟩, by omega⟩
  rcases hk6 with hk | hk | hk | hk | hk | hk
  all_goals
    rw [hk] at t1 t2 t3
    clear hX
    simp -implicitDefEqProofs only [↓slp, slb, ↓reduceIte, reduceCtorEq, jA, jB, jC, jD, jE, jF, jG, jH, jI, jJ, jK, tfCtU, hk, Int.reduceBEq]; try simp only [Ex.fold, Ex.foldcs, ← Va.pv.eq_1]
    (repeat (first | refine aSeq fun X hX => ?_ | refine aBlk ?_ | refine aSkip ?_ | (first | refine aExit ?_ | refine aRet ?_); try simp only [slx, ↓reduceIte, Nat.reduceEqDiff, reduceCtorEq] | (first | refine aReg ?_ | refine aIf ?_); simp -implicitDefEqProofs only [forall_eq, ↓slp, slb, ↓reduceIte, reduceCtorEq, jA, jB, jC, jD, jE, jF, jG, jH, jI, jJ, jK, tfCtU, hk, Int.reduceBEq, List.set_cons_succ, List.cons_append, List.getElem?_cons_succ, List.set_cons_zero]; try simp only [Ex.fold, Ex.foldcs, ← Va.pv.eq_1] | refine hX _ _ ?_; clear hX X | clear hX X; refine hX _ _ ?_; clear hX X | clear hX X; clear hX X; refine hX _ _ ?_; clear hX X | intro hlen; unfold maxLen at hlen | apply And.intro; focus (first | omega | assumption | (repeat' apply And.intro) <;> first | omega | assumption)))
    try simp only [aBlock_n, aThen_n]
    refine join _ _ _ _ _ hk.symm ?_ ?_ ?_ (by rw [hk]; rfl) rfl rfl
    · first | rfl | exact (t3 (by decide) (by decide)).symm
    · first | rfl | exact (t1 (by decide)).symm
    · first | rfl | exact (t2 (by decide) (by decide)).symm
end Go.Proofs.YtepjjgnkhcjpcaaDoor
