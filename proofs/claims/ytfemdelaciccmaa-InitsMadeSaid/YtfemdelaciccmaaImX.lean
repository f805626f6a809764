/-
  Texts that belong together: ImK, ImL.
-/
import Derived.Test.YtfemdelaciccmaaAbKit
import Derived.Test.YtfemdelaciccmaaImZ
import Derived.Test.YtfemdelaciccmaaSlcI
import Derived.Test.YtfemdelaciccmaaLvA
import Derived.Test.YtfemdelaciccmaaInAw
import Derived.Test.YtfemdelaciccmaaAbTail
/-
  inits.Check of a program that is right.
-/
set_option linter.unusedVariables false
set_option linter.unusedSimpArgs false
namespace Go.Proofs.Ytfemdelaciccmaa
open Nat renaming reduceEqDiff → jA, reduceAdd → jB, reduceMul → jC, reduceLT → jD, reduceLeDiff → jE, reduceBEq → jF, reduceBNe → jG
open Int renaming reduceLE → jH, reduceLT → jI, reduceToNat → jJ, reduceEq → jK
open Go
-- EXX: Qu.settle_pv, Qu.pure_pv, Qu.cells_pv, Qu.cs, No.settle_pv, No.pure_pv, No.cells_pv, No.cs, No.pv.eq_1
set_option maxRecDepth 20000
-- TNAMES: int; uint8; int32; string; bool; []string; []api.Expr; api.Expr; api.Pos; api.Type; api.On; []api.On; api.Var; []api.Var; api.Equation; []api.Equation; api.Block; api.Node; []api.Node; api.Program; []api.Enum; error; [][]api.Var
set_option linter.defProp false
def tfImK := And.intro @tfA (And.intro @Ex.settle_pv (And.intro @Ex.pure_pv (And.intro @Ex.cells_pv (And.intro @Ex.cs.eq_1 (And.intro @On.pv.eq_1 (And.intro @Ty.pv.eq_1 (And.intro @Va.settle_pv (And.intro @Va.pure_pv (And.intro @Va.cells_pv (And.intro @Va.cs.eq_1 (And.intro @Qu.settle_pv (And.intro @Qu.pure_pv (And.intro @Qu.cells_pv (And.intro @Qu.cs.eq_1 (And.intro @No.settle_pv (And.intro @No.pure_pv (And.intro @No.cells_pv (And.intro @No.cs.eq_1 @No.pv.eq_1))))))))))))))))))

def pLV (l : List Va) : PV := .sl .no (l.map Va.pv)
theorem lists_lenV {α : Type} (l : List (List α)) (k : Nat) : (l.take k).flatten.length ≤ l.flatten.length := by
  conv => rhs; rw [← List.take_append_drop k l, List.flatten_append, List.length_append]
  omega
set_option maxHeartbeats 2000000 in
theorem concatV_any (o : Own) (ls : List (List Va)) (m : M) (hb : ls.flatten.length < 2 ^ 30) : ACalls Try.prog 15 [.sl o (ls.map pLV)] m (fun v m' => v = .sl .no (ls.flatten.map Va.pv) ∧ m' = m) := by
  obtain ⟨d, hd, hd1, hd2⟩ : ∃ d : TD, tdat Try.prog 51 = some d ∧ d.sz = 15 ∧ d.by_ ≤ 400 := ⟨(tdat Try.prog 51).get (by kernel_rfl), (Option.some_get _).symm, by kernel_rfl, of_decide_eq_true (by kernel_rfl)⟩
  refine ACalls.enter (mu := []) ok_mix Try.func15 rfl (by kernel_rfl) (by kernel_rfl) (by simp only [List.length_cons, List.length_nil, Try.ntmps15]; omega) ?_
  (repeat (first | refine aSeq fun X hX => ?_ | refine aBlk ?_ | refine aSkip ?_ | (first | refine aExit ?_ | refine aRet ?_); try simp only [slx, ↓reduceIte, Nat.reduceEqDiff, reduceCtorEq] | (first | refine aReg ?_ | refine aDrE ?_); simp -implicitDefEqProofs only [forall_eq, ↓slp, slb, ↓reduceIte, reduceCtorEq, jA, jB, jC, jD, jE, jF, jG, jH, jI, jJ, jK, tfImK]; try simp only [Ex.fold, Ex.foldcs, ← Va.pv.eq_1] | refine hX _ _ ?_; clear hX X | clear hX X; refine hX _ _ ?_; clear hX X | clear hX X; clear hX X; refine hX _ _ ?_; clear hX X | intro hlen; unfold maxLen at hlen | apply And.intro; focus (first | omega | assumption | (repeat' apply And.intro) <;> first | omega | assumption)))
  obtain ⟨I, hI⟩ : ∃ I : F → M → Prop, ∀ f m', I f m' = (∃ k : Nat, k ≤ ls.length ∧ f 0 = .sl o (ls.map pLV) ∧ f 3 = pI (ls.take k).flatten.length ∧ f 9 = .sl o (ls.map pLV) ∧ f 10 = pI ls.length ∧ f 11 = pI k ∧ m = m') := ⟨_, fun _ _ => rfl⟩
  refine aLoop I (fun f m => ls.length - numOf (f 11)) ?_ ?_
  · rw [hI]; exact ⟨0, by omega, rfl, rfl, rfl, rfl, rfl, rfl⟩
  intro f m' hrel
  rw [hI] at hrel
  obtain ⟨k, hk, h0, h3, h9, h10, h11, rfl⟩ := hrel
  cases c1 : decide ((k : Int) < (ls.length : Int)) with
  | true =>
    have hlt : k < ls.length := by simpa using c1
    have hg := getD_map pLV ls k hlt
    have hi : IntKind.i64.wrap ((k : Int) + 1) = ((k + 1 : Nat) : Int) := by rw [wrap64 (by omega)]; omega
    have hme : numOf (f 11) = k := by rw [h11]; exact Int.toNat_natCast k
    have hst : (ls.take (k + 1)).flatten.length = (ls.take k).flatten.length + ls[k].length := by rw [List.take_succ_eq_append_getElem hlt, List.flatten_append, List.length_append]; simp
    have hl2 := lists_lenV ls (k + 1)
    have hw : IntKind.i64.wrap (((ls.take k).flatten.length : Int) + (ls[k].length : Int)) = (((ls.take (k + 1)).flatten.length : Nat) : Int) := by rw [wrap64 (by omega), hst]; omega
    have c2 : decide ((((ls.take (k + 1)).flatten.length : Nat) : Int) < 0) = false := by simp
    (repeat (first | refine aSeq fun X hX => ?_ | refine aBlk ?_ | refine aSkip ?_ | (first | refine aExit ?_ | refine aRet ?_); try simp only [slx, ↓reduceIte, Nat.reduceEqDiff, reduceCtorEq] | (first | refine aReg ?_ | refine aDrE ?_); simp -implicitDefEqProofs only [forall_eq, ↓slp, slb, ↓reduceIte, reduceCtorEq, jA, jB, jC, jD, jE, jF, jG, jH, jI, jJ, jK, tfImK, h0, h3, h9, h10, h11, pI, c1]; try simp only [Ex.fold, Ex.foldcs, ← Va.pv.eq_1] | refine hX _ _ ?_; clear hX X | clear hX X; refine hX _ _ ?_; clear hX X | clear hX X; clear hX X; refine hX _ _ ?_; clear hX X | intro hlen; unfold maxLen at hlen | apply And.intro; focus (first | omega | assumption | (repeat' apply And.intro) <;> first | omega | assumption)))
    refine aIf ?_; simp -implicitDefEqProofs only [↓slp, slb, ↓reduceIte, reduceCtorEq, jA, jB, jC, jD, jE, jF, jG, jH, jI, jJ, jK]
    (repeat (first | refine aSeq fun X hX => ?_ | refine aBlk ?_ | refine aSkip ?_ | (first | refine aExit ?_ | refine aRet ?_); try simp only [slx, ↓reduceIte, Nat.reduceEqDiff, reduceCtorEq] | (first | refine aReg ?_ | refine aDrE ?_); simp -implicitDefEqProofs only [forall_eq, ↓slp, slb, ↓reduceIte, reduceCtorEq, jA, jB, jC, jD, jE, jF, jG, jH, jI, jJ, jK, tfImK, h0, h3, h9, h10, h11, pI, hg, pLV, hw, c2]; try simp only [Ex.fold, Ex.foldcs, ← Va.pv.eq_1] | refine hX _ _ ?_; clear hX X | clear hX X; refine hX _ _ ?_; clear hX X | clear hX X; clear hX X; refine hX _ _ ?_; clear hX X | intro hlen; unfold maxLen at hlen | apply And.intro; focus (first | omega | assumption | (repeat' apply And.intro) <;> first | omega | assumption)))
    refine aIf ?_; simp -implicitDefEqProofs only [↓slp, slb, ↓reduceIte, reduceCtorEq, jA, jB, jC, jD, jE, jF, jG, jH, jI, jJ, jK]
    (repeat (first | refine aSeq fun X hX => ?_ | refine aBlk ?_ | refine aSkip ?_ | (first | refine aExit ?_ | refine aRet ?_); try simp only [slx, ↓reduceIte, Nat.reduceEqDiff, reduceCtorEq] | (first | refine aReg ?_ | refine aDrE ?_); simp -implicitDefEqProofs only [forall_eq, ↓slp, slb, ↓reduceIte, reduceCtorEq, jA, jB, jC, jD, jE, jF, jG, jH, jI, jJ, jK, tfImK, h11, pI, hi]; try simp only [Ex.fold, Ex.foldcs, ← Va.pv.eq_1] | refine hX _ _ ?_; clear hX X | clear hX X; refine hX _ _ ?_; clear hX X | clear hX X; clear hX X; refine hX _ _ ?_; clear hX X | intro hlen; unfold maxLen at hlen | apply And.intro; focus (first | omega | assumption | (repeat' apply And.intro) <;> first | omega | assumption)))
    rw [hI]
    exact ⟨⟨k + 1, hlt, h0, rfl, h9, h10, rfl, rfl⟩, by omega⟩
  | false =>
  obtain rfl : k = ls.length := by simp at c1; omega
  rw [List.take_length] at h3
  have hgr := grow_24 ls.flatten.length m d hd (by omega) (by omega) (by have := Nat.mul_le_mul (Nat.le_of_lt hb) hd2; omega)
  rw [hd1] at hgr
  (repeat (first | refine aSeq fun X hX => ?_ | refine aBlk ?_ | refine aSkip ?_ | (first | refine aExit ?_ | refine aRet ?_); try simp only [slx, ↓reduceIte, Nat.reduceEqDiff, reduceCtorEq] | (first | refine aReg ?_ | refine aDrE ?_); simp -implicitDefEqProofs only [forall_eq, ↓slp, slb, ↓reduceIte, reduceCtorEq, jA, jB, jC, jD, jE, jF, jG, jH, jI, jJ, jK, tfImK, h0, h3, h9, h10, h11, pI, c1]; try simp only [Ex.fold, Ex.foldcs, ← Va.pv.eq_1] | refine hX _ _ ?_; clear hX X | clear hX X; refine hX _ _ ?_; clear hX X | clear hX X; clear hX X; refine hX _ _ ?_; clear hX X | intro hlen; unfold maxLen at hlen | apply And.intro; focus (first | omega | assumption | (repeat' apply And.intro) <;> first | omega | assumption)))
  refine aIf ?_; simp -implicitDefEqProofs only [↓slp, slb, ↓reduceIte, reduceCtorEq, jA, jB, jC, jD, jE, jF, jG, jH, jI, jJ, jK]
  (repeat (first | refine aSeq fun X hX => ?_ | refine aBlk ?_ | refine aSkip ?_ | (first | refine aExit ?_ | refine aRet ?_); try simp only [slx, ↓reduceIte, Nat.reduceEqDiff, reduceCtorEq] | (first | refine aReg ?_ | refine aDrE ?_); simp -implicitDefEqProofs only [forall_eq, ↓slp, slb, ↓reduceIte, reduceCtorEq, jA, jB, jC, jD, jE, jF, jG, jH, jI, jJ, jK, tfImK, h0, h3, pI]; try simp only [Ex.fold, Ex.foldcs, ← Va.pv.eq_1] | refine hX _ _ ?_; clear hX X | clear hX X; refine hX _ _ ?_; clear hX X | clear hX X; clear hX X; refine hX _ _ ?_; clear hX X | intro hlen; unfold maxLen at hlen | apply And.intro; focus (first | omega | assumption | (repeat' apply And.intro) <;> first | omega | assumption)))
  refine callM hgr ?_
  rintro v m' ⟨rfl, rfl⟩
  simp -implicitDefEqProofs only [↓slp, slb, ↓reduceIte, reduceCtorEq, jA, jB, jC, jD, jE, jF, jG, jH, jI, jJ, jK, tfImK, h0]; try simp only [Ex.fold, Ex.foldcs, ← Va.pv.eq_1]
  (repeat (first | refine aSeq fun X hX => ?_ | refine aBlk ?_ | refine aSkip ?_ | (first | refine aExit ?_ | refine aRet ?_); try simp only [slx, ↓reduceIte, Nat.reduceEqDiff, reduceCtorEq] | (first | refine aReg ?_ | refine aDrE ?_); simp -implicitDefEqProofs only [forall_eq, ↓slp, slb, ↓reduceIte, reduceCtorEq, jA, jB, jC, jD, jE, jF, jG, jH, jI, jJ, jK, tfImK, h0]; try simp only [Ex.fold, Ex.foldcs, ← Va.pv.eq_1] | refine hX _ _ ?_; clear hX X | clear hX X; refine hX _ _ ?_; clear hX X | clear hX X; clear hX X; refine hX _ _ ?_; clear hX X | intro hlen; unfold maxLen at hlen | apply And.intro; focus (first | omega | assumption | (repeat' apply And.intro) <;> first | omega | assumption)))
  clear I hI h3 h9 h10 h11
  obtain ⟨I, hI⟩ : ∃ I : F → M → Prop, ∀ f m', I f m' = (∃ (k : Nat) (o2 : Own), k ≤ ls.length ∧ f 6 = .sl o2 ((ls.take k).flatten.map Va.pv) ∧ f 25 = .sl o (ls.map pLV) ∧ f 26 = pI ls.length ∧ f 27 = pI k ∧ Toks m m' ∧ Mine m m' o2 15) := ⟨_, fun _ _ => rfl⟩
  refine aLoop I (fun f m => ls.length - numOf (f 27)) ?_ ?_
  · rw [hI]; exact ⟨0, .tok m.nt, by omega, rfl, rfl, rfl, rfl, (Toks.refl m).use (o := .full) (s := 15) (s' := 15) Mine.full, Mine.new (o := .full) (Toks.refl m) 15⟩
  intro f m' hrel
  rw [hI] at hrel
  obtain ⟨k, o2, hk, h6, h25, h26, h27, ht, hm⟩ := hrel
  cases c1 : decide ((k : Int) < (ls.length : Int)) with
  | true =>
    have hlt : k < ls.length := by simpa using c1
    have hg := getD_map pLV ls k hlt
    have hi : IntKind.i64.wrap ((k : Int) + 1) = ((k + 1 : Nat) : Int) := by rw [wrap64 (by omega)]; omega
    have hme : numOf (f 27) = k := by rw [h27]; exact Int.toNat_natCast k
    have hst : (ls.take (k + 1)).flatten = (ls.take k).flatten ++ ls[k] := by rw [List.take_succ_eq_append_getElem hlt, List.flatten_append]; simp
    have hl2 := lists_lenV ls (k + 1)
    have hl3 : (ls.take (k + 1)).flatten.length = (ls.take k).flatten.length + ls[k].length := by rw [hst, List.length_append]
    have hfree := hm.free
    have q1 : (ls.take k).flatten.length + ls[k].length ≤ maxLen := by unfold maxLen; omega
    have q3 := va_len (ls.take k).flatten
    have q4 := va_len ls[k]
    (repeat (first | refine aSeq fun X hX => ?_ | refine aBlk ?_ | refine aSkip ?_ | (first | refine aExit ?_ | refine aRet ?_); try simp only [slx, ↓reduceIte, Nat.reduceEqDiff, reduceCtorEq] | (first | refine aReg ?_ | refine aDrE ?_); simp -implicitDefEqProofs only [forall_eq, ↓slp, slb, ↓reduceIte, reduceCtorEq, jA, jB, jC, jD, jE, jF, jG, jH, jI, jJ, jK, tfImK, h6, h25, h26, h27, pI, c1]; try simp only [Ex.fold, Ex.foldcs, ← Va.pv.eq_1] | refine hX _ _ ?_; clear hX X | clear hX X; refine hX _ _ ?_; clear hX X | clear hX X; clear hX X; refine hX _ _ ?_; clear hX X | intro hlen; unfold maxLen at hlen | apply And.intro; focus (first | omega | assumption | (repeat' apply And.intro) <;> first | omega | assumption)))
    refine aIf ?_; simp -implicitDefEqProofs only [↓slp, slb, ↓reduceIte, reduceCtorEq, jA, jB, jC, jD, jE, jF, jG, jH, jI, jJ, jK]
    (repeat (first | refine aSeq fun X hX => ?_ | refine aBlk ?_ | refine aSkip ?_ | (first | refine aExit ?_ | refine aRet ?_); try simp only [slx, ↓reduceIte, Nat.reduceEqDiff, reduceCtorEq] | (first | refine aReg ?_ | refine aDrE ?_); simp -implicitDefEqProofs only [forall_eq, ↓slp, slb, ↓reduceIte, reduceCtorEq, jA, jB, jC, jD, jE, jF, jG, jH, jI, jJ, jK, tfImK, h6, h25, h26, h27, pI, hg, pLV, hi]; try simp only [Ex.fold, Ex.foldcs, ← Va.pv.eq_1] | refine hX _ _ ?_; clear hX X | clear hX X; refine hX _ _ ?_; clear hX X | clear hX X; clear hX X; refine hX _ _ ?_; clear hX X | intro hlen; unfold maxLen at hlen | apply And.intro; focus (first | omega | assumption | (repeat' apply And.intro) <;> first | omega | assumption)))
    rw [hI]
    exact ⟨⟨k + 1, .tok m'.nt, hlt, by rw [hst, List.map_append]; rfl, h25, h26, rfl, ht.use hm, Mine.new ht o2 15⟩, by omega⟩
  | false =>
    obtain rfl : k = ls.length := by simp at c1; omega
    rw [List.take_length] at h6
    (repeat (first | refine aSeq fun X hX => ?_ | refine aBlk ?_ | refine aSkip ?_ | (first | refine aExit ?_ | refine aRet ?_); try simp only [slx, ↓reduceIte, Nat.reduceEqDiff, reduceCtorEq] | (first | refine aReg ?_ | refine aDrE ?_); simp -implicitDefEqProofs only [forall_eq, ↓slp, slb, ↓reduceIte, reduceCtorEq, jA, jB, jC, jD, jE, jF, jG, jH, jI, jJ, jK, tfImK, h6, h25, h26, h27, pI, c1]; try simp only [Ex.fold, Ex.foldcs, ← Va.pv.eq_1] | refine hX _ _ ?_; clear hX X | clear hX X; refine hX _ _ ?_; clear hX X | clear hX X; clear hX X; refine hX _ _ ?_; clear hX X | intro hlen; unfold maxLen at hlen | apply And.intro; focus (first | omega | assumption | (repeat' apply And.intro) <;> first | omega | assumption)))
    refine aIf ?_; simp -implicitDefEqProofs only [↓slp, slb, ↓reduceIte, reduceCtorEq, jA, jB, jC, jD, jE, jF, jG, jH, jI, jJ, jK]
    (repeat (first | refine aSeq fun X hX => ?_ | refine aBlk ?_ | refine aSkip ?_ | (first | refine aExit ?_ | refine aRet ?_); try simp only [slx, ↓reduceIte, Nat.reduceEqDiff, reduceCtorEq] | (first | refine aReg ?_ | refine aDrE ?_); simp -implicitDefEqProofs only [forall_eq, ↓slp, slb, ↓reduceIte, reduceCtorEq, jA, jB, jC, jD, jE, jF, jG, jH, jI, jJ, jK, tfImK, h6]; try simp only [Ex.fold, Ex.foldcs, ← Va.pv.eq_1] | refine hX _ _ ?_; clear hX X | clear hX X; refine hX _ _ ?_; clear hX X | clear hX X; clear hX X; refine hX _ _ ?_; clear hX X | intro hlen; unfold maxLen at hlen | apply And.intro; focus (first | omega | assumption | (repeat' apply And.intro) <;> first | omega | assumption)))
    simp only [aPost, Try.results15, aRes_n, aRes_t, aRes_c, pack_one, pack_two]
    exact leave_toks0 ht rfl ⟨rfl, rfl⟩
theorem DRet.mono {P : Program} {h : FuncId} {args : List PV} {m : M} {Q Q' : M → Prop} (hd : DRet P h args m Q) (hq : ∀ m', Q m' → Q' m') : DRet P h args m Q' := fun G w vs a b c => (hd G w vs a b c).mono (by rintro e u w' ⟨h1, h2, m', G', h3, h4, h5⟩; exact ⟨h1, h2, m', G', hq _ h3, h4, h5⟩)
set_option maxHeartbeats 2000000 in
theorem clo_ret (x : PV) (m : M) : DRet Try.prog 14 [x] m (fun m' => m' = m) := by
  refine DRet.of (mu := []) ok_mix Try.func14 rfl rfl ⟨rfl, rfl, rfl⟩ (by kernel_rfl) (by decide) (by simp only [List.length_cons, List.length_nil, Try.ntmps14]; omega) ?_
  (repeat (first | refine aSeq fun X hX => ?_ | refine aBlk ?_ | refine aSkip ?_ | (first | refine aExit ?_ | refine aRet ?_); try simp only [slx, ↓reduceIte, Nat.reduceEqDiff, reduceCtorEq] | (first | refine aReg ?_ | refine aDrE ?_); simp -implicitDefEqProofs only [forall_eq, ↓slp, slb, ↓reduceIte, reduceCtorEq, jA, jB, jC, jD, jE, jF, jG, jH, jI, jJ, jK, tfImK]; try simp only [Ex.fold, Ex.foldcs, ← Va.pv.eq_1] | refine hX _ _ ?_; clear hX X | clear hX X; refine hX _ _ ?_; clear hX X | clear hX X; clear hX X; refine hX _ _ ?_; clear hX X | intro hlen; unfold maxLen at hlen | apply And.intro; focus (first | omega | assumption | (repeat' apply And.intro) <;> first | omega | assumption)))
  refine aIf ?_; simp -implicitDefEqProofs only [↓slp, slb, ↓reduceIte, reduceCtorEq, jA, jB, jC, jD, jE, jF, jG, jH, jI, jJ, jK]
  (repeat (first | refine aSeq fun X hX => ?_ | refine aBlk ?_ | refine aSkip ?_ | (first | refine aExit ?_ | refine aRet ?_); try simp only [slx, ↓reduceIte, Nat.reduceEqDiff, reduceCtorEq] | (first | refine aReg ?_ | refine aDrE ?_); simp -implicitDefEqProofs only [forall_eq, ↓slp, slb, ↓reduceIte, reduceCtorEq, jA, jB, jC, jD, jE, jF, jG, jH, jI, jJ, jK, tfImK]; try simp only [Ex.fold, Ex.foldcs, ← Va.pv.eq_1] | refine hX _ _ ?_; clear hX X | clear hX X; refine hX _ _ ?_; clear hX X | clear hX X; clear hX X; refine hX _ _ ?_; clear hX X | intro hlen; unfold maxLen at hlen | apply And.intro; focus (first | omega | assumption | (repeat' apply And.intro) <;> first | omega | assumption)))
set_option maxHeartbeats 8000000 in
theorem check_any (es : List PV) (ns : List No) (hns : ∀ n ∈ ns, n.ins.length + n.outs.length ≤ 1000 ∧ OkB 3 n.b.vars n.b.eqs) (m : M) :
    ACalls Try.prog 6 [.ag [.sl .no es, .sl .no (ns.map No.pv)]] m (fun v m' => v = .v .nilIface ∧ m' = m) := by
  refine ACalls.leave (R := fun v m' => v = .v .nilIface ∧ ∃ r, m' = m.ext (some [.v .nilIface] :: r)) ?_ (fun v m' ⟨h1, r, h2⟩ => by subst h1 h2; exact leave_ext rfl ⟨rfl, rfl⟩)
  obtain ⟨Xf, hXf⟩ : ∃ Xf : F → M → Prop, ∀ f1 m1, Xf f1 m1 = ((f1 1 = .ep [.sl .no es, .sl .no (ns.map No.pv)] ∧ f1 2 = .bp m.nb 0) ∧ m1 = m.ext [some [.v .nilIface]]) := ⟨_, fun _ _ => rfl⟩
  refine ACalls.enterDL (mu := [2]) (l := [_]) (kps := [2]) ok_mix Try.func6 rfl (by kernel_rfl) (by kernel_rfl) ⟨rfl, rfl, rfl⟩ ⟨rfl, rfl, rfl, rfl, rfl⟩ ?_ (fun kv => by rw [bd_kv _ _ kv (fun _ => undef)]; kernel_rfl) ⟨by decide, by decide⟩ (by simp only [List.length_cons, List.length_nil, Try.ntmps6]; omega) Xf ?_ ?_
  · intro A hA
    simp only [List.mem_cons, List.not_mem_nil, or_false] at hA
    rcases hA with rfl
    kernel_rfl
  · unfold aPre
    (repeat (first | refine aSeq fun X hX => ?_ | refine aBlk ?_ | refine aSkip ?_ | (first | refine aExit ?_ | refine aRet ?_); try simp only [slx, ↓reduceIte, Nat.reduceEqDiff, reduceCtorEq] | (first | refine aReg ?_ | refine aDrE ?_); simp -implicitDefEqProofs only [forall_eq, ↓slp, slb, ↓reduceIte, reduceCtorEq, jA, jB, jC, jD, jE, jF, jG, jH, jI, jJ, jK, tfImK]; try simp only [Ex.fold, Ex.foldcs, ← Va.pv.eq_1] | refine hX _ _ ?_; clear hX X | clear hX X; refine hX _ _ ?_; clear hX X | clear hX X; clear hX X; refine hX _ _ ?_; clear hX X | intro hlen; unfold maxLen at hlen | apply And.intro; focus (first | omega | assumption | (repeat' apply And.intro) <;> first | omega | assumption)))
    show Xf _ _
    rw [hXf]
    exact ⟨⟨rfl, rfl⟩, rfl⟩
  · intro f1 m1 hx
    rw [hXf] at hx
    obtain ⟨⟨f1', f2⟩, rfl⟩ := hx
    have hargs : (#[Operand.tmp 2] : Array Operand).toList.map (ev f1) = [.bp m.nb 0] := by
      simp only [List.map_cons, List.map_nil, ev_tmp, f2]
    have k2 : (F.only [2] f1) 2 = .bp m.nb 0 := by unfold F.only; rw [if_pos (by simp)]; exact f2
    refine ⟨fun m2 => ∃ r, m2 = m.ext (some [.v .nilIface] :: r), fun _ _ => False, ?_, ?_, fun v m2 h => h.elim⟩
    · (repeat (first | refine aSeq fun X hX => ?_ | refine aBlk ?_ | refine aSkip ?_ | (first | refine aExit ?_ | refine aRet ?_); try simp only [slx, ↓reduceIte, Nat.reduceEqDiff, reduceCtorEq] | (first | refine aReg ?_ | refine aIf ?_); simp -implicitDefEqProofs only [forall_eq, ↓slp, slb, ↓reduceIte, reduceCtorEq, jA, jB, jC, jD, jE, jF, jG, jH, jI, jJ, jK, tfImK, f1', f2]; try simp only [Ex.fold, Ex.foldcs, ← Va.pv.eq_1] | refine hX _ _ ?_; clear hX X | clear hX X; refine hX _ _ ?_; clear hX X | clear hX X; clear hX X; refine hX _ _ ?_; clear hX X | intro hlen; unfold maxLen at hlen | apply And.intro; focus (first | omega | assumption | (repeat' apply And.intro) <;> first | omega | assumption)))
      obtain ⟨I, hI⟩ : ∃ I : F → M → Prop, ∀ f m', I f m' = (∃ (k : Nat) (r : List (Option (List PV))), k ≤ ns.length ∧ f 2 = .bp m.nb 0 ∧ f 10 = .sl .no (ns.map No.pv) ∧ f 11 = pI ns.length ∧ f 12 = pI k ∧ m' = m.ext (some [.v .nilIface] :: r)) := ⟨_, fun _ _ => rfl⟩
      refine aLoop I (fun f m => ns.length - numOf (f 12)) ?_ ?_
      · rw [hI]; exact ⟨0, [], by omega, f2, rfl, rfl, rfl, rfl⟩
      clear f1' f2
      intro f m' hrel
      rw [hI] at hrel
      obtain ⟨k, r, hk, f2, f10, f11, f12, rfl⟩ := hrel
      cases c1 : decide ((k : Int) < (ns.length : Int)) with
      | false =>
        (repeat (first | refine aSeq fun X hX => ?_ | refine aBlk ?_ | refine aSkip ?_ | (first | refine aExit ?_ | refine aRet ?_); try simp only [slx, ↓reduceIte, Nat.reduceEqDiff, reduceCtorEq] | (first | refine aReg ?_ | refine aIf ?_); simp -implicitDefEqProofs only [forall_eq, ↓slp, slb, ↓reduceIte, reduceCtorEq, jA, jB, jC, jD, jE, jF, jG, jH, jI, jJ, jK, tfImK, f2, f10, f11, f12, pI, c1]; try simp only [Ex.fold, Ex.foldcs, ← Va.pv.eq_1] | refine hX _ _ ?_; clear hX X | clear hX X; refine hX _ _ ?_; clear hX X | clear hX X; clear hX X; refine hX _ _ ?_; clear hX X | intro hlen; unfold maxLen at hlen | apply And.intro; focus (first | omega | assumption | (repeat' apply And.intro) <;> first | omega | assumption)))
        exact ⟨.inr trivial, r, rfl⟩
      | true =>
        have hlt : k < ns.length := by simpa using c1
        have g0 := getD_map No.pv ns k hlt
        have hi : IntKind.i64.wrap ((k : Int) + 1) = ((k + 1 : Nat) : Int) := by rw [wrap64 (by omega)]; omega
        have hme : numOf (f 12) = k := by rw [f12]; exact Int.toNat_natCast k
        obtain ⟨hn1, hn2⟩ := hns ns[k] (List.getElem_mem hlt)
        generalize ns[k] = n at *
        (repeat (first | refine aSeq fun X hX => ?_ | refine aBlk ?_ | refine aSkip ?_ | (first | refine aExit ?_ | refine aRet ?_); try simp only [slx, ↓reduceIte, Nat.reduceEqDiff, reduceCtorEq] | (first | refine aReg ?_ | refine aIf ?_); simp -implicitDefEqProofs only [forall_eq, ↓slp, slb, ↓reduceIte, reduceCtorEq, jA, jB, jC, jD, jE, jF, jG, jH, jI, jJ, jK, tfImK, f2, f10, f11, f12, pI, c1, g0, List.cons_append]; try simp only [Ex.fold, Ex.foldcs, ← Va.pv.eq_1] | refine hX _ _ ?_; clear hX X | clear hX X; refine hX _ _ ?_; clear hX X | clear hX X; clear hX X; refine hX _ _ ?_; clear hX X | intro hlen; unfold maxLen at hlen | apply And.intro; focus (first | omega | assumption | (repeat' apply And.intro) <;> first | omega | assumption)))
        obtain ⟨id, hid⟩ : ∃ id, m.nb + (r.length + 1) = id := ⟨_, rfl⟩
        obtain ⟨m1, hm1⟩ : ∃ m1, m.ext (some [.v .nilIface] :: (r ++ [some [.tp [], .tp []]])) = m1 := ⟨_, rfl⟩
        have hm1s : m1 = mst m1 id [] [] := by
          rw [← hm1]
          unfold mst
          rw [← hid, ext_upd (i := r.length + 1) rfl]
          congr 1
          rw [List.set_cons_succ, List.set_append_right _ _ (Nat.le_refl _)]
          simp
        have hidl : id < m1.nb := by rw [← hm1, ext_nb]; simp; omega
        have hms : ∀ N B, mst m1 id N B = m.ext (some [.v .nilIface] :: (r ++ [some [.tp (N.map pS), .tp (B.map pB)]])) := fun N B => by
          rw [← hm1]
          unfold mst
          rw [← hid, ext_upd (i := r.length + 1) rfl]
          congr 1
          rw [List.set_cons_succ, List.set_append_right _ _ (Nat.le_refl _)]
          simp
        rw [hm1]
        obtain ⟨L, hL⟩ : ∃ L, n.ins ++ n.outs = L := ⟨_, rfl⟩
        have hLf : [n.ins, n.outs].flatten = L := by rw [← hL]; simp
        have hLl : L.length ≤ 1000 := by rw [← hL, List.length_append]; exact hn1
        have hcc := concatV_any .full [n.ins, n.outs] m1 (by rw [hLf]; omega)
        rw [hLf] at hcc
        refine callE hcc ?_
        simp -implicitDefEqProofs only [↓slp, slb, ↓reduceIte, reduceCtorEq, jA, jB, jC, jD, jE, jF, jG, jH, jI, jJ, jK, tfImK]; try simp only [Ex.fold, Ex.foldcs, ← Va.pv.eq_1]
        (repeat (first | refine aSeq fun X hX => ?_ | refine aBlk ?_ | refine aSkip ?_ | (first | refine aExit ?_ | refine aRet ?_); try simp only [slx, ↓reduceIte, Nat.reduceEqDiff, reduceCtorEq] | (first | refine aReg ?_ | refine aIf ?_); simp -implicitDefEqProofs only [forall_eq, ↓slp, slb, ↓reduceIte, reduceCtorEq, jA, jB, jC, jD, jE, jF, jG, jH, jI, jJ, jK, tfImK, f2, f10, f11, f12, pI, List.cons_append]; try simp only [Ex.fold, Ex.foldcs, ← Va.pv.eq_1] | refine hX _ _ ?_; clear hX X | clear hX X; refine hX _ _ ?_; clear hX X | clear hX X; clear hX X; refine hX _ _ ?_; clear hX X | intro hlen; unfold maxLen at hlen | apply And.intro; focus (first | omega | assumption | (repeat' apply And.intro) <;> first | omega | assumption)))
        have ht := tmL
        obtain ⟨J, hJ⟩ : ∃ J : F → M → Prop, ∀ f m', J f m' = (∃ (j : Nat) (N : List Str) (B : List Bool), j ≤ L.length ∧ f 2 = .bp m.nb 0 ∧ f 4 = .ep n.cs ∧ f 5 = .mp id ∧ f 10 = .sl .no (ns.map No.pv) ∧ f 11 = pI ns.length ∧ f 12 = pI k ∧ f 22 = .sl .no (L.map Va.pv) ∧ f 23 = pI L.length ∧ f 24 = pI j ∧ (∀ s, lkB N B s = false) ∧ m' = mst m1 id N B) := ⟨_, fun _ _ => rfl⟩
        refine aLoop J (fun f m => L.length - numOf (f 24)) ?_ ?_
        · rw [hJ]; exact ⟨0, [], [], by omega, f2, rfl, by show PV.mp (m.nb + (r.length + 1)) = _; rw [hid], f10, f11, f12, rfl, rfl, rfl, fun s => rfl, hm1s⟩
        clear f2 f10 f11 f12
        intro f m' hrel
        rw [hJ] at hrel
        obtain ⟨j, N, B, hj, f2, f4, f5, f10, f11, f12, f22, f23, f24, hlk, rfl⟩ := hrel
        have hg := mst_get hidl N B
        cases c2 : decide ((j : Int) < (L.length : Int)) with
        | true =>
          have hltj : j < L.length := by simpa using c2
          have gj := getD_map Va.pv L j hltj
          have hij : IntKind.i64.wrap ((j : Int) + 1) = ((j + 1 : Nat) : Int) := by rw [wrap64 (by omega)]; omega
          have hmej : numOf (f 24) = j := by rw [f24]; exact Int.toNat_natCast j
          have hput := putN_map N B L[j].name false
          have hup := mst_put m1 id N B L[j].name false
          (repeat (first | refine aSeq fun X hX => ?_ | refine aBlk ?_ | refine aSkip ?_ | (first | refine aExit ?_ | refine aRet ?_); try simp only [slx, ↓reduceIte, Nat.reduceEqDiff, reduceCtorEq] | (first | refine aReg ?_ | refine aIf ?_); simp -implicitDefEqProofs only [forall_eq, ↓slp, slb, ↓reduceIte, reduceCtorEq, jA, jB, jC, jD, jE, jF, jG, jH, jI, jJ, jK, tfImK, f4, f5, f22, f23, f24, pI, pB, c2, gj, hg, ht, hput, hup, hij]; try simp only [Ex.fold, Ex.foldcs, ← Va.pv.eq_1] | refine hX _ _ ?_; clear hX X | clear hX X; refine hX _ _ ?_; clear hX X | clear hX X; clear hX X; refine hX _ _ ?_; clear hX X | intro hlen; unfold maxLen at hlen | apply And.intro; focus (first | omega | assumption | (repeat' apply And.intro) <;> first | omega | assumption)))
          rw [hJ]
          refine ⟨⟨j + 1, _, _, hltj, f2, f4, f5, f10, f11, f12, f22, f23, rfl, fun s => ?_, rfl⟩, by omega⟩
          rw [putN_lk, hlk]
          split <;> rfl
        | false =>
          (repeat (first | refine aSeq fun X hX => ?_ | refine aBlk ?_ | refine aSkip ?_ | (first | refine aExit ?_ | refine aRet ?_); try simp only [slx, ↓reduceIte, Nat.reduceEqDiff, reduceCtorEq] | (first | refine aReg ?_ | refine aIf ?_); simp -implicitDefEqProofs only [forall_eq, ↓slp, slb, ↓reduceIte, reduceCtorEq, jA, jB, jC, jD, jE, jF, jG, jH, jI, jJ, jK, tfImK, f4, f5, f22, f23, f24, pI, c2]; try simp only [Ex.fold, Ex.foldcs, ← Va.pv.eq_1] | refine hX _ _ ?_; clear hX X | clear hX X; refine hX _ _ ?_; clear hX X | clear hX X; clear hX X; refine hX _ _ ?_; clear hX X | intro hlen; unfold maxLen at hlen | apply And.intro; focus (first | omega | assumption | (repeat' apply And.intro) <;> first | omega | assumption)))
          have hC : Calm (mst m1 id N B) id := ⟨N, B, hg, funext hlk⟩
          refine callE (block_all 3 n.b.vars n.b.eqs hn2 _ _ hC _ (.inl rfl)) ?_
          simp -implicitDefEqProofs only [↓slp, slb, ↓reduceIte, reduceCtorEq, jA, jB, jC, jD, jE, jF, jG, jH, jI, jJ, jK, tfImK]; try simp only [Ex.fold, Ex.foldcs, ← Va.pv.eq_1]
          (repeat (first | refine aSeq fun X hX => ?_ | refine aBlk ?_ | refine aSkip ?_ | (first | refine aExit ?_ | refine aRet ?_); try simp only [slx, ↓reduceIte, Nat.reduceEqDiff, reduceCtorEq] | (first | refine aReg ?_ | refine aIf ?_); simp -implicitDefEqProofs only [forall_eq, ↓slp, slb, ↓reduceIte, reduceCtorEq, jA, jB, jC, jD, jE, jF, jG, jH, jI, jJ, jK, tfImK, f12, pI, hi]; try simp only [Ex.fold, Ex.foldcs, ← Va.pv.eq_1] | refine hX _ _ ?_; clear hX X | clear hX X; refine hX _ _ ?_; clear hX X | clear hX X; clear hX X; refine hX _ _ ?_; clear hX X | intro hlen; unfold maxLen at hlen | apply And.intro; focus (first | omega | assumption | (repeat' apply And.intro) <;> first | omega | assumption)))
          rw [hI, hms]
          exact ⟨⟨k + 1, r ++ [some [.tp (N.map pS), .tp (B.map pB)]], hlt, f2, f10, f11, rfl, rfl⟩, by omega⟩
    · rintro m2 ⟨r, rfl⟩
      rw [hargs]
      refine (clo_ret _ _).mono ?_
      rintro m3 rfl
      simp only [Try.results6, aRes_n, aRes_t, aRes_c]
      simp -implicitDefEqProofs only [↓slp, slb, ↓reduceIte, reduceCtorEq, jA, jB, jC, jD, jE, jF, jG, jH, jI, jJ, jK, tfImK, k2]; try simp only [Ex.fold, Ex.foldcs, ← Va.pv.eq_1]
      exact ⟨r, rfl⟩
end Go.Proofs.Ytfemdelaciccmaa

/-
  The law InitsMade.
-/
set_option linter.unusedVariables false
set_option linter.unusedSimpArgs false
namespace Go.Proofs.Ytfemdelaciccmaa
open Nat renaming reduceEqDiff → jA, reduceAdd → jB, reduceMul → jC, reduceLT → jD, reduceLeDiff → jE, reduceBEq → jF, reduceBNe → jG
open Int renaming reduceLE → jH, reduceLT → jI, reduceToNat → jJ, reduceEq → jK
open Go
set_option maxRecDepth 20000
-- TNAMES: int; uint8; int32; string; bool; []uint8; api.Program; error
set_option linter.defProp false
def tfImL := And.intro @tfA (And.intro @Ex.settle_pv (And.intro @Ex.pure_pv (And.intro @Ex.cells_pv (And.intro @Ex.cs.eq_1 (And.intro @On.pv.eq_1 (And.intro @Ty.pv.eq_1 (And.intro @Va.settle_pv (And.intro @Va.pure_pv (And.intro @Va.cells_pv @Va.cs.eq_1)))))))))

theorem made_ok {ns : List No} (h : GNodes ns) : ∀ n ∈ ns, n.ins.length + n.outs.length ≤ 1000 ∧ OkB 3 n.b.vars n.b.eqs := fun n hn => by
  obtain ⟨k, hk, rfl⟩ := List.getElem_of_mem hn
  obtain ⟨l, e, b, n', _, _, hb, he⟩ := h k hk
  rw [he]
  exact ⟨by simp [nIns, nOuts], okb_made 3 _ _ _ _ _ b hb⟩
set_option maxHeartbeats 4000000 in
theorem madeLaw_any (l : List Int) (hel : ∀ x ∈ l, 0 ≤ x ∧ x ≤ 255) :
    ACalls Try.prog 3 [.sl .no (l.map pU)] M0 (fun v m' => v = .v (.bool true)) := by
  refine ACalls.enter (mu := []) ok_mix Try.func3 rfl (by kernel_rfl) (by kernel_rfl) (by simp only [List.length_cons, List.length_nil, Try.ntmps3]; omega) ?_
  cases c1 : decide ((l.length : Int) > 400) with
  | true =>
    (repeat (first | refine aSeq fun X hX => ?_ | refine aBlk ?_ | refine aSkip ?_ | (first | refine aExit ?_ | refine aRet ?_); try simp only [slx, ↓reduceIte, Nat.reduceEqDiff, reduceCtorEq] | (first | refine aReg ?_ | refine aDrE ?_); simp -implicitDefEqProofs only [forall_eq, ↓slp, slb, ↓reduceIte, reduceCtorEq, jA, jB, jC, jD, jE, jF, jG, jH, jI, jJ, jK, tfImL, c1]; try simp only [Ex.fold, Ex.foldcs, ← Va.pv.eq_1] | refine hX _ _ ?_; clear hX X | clear hX X; refine hX _ _ ?_; clear hX X | clear hX X; clear hX X; refine hX _ _ ?_; clear hX X | intro hlen; unfold maxLen at hlen | apply And.intro; focus (first | omega | assumption | (repeat' apply And.intro) <;> first | omega | assumption)))
    refine callE (awake_run _) ?_
    simp -implicitDefEqProofs only [↓slp, slb, ↓reduceIte, reduceCtorEq, jA, jB, jC, jD, jE, jF, jG, jH, jI, jJ, jK, tfImL, c1]; try simp only [Ex.fold, Ex.foldcs, ← Va.pv.eq_1]
    (repeat (first | refine aSeq fun X hX => ?_ | refine aBlk ?_ | refine aSkip ?_ | (first | refine aExit ?_ | refine aRet ?_); try simp only [slx, ↓reduceIte, Nat.reduceEqDiff, reduceCtorEq] | (first | refine aReg ?_ | refine aDrE ?_); simp -implicitDefEqProofs only [forall_eq, ↓slp, slb, ↓reduceIte, reduceCtorEq, jA, jB, jC, jD, jE, jF, jG, jH, jI, jJ, jK, tfImL, c1]; try simp only [Ex.fold, Ex.foldcs, ← Va.pv.eq_1] | refine hX _ _ ?_; clear hX X | clear hX X; refine hX _ _ ?_; clear hX X | clear hX X; clear hX X; refine hX _ _ ?_; clear hX X | intro hlen; unfold maxLen at hlen | apply And.intro; focus (first | omega | assumption | (repeat' apply And.intro) <;> first | omega | assumption)))
    refine aIf ?_; simp -implicitDefEqProofs only [↓slp, slb, ↓reduceIte, reduceCtorEq, jA, jB, jC, jD, jE, jF, jG, jH, jI, jJ, jK]
    (repeat (first | refine aSeq fun X hX => ?_ | refine aBlk ?_ | refine aSkip ?_ | (first | refine aExit ?_ | refine aRet ?_); try simp only [slx, ↓reduceIte, Nat.reduceEqDiff, reduceCtorEq] | (first | refine aReg ?_ | refine aDrE ?_); simp -implicitDefEqProofs only [forall_eq, ↓slp, slb, ↓reduceIte, reduceCtorEq, jA, jB, jC, jD, jE, jF, jG, jH, jI, jJ, jK, tfImL]; try simp only [Ex.fold, Ex.foldcs, ← Va.pv.eq_1] | refine hX _ _ ?_; clear hX X | clear hX X; refine hX _ _ ?_; clear hX X | clear hX X; clear hX X; refine hX _ _ ?_; clear hX X | intro hlen; unfold maxLen at hlen | apply And.intro; focus (first | omega | assumption | (repeat' apply And.intro) <;> first | omega | assumption)))
    refine callE (awake_run _) ?_
    simp -implicitDefEqProofs only [↓slp, slb, ↓reduceIte, reduceCtorEq, jA, jB, jC, jD, jE, jF, jG, jH, jI, jJ, jK, tfImL]; try simp only [Ex.fold, Ex.foldcs, ← Va.pv.eq_1]
    (repeat (first | refine aSeq fun X hX => ?_ | refine aBlk ?_ | refine aSkip ?_ | (first | refine aExit ?_ | refine aRet ?_); try simp only [slx, ↓reduceIte, Nat.reduceEqDiff, reduceCtorEq] | (first | refine aReg ?_ | refine aDrE ?_); simp -implicitDefEqProofs only [forall_eq, ↓slp, slb, ↓reduceIte, reduceCtorEq, jA, jB, jC, jD, jE, jF, jG, jH, jI, jJ, jK, tfImL]; try simp only [Ex.fold, Ex.foldcs, ← Va.pv.eq_1] | refine hX _ _ ?_; clear hX X | clear hX X; refine hX _ _ ?_; clear hX X | clear hX X; clear hX X; refine hX _ _ ?_; clear hX X | intro hlen; unfold maxLen at hlen | apply And.intro; focus (first | omega | assumption | (repeat' apply And.intro) <;> first | omega | assumption)))
    simp only [aPost, Try.results3, aRes_n, aRes_t, aRes_c, pack_one, pack_two]
    exact leave_same rfl rfl
  | false =>
    (repeat (first | refine aSeq fun X hX => ?_ | refine aBlk ?_ | refine aSkip ?_ | (first | refine aExit ?_ | refine aRet ?_); try simp only [slx, ↓reduceIte, Nat.reduceEqDiff, reduceCtorEq] | (first | refine aReg ?_ | refine aDrE ?_); simp -implicitDefEqProofs only [forall_eq, ↓slp, slb, ↓reduceIte, reduceCtorEq, jA, jB, jC, jD, jE, jF, jG, jH, jI, jJ, jK, tfImL, c1]; try simp only [Ex.fold, Ex.foldcs, ← Va.pv.eq_1] | refine hX _ _ ?_; clear hX X | clear hX X; refine hX _ _ ?_; clear hX X | clear hX X; clear hX X; refine hX _ _ ?_; clear hX X | intro hlen; unfold maxLen at hlen | apply And.intro; focus (first | omega | assumption | (repeat' apply And.intro) <;> first | omega | assumption)))
    refine callE (awake_run _) ?_
    simp -implicitDefEqProofs only [↓slp, slb, ↓reduceIte, reduceCtorEq, jA, jB, jC, jD, jE, jF, jG, jH, jI, jJ, jK, tfImL, c1]; try simp only [Ex.fold, Ex.foldcs, ← Va.pv.eq_1]
    (repeat (first | refine aSeq fun X hX => ?_ | refine aBlk ?_ | refine aSkip ?_ | (first | refine aExit ?_ | refine aRet ?_); try simp only [slx, ↓reduceIte, Nat.reduceEqDiff, reduceCtorEq] | (first | refine aReg ?_ | refine aIf ?_); simp -implicitDefEqProofs only [forall_eq, ↓slp, slb, ↓reduceIte, reduceCtorEq, jA, jB, jC, jD, jE, jF, jG, jH, jI, jJ, jK, tfImL, c1]; try simp only [Ex.fold, Ex.foldcs, ← Va.pv.eq_1] | refine hX _ _ ?_; clear hX X | clear hX X; refine hX _ _ ?_; clear hX X | clear hX X; clear hX X; refine hX _ _ ?_; clear hX X | intro hlen; unfold maxLen at hlen | apply And.intro; focus (first | omega | assumption | (repeat' apply And.intro) <;> first | omega | assumption)))
    refine callM (make_any l (by simp at c1; omega) hel _) ?_
    rintro v m' ⟨ns, rfl, _, hns, rfl⟩
    simp -implicitDefEqProofs only [↓slp, slb, ↓reduceIte, reduceCtorEq, jA, jB, jC, jD, jE, jF, jG, jH, jI, jJ, jK, tfImL]; try simp only [Ex.fold, Ex.foldcs, ← Va.pv.eq_1]
    refine callE (check_any [.ag colC] ns (made_ok hns) _) ?_
    simp -implicitDefEqProofs only [↓slp, slb, ↓reduceIte, reduceCtorEq, jA, jB, jC, jD, jE, jF, jG, jH, jI, jJ, jK, tfImL]; try simp only [Ex.fold, Ex.foldcs, ← Va.pv.eq_1]
    (repeat (first | refine aSeq fun X hX => ?_ | refine aBlk ?_ | refine aSkip ?_ | (first | refine aExit ?_ | refine aRet ?_); try simp only [slx, ↓reduceIte, Nat.reduceEqDiff, reduceCtorEq] | (first | refine aReg ?_ | refine aIf ?_); simp -implicitDefEqProofs only [forall_eq, ↓slp, slb, ↓reduceIte, reduceCtorEq, jA, jB, jC, jD, jE, jF, jG, jH, jI, jJ, jK, tfImL]; try simp only [Ex.fold, Ex.foldcs, ← Va.pv.eq_1] | refine hX _ _ ?_; clear hX X | clear hX X; refine hX _ _ ?_; clear hX X | clear hX X; clear hX X; refine hX _ _ ?_; clear hX X | intro hlen; unfold maxLen at hlen | apply And.intro; focus (first | omega | assumption | (repeat' apply And.intro) <;> first | omega | assumption)))
    simp only [aPost, Try.results3, aRes_n, aRes_t, aRes_c, pack_one, pack_two]
    exact leave_same rfl rfl
end Go.Proofs.Ytfemdelaciccmaa
