/-
  ClocksWhens: the programs.
-/
import Derived.Test.YtamdnlnoioglnaaAbPl3
import Derived.Test.YtamdnlnoioglnaaAbMk8c
set_option linter.unusedVariables false
set_option linter.unusedSimpArgs false
namespace Go.Proofs.Ytamdnlnoioglnaa
open Nat renaming reduceEqDiff → jA, reduceAdd → jB, reduceMul → jC, reduceLT → jD, reduceLeDiff → jE, reduceBEq → jF, reduceBNe → jG
open Int renaming reduceLE → jH, reduceLT → jI, reduceToNat → jJ, reduceEq → jK
open Go
-- EXX: No.settle_pv, No.pure_pv, No.cells_pv, No.cs, Qu.settle_pv
set_option maxRecDepth 20000
-- TNAMES: int; uint8; int32; string; bool; []string; []api.Expr; api.Expr; api.Pos; api.Type; api.On; []api.On; api.Var; []api.Var; api.Equation; []api.Equation; api.Block; api.Node; []api.Node; api.Program; []api.Enum; api.Enum
set_option linter.defProp false
def tfCkW := And.intro @tfA (And.intro @Ex.settle_pv (And.intro @Ex.pure_pv (And.intro @Ex.cells_pv (And.intro @Ex.cs.eq_1 (And.intro @On.pv.eq_1 (And.intro @Ty.pv.eq_1 (And.intro @Va.settle_pv (And.intro @Va.pure_pv (And.intro @Va.cells_pv (And.intro @Va.cs.eq_1 (And.intro @No.settle_pv (And.intro @No.pure_pv (And.intro @No.cells_pv (And.intro @No.cs.eq_1 @Qu.settle_pv))))))))))))))

abbrev wF : Str := ⟨#[102]⟩
abbrev wC : Str := ⟨#[99]⟩
abbrev wX : Str := ⟨#[120]⟩
abbrev wW : Str := ⟨#[119]⟩
abbrev wZ : Str := ⟨#[]⟩
abbrev wT : Str := ⟨#[116, 114, 117, 101]⟩
abbrev wN : Str := ⟨#[102, 97, 108, 115, 101]⟩
def exO : Ex := .mk 0 0 0 wZ [] [] 0 0
def vaOf (s : Str) (k : Int) (ck : List On) : Va := ⟨s, ⟨k, wZ⟩, ck, false, exO, 0, 0⟩
def progOf (e : Ex) : No := ⟨wF, [vaOf wC 1 []], [vaOf wX 2 []], ⟨[vaOf wW 2 [⟨wT, wC⟩]], [.mk 1 [wW] wZ [] false (.mk 1 0 0 wZ [] [] 0 0) [] 0 0, .mk 1 [wX] wZ [] false e [] 0 0]⟩, 0, 0⟩
theorem progOf_flat {e : Ex} (h : e.nar) : (progOf e).flat := by
  have h0 : exO.nar := ⟨by show 0 ≤ 1000000; omega, trivial⟩
  refine ⟨⟨by show 1 ≤ 1000000; omega, fun v hv => ?_⟩, ⟨by show 1 ≤ 1000000; omega, fun v hv => ?_⟩, ⟨by show 1 ≤ 1000000; omega, fun v hv => ?_⟩, ⟨by show 2 ≤ 1000000; omega, fun q hq => ?_⟩⟩
  · simp only [progOf, List.mem_singleton] at hv; subst hv; exact h0
  · simp only [progOf, List.mem_singleton] at hv; subst hv; exact h0
  · simp only [progOf, List.mem_singleton] at hv; subst hv; exact h0
  · simp only [progOf, List.mem_cons, List.not_mem_nil, or_false] at hq
    rcases hq with rfl | rfl
    · exact ⟨⟨by show 0 ≤ 1000000; omega, trivial⟩, ⟨by show 0 ≤ 1000000; omega, trivial⟩, rfl⟩
    · exact ⟨h, ⟨by show 0 ≤ 1000000; omega, trivial⟩, rfl⟩
set_option maxHeartbeats 4000000 in
theorem program_any (e : Ex) (he : e.nar) (m : M) : ACalls Try.prog 11 [e.pv] m (fun v m' => v = .ag [.sl .no [], .sl .no [(plN (progOf e) 0).1.pv]] ∧ m' = m) := by
  refine ACalls.enter (mu := [2, 5]) ok_mix Try.func11 rfl (by kernel_rfl) (by kernel_rfl) (by simp only [List.length_cons, List.length_nil, Try.ntmps11]; omega) ?_
  (repeat (first | refine aSeq fun X hX => ?_ | refine aBlk ?_ | refine aSkip ?_ | (first | refine aExit ?_ | refine aRet ?_); try simp only [slx, ↓reduceIte, Nat.reduceEqDiff, reduceCtorEq] | (first | refine aReg ?_ | refine aDrE ?_); simp -implicitDefEqProofs only [forall_eq, ↓slp, slb, ↓reduceIte, reduceCtorEq, jA, jB, jC, jD, jE, jF, jG, jH, jI, jJ, jK, tfCkW]; try simp only [Ex.fold, Ex.foldcs, ← Va.pv.eq_1] | refine hX _ _ ?_; clear hX X | clear hX X; refine hX _ _ ?_; clear hX X | clear hX X; clear hX X; refine hX _ _ ?_; clear hX X | intro hlen; unfold maxLen at hlen | apply And.intro; focus (first | omega | assumption | (repeat' apply And.intro) <;> first | omega | assumption)))
  trace_state
  refine callMS (placed_any [progOf e] (by show 1 ≤ 1000000; omega) (fun n hn => by simp only [List.mem_singleton] at hn; subst hn; exact progOf_flat he) _) (by rfl) ?_
  rintro v m' ⟨rfl, rfl⟩
  simp -implicitDefEqProofs only [↓slp, slb, ↓reduceIte, reduceCtorEq, jA, jB, jC, jD, jE, jF, jG, jH, jI, jJ, jK, tfCkW]; try simp only [Ex.fold, Ex.foldcs, ← Va.pv.eq_1]
  (repeat (first | refine aSeq fun X hX => ?_ | refine aBlk ?_ | refine aSkip ?_ | (first | refine aExit ?_ | refine aRet ?_); try simp only [slx, ↓reduceIte, Nat.reduceEqDiff, reduceCtorEq] | (first | refine aReg ?_ | refine aDrE ?_); simp -implicitDefEqProofs only [forall_eq, ↓slp, slb, ↓reduceIte, reduceCtorEq, jA, jB, jC, jD, jE, jF, jG, jH, jI, jJ, jK, tfCkW]; try simp only [Ex.fold, Ex.foldcs, ← Va.pv.eq_1] | refine hX _ _ ?_; clear hX X | clear hX X; refine hX _ _ ?_; clear hX X | clear hX X; clear hX X; refine hX _ _ ?_; clear hX X | intro hlen; unfold maxLen at hlen | apply And.intro; focus (first | omega | assumption | (repeat' apply And.intro) <;> first | omega | assumption)))
  simp only [aPost, Try.results11, aRes_n, aRes_t, aRes_c, pack_one, pack_two]
  simp -implicitDefEqProofs only [↓slp, slb, ↓reduceIte, reduceCtorEq, jA, jB, jC, jD, jE, jF, jG, jH, jI, jJ, jK, tfCkW]; try simp only [Ex.fold, Ex.foldcs, ← Va.pv.eq_1]
  exact leave_ext rfl ⟨rfl, rfl⟩
end Go.Proofs.Ytamdnlnoioglnaa
