/-
  Texts that belong together: TmV, TmB.
-/
import Derived.Test.YticdboelpgalpaaDoorTmT
import Derived.Test.YticdboelpgalpaaDoorAbFr
import Derived.Test.YticdboelpgalpaaDoorAbCv
/-
  Texts that belong together: TmF, TmG.
-/
/-
  types: variables, nodes by their names, choices.
-/
set_option linter.unusedVariables false
set_option linter.unusedSimpArgs false
namespace Go.Proofs.YticdboelpgalpaaDoor
open Nat renaming reduceEqDiff → jA, reduceAdd → jB, reduceMul → jC, reduceLT → jD, reduceLeDiff → jE, reduceBEq → jF, reduceBNe → jG
open Int renaming reduceLE → jH, reduceLT → jI, reduceToNat → jJ, reduceEq → jK
open Go
set_option maxRecDepth 20000
set_option linter.defProp false
def tfTmF := tfTmW

set_option maxHeartbeats 4000000 in
theorem varT_any (ns : List No) {E : List Va} {v : Va} (h : VaT E v) (m : M) : ACalls Tryd.prog 16 [lkP ns, .sl .no (E.map Va.pv), v.pv] m (unit m) := by
  obtain ⟨hla, hck⟩ := h
  have hx := fun (h : v.last = true) => ex_any ns (hla h)
  unfold ExT at hx
  have hcs := fun m => ctors_C m
  have hfv := fun (s : Str) (m : M) => findVar_any .no E s m
  have hcn := fun (s : Str) (hs : s ∈ cols) (m : M) => (show ACalls Tryd.prog 25 [.sl .no (cols.map pS), pS s] m (fun v m' => v = pB true ∧ m' = m) by have := contains_any .no cols s m; rwa [(hasS_iff _ _).2 hs] at this)
  unfold lkP colC at *
  simp only [Ty.pv, tyC, cols, List.map_cons, List.map_nil] at *
  have e1 : (v.t.name.toList == v.t.name.toList) = true := by simp
  have e2 : (v.t.kind == v.t.kind) = true := by simp
  refine ACalls.enter (mu := []) ok_mix Tryd.func16 rfl (by kernel_rfl) (by kernel_rfl) (by simp only [List.length_cons, List.length_nil, Tryd.ntmps16]; omega) ?_
  cases hl : v.last with
  | true =>
    (repeat (first | refine aSeq fun X hX => ?_ | refine aBlk ?_ | refine aSkip ?_ | (first | refine aExit ?_ | refine aRet ?_); try simp only [slx, ↓reduceIte, jA, reduceCtorEq] | (first | refine aReg ?_ | refine aDrE ?_ | refine aIf ?_); simp -implicitDefEqProofs only [forall_eq, ↓slp, slb, ↓reduceIte, reduceCtorEq, jA, jB, jC, jD, jE, jF, jG, jH, jI, jJ, jK, tfTmF, hl]; try simp only [fo] | refine hX _ _ ?_; clear hX X | clear hX X; refine hX _ _ ?_; clear hX X | clear hX X; clear hX X; refine hX _ _ ?_; clear hX X | intro hlen; unfold maxLen at hlen | apply And.intro; focus (first | omega | assumption | (repeat' apply And.intro) <;> first | omega | assumption)))
    refine callMS (hx hl _) (by simp only [List.map_cons, List.map_nil, PV.settle, PV.settles, Ex.settle_pv]) ?_
    rintro vv mv ⟨rfl, rfl⟩
    simp -implicitDefEqProofs only [↓slp, slb, ↓reduceIte, reduceCtorEq, jA, jB, jC, jD, jE, jF, jG, jH, jI, jJ, jK, tfTmF, e1, e2]; try simp only [fo]
    (repeat (first | refine aSeq fun X hX => ?_ | refine aBlk ?_ | refine aSkip ?_ | (first | refine aExit ?_ | refine aRet ?_); try simp only [slx, ↓reduceIte, jA, reduceCtorEq] | (first | refine aReg ?_ | refine aDrE ?_ | refine aIf ?_); simp -implicitDefEqProofs only [forall_eq, ↓slp, slb, ↓reduceIte, reduceCtorEq, jA, jB, jC, jD, jE, jF, jG, jH, jI, jJ, jK, tfTmF, hl, e1, e2]; try simp only [fo] | refine hX _ _ ?_; clear hX X | clear hX X; refine hX _ _ ?_; clear hX X | clear hX X; clear hX X; refine hX _ _ ?_; clear hX X | intro hlen; unfold maxLen at hlen | apply And.intro; focus (first | omega | assumption | (repeat' apply And.intro) <;> first | omega | assumption)))
    obtain ⟨I, hI⟩ : ∃ I : F → M → Prop, ∀ f m', I f m' = (∃ k : Nat, k ≤ v.clock.length ∧ f 0 = .ep [.sl .no [.ag [.v (.string sCol), .sl .no [pS sRed, pS sGreen, pS sBlue], .v (.int .i64 0), .v (.int .i64 0)]], .sl .no (ns.map No.pv)] ∧ f 1 = .sl .no (E.map Va.pv) ∧ f 5 = .ep v.cs ∧ f 24 = .sl .no (v.clock.map On.pv) ∧ f 25 = pI v.clock.length ∧ f 26 = pI k ∧ mv = m') := ⟨_, fun _ _ => rfl⟩
    refine aLoop I (fun f m => v.clock.length - numOf (f 26)) ?_ ?_
    · rw [hI]; exact ⟨0, by omega, rfl, rfl, (by rw [Va.cs, hl]; rfl), rfl, rfl, rfl, rfl⟩
    intro f m' hrel
    rw [hI] at hrel
    obtain ⟨k, hk, f0, f1, f5, f24, f25, f26, rfl⟩ := hrel
    cases c1 : decide ((k : Int) < (v.clock.length : Int)) with
    | true =>
      have hlt : k < v.clock.length := by simpa using c1
      have g0 := getD_map On.pv v.clock k hlt
      have hi : IntKind.i64.wrap ((k : Int) + 1) = ((k + 1 : Nat) : Int) := by rw [wrap64 (by omega)]; omega
      have hme : numOf (f 26) = k := by rw [f26]; exact Int.toNat_natCast k
      obtain ⟨⟨j, hj, hfj, htj⟩, hcc⟩ := hck v.clock[k] (List.getElem_mem hlt)
      have hfv2 := hfv v.clock[k].var
      rw [hfj] at hfv2
      have hcn2 := hcn v.clock[k].ctor hcc
      have gj := getD_map Va.pv E j hj
      have cneg : decide ((j : Int) < 0) = false := by simp
      (repeat (first | refine aSeq fun X hX => ?_ | refine aBlk ?_ | refine aSkip ?_ | (first | refine aExit ?_ | refine aRet ?_); try simp only [slx, ↓reduceIte, jA, reduceCtorEq] | (first | refine aReg ?_ | refine aIf ?_); simp -implicitDefEqProofs only [forall_eq, ↓slp, slb, ↓reduceIte, reduceCtorEq, jA, jB, jC, jD, jE, jF, jG, jH, jI, jJ, jK, tfTmF, f0, f1, f5, f24, f25, f26, pI, c1, g0]; try simp only [fo] | refine hX _ _ ?_; clear hX X | clear hX X; refine hX _ _ ?_; clear hX X | clear hX X; clear hX X; refine hX _ _ ?_; clear hX X | intro hlen; unfold maxLen at hlen | apply And.intro; focus (first | omega | assumption | (repeat' apply And.intro) <;> first | omega | assumption)))
      refine callE (hfv2 _) ?_
      simp -implicitDefEqProofs only [↓slp, slb, ↓reduceIte, reduceCtorEq, jA, jB, jC, jD, jE, jF, jG, jH, jI, jJ, jK, tfTmF, f0, f1, f5, f24, f25, f26, pI, cneg]; try simp only [fo]
      (repeat (first | refine aSeq fun X hX => ?_ | refine aBlk ?_ | refine aSkip ?_ | (first | refine aExit ?_ | refine aRet ?_); try simp only [slx, ↓reduceIte, jA, reduceCtorEq] | (first | refine aReg ?_ | refine aIf ?_); simp -implicitDefEqProofs only [forall_eq, ↓slp, slb, ↓reduceIte, reduceCtorEq, jA, jB, jC, jD, jE, jF, jG, jH, jI, jJ, jK, tfTmF, f0, f1, f5, f24, f25, f26, pI, cneg]; try simp only [fo] | refine hX _ _ ?_; clear hX X | clear hX X; refine hX _ _ ?_; clear hX X | clear hX X; clear hX X; refine hX _ _ ?_; clear hX X | intro hlen; unfold maxLen at hlen | apply And.intro; focus (first | omega | assumption | (repeat' apply And.intro) <;> first | omega | assumption)))
      (repeat (first | refine aSeq fun X hX => ?_ | refine aBlk ?_ | refine aSkip ?_ | (first | refine aExit ?_ | refine aRet ?_); try simp only [slx, ↓reduceIte, jA, reduceCtorEq] | (first | refine aReg ?_ | refine aDrE ?_ | refine aIf ?_); simp -implicitDefEqProofs only [forall_eq, ↓slp, slb, ↓reduceIte, reduceCtorEq, jA, jB, jC, jD, jE, jF, jG, jH, jI, jJ, jK, tfTmF, f0, f1, f5, f24, f25, f26, pI, cneg, gj, hj, htj]; try simp only [fo] | refine hX _ _ ?_; clear hX X | clear hX X; refine hX _ _ ?_; clear hX X | clear hX X; clear hX X; refine hX _ _ ?_; clear hX X | intro hlen; unfold maxLen at hlen | apply And.intro; focus (first | omega | assumption | (repeat' apply And.intro) <;> first | omega | assumption)))
      refine callE (hcs _) ?_
      simp -implicitDefEqProofs only [↓slp, slb, ↓reduceIte, reduceCtorEq, jA, jB, jC, jD, jE, jF, jG, jH, jI, jJ, jK, tfTmF, f0, f1, f5, f24, f25, f26, pI, cneg, gj, hj, htj]; try simp only [fo]
      refine callE (hcn2 _) ?_
      simp -implicitDefEqProofs only [↓slp, slb, ↓reduceIte, reduceCtorEq, jA, jB, jC, jD, jE, jF, jG, jH, jI, jJ, jK, tfTmF, pB]; try simp only [fo]
      (repeat (first | refine aSeq fun X hX => ?_ | refine aBlk ?_ | refine aSkip ?_ | (first | refine aExit ?_ | refine aRet ?_); try simp only [slx, ↓reduceIte, jA, reduceCtorEq] | (first | refine aReg ?_ | refine aDrE ?_ | refine aIf ?_); simp -implicitDefEqProofs only [forall_eq, ↓slp, slb, ↓reduceIte, reduceCtorEq, jA, jB, jC, jD, jE, jF, jG, jH, jI, jJ, jK, tfTmF, f26, pI, hi]; try simp only [fo] | refine hX _ _ ?_; clear hX X | clear hX X; refine hX _ _ ?_; clear hX X | clear hX X; clear hX X; refine hX _ _ ?_; clear hX X | intro hlen; unfold maxLen at hlen | apply And.intro; focus (first | omega | assumption | (repeat' apply And.intro) <;> first | omega | assumption)))
      rw [hI]
      exact ⟨⟨k + 1, hlt, f0, f1, f5, f24, f25, rfl, rfl⟩, by omega⟩
    | false =>
      (repeat (first | refine aSeq fun X hX => ?_ | refine aBlk ?_ | refine aSkip ?_ | (first | refine aExit ?_ | refine aRet ?_); try simp only [slx, ↓reduceIte, jA, reduceCtorEq] | (first | refine aReg ?_ | refine aIf ?_); simp -implicitDefEqProofs only [forall_eq, ↓slp, slb, ↓reduceIte, reduceCtorEq, jA, jB, jC, jD, jE, jF, jG, jH, jI, jJ, jK, tfTmF, f24, f25, f26, pI, c1]; try simp only [fo] | refine hX _ _ ?_; clear hX X | clear hX X; refine hX _ _ ?_; clear hX X | clear hX X; clear hX X; refine hX _ _ ?_; clear hX X | intro hlen; unfold maxLen at hlen | apply And.intro; focus (first | omega | assumption | (repeat' apply And.intro) <;> first | omega | assumption)))
      simp only [aPost, Tryd.results16, aRes_n, aRes_t, aRes_c, pack_one, pack_two]
      exact leave_same rfl ⟨rfl, rfl⟩
  | false =>
    (repeat (first | refine aSeq fun X hX => ?_ | refine aBlk ?_ | refine aSkip ?_ | (first | refine aExit ?_ | refine aRet ?_); try simp only [slx, ↓reduceIte, jA, reduceCtorEq] | (first | refine aReg ?_ | refine aDrE ?_ | refine aIf ?_); simp -implicitDefEqProofs only [forall_eq, ↓slp, slb, ↓reduceIte, reduceCtorEq, jA, jB, jC, jD, jE, jF, jG, jH, jI, jJ, jK, tfTmF, hl]; try simp only [fo] | refine hX _ _ ?_; clear hX X | clear hX X; refine hX _ _ ?_; clear hX X | clear hX X; clear hX X; refine hX _ _ ?_; clear hX X | intro hlen; unfold maxLen at hlen | apply And.intro; focus (first | omega | assumption | (repeat' apply And.intro) <;> first | omega | assumption)))
    obtain ⟨I, hI⟩ : ∃ I : F → M → Prop, ∀ f m', I f m' = (∃ k : Nat, k ≤ v.clock.length ∧ f 0 = .ep [.sl .no [.ag [.v (.string sCol), .sl .no [pS sRed, pS sGreen, pS sBlue], .v (.int .i64 0), .v (.int .i64 0)]], .sl .no (ns.map No.pv)] ∧ f 1 = .sl .no (E.map Va.pv) ∧ f 5 = .ep v.cs ∧ f 24 = .sl .no (v.clock.map On.pv) ∧ f 25 = pI v.clock.length ∧ f 26 = pI k ∧ m = m') := ⟨_, fun _ _ => rfl⟩
    refine aLoop I (fun f m => v.clock.length - numOf (f 26)) ?_ ?_
    · rw [hI]; exact ⟨0, by omega, rfl, rfl, (by rw [Va.cs, hl]; rfl), rfl, rfl, rfl, rfl⟩
    intro f m' hrel
    rw [hI] at hrel
    obtain ⟨k, hk, f0, f1, f5, f24, f25, f26, rfl⟩ := hrel
    cases c1 : decide ((k : Int) < (v.clock.length : Int)) with
    | true =>
      have hlt : k < v.clock.length := by simpa using c1
      have g0 := getD_map On.pv v.clock k hlt
      have hi : IntKind.i64.wrap ((k : Int) + 1) = ((k + 1 : Nat) : Int) := by rw [wrap64 (by omega)]; omega
      have hme : numOf (f 26) = k := by rw [f26]; exact Int.toNat_natCast k
      obtain ⟨⟨j, hj, hfj, htj⟩, hcc⟩ := hck v.clock[k] (List.getElem_mem hlt)
      have hfv2 := hfv v.clock[k].var
      rw [hfj] at hfv2
      have hcn2 := hcn v.clock[k].ctor hcc
      have gj := getD_map Va.pv E j hj
      have cneg : decide ((j : Int) < 0) = false := by simp
      (repeat (first | refine aSeq fun X hX => ?_ | refine aBlk ?_ | refine aSkip ?_ | (first | refine aExit ?_ | refine aRet ?_); try simp only [slx, ↓reduceIte, jA, reduceCtorEq] | (first | refine aReg ?_ | refine aIf ?_); simp -implicitDefEqProofs only [forall_eq, ↓slp, slb, ↓reduceIte, reduceCtorEq, jA, jB, jC, jD, jE, jF, jG, jH, jI, jJ, jK, tfTmF, f0, f1, f5, f24, f25, f26, pI, c1, g0]; try simp only [fo] | refine hX _ _ ?_; clear hX X | clear hX X; refine hX _ _ ?_; clear hX X | clear hX X; clear hX X; refine hX _ _ ?_; clear hX X | intro hlen; unfold maxLen at hlen | apply And.intro; focus (first | omega | assumption | (repeat' apply And.intro) <;> first | omega | assumption)))
      refine callE (hfv2 _) ?_
      simp -implicitDefEqProofs only [↓slp, slb, ↓reduceIte, reduceCtorEq, jA, jB, jC, jD, jE, jF, jG, jH, jI, jJ, jK, tfTmF, f0, f1, f5, f24, f25, f26, pI, cneg]; try simp only [fo]
      (repeat (first | refine aSeq fun X hX => ?_ | refine aBlk ?_ | refine aSkip ?_ | (first | refine aExit ?_ | refine aRet ?_); try simp only [slx, ↓reduceIte, jA, reduceCtorEq] | (first | refine aReg ?_ | refine aIf ?_); simp -implicitDefEqProofs only [forall_eq, ↓slp, slb, ↓reduceIte, reduceCtorEq, jA, jB, jC, jD, jE, jF, jG, jH, jI, jJ, jK, tfTmF, f0, f1, f5, f24, f25, f26, pI, cneg]; try simp only [fo] | refine hX _ _ ?_; clear hX X | clear hX X; refine hX _ _ ?_; clear hX X | clear hX X; clear hX X; refine hX _ _ ?_; clear hX X | intro hlen; unfold maxLen at hlen | apply And.intro; focus (first | omega | assumption | (repeat' apply And.intro) <;> first | omega | assumption)))
      (repeat (first | refine aSeq fun X hX => ?_ | refine aBlk ?_ | refine aSkip ?_ | (first | refine aExit ?_ | refine aRet ?_); try simp only [slx, ↓reduceIte, jA, reduceCtorEq] | (first | refine aReg ?_ | refine aDrE ?_ | refine aIf ?_); simp -implicitDefEqProofs only [forall_eq, ↓slp, slb, ↓reduceIte, reduceCtorEq, jA, jB, jC, jD, jE, jF, jG, jH, jI, jJ, jK, tfTmF, f0, f1, f5, f24, f25, f26, pI, cneg, gj, hj, htj]; try simp only [fo] | refine hX _ _ ?_; clear hX X | clear hX X; refine hX _ _ ?_; clear hX X | clear hX X; clear hX X; refine hX _ _ ?_; clear hX X | intro hlen; unfold maxLen at hlen | apply And.intro; focus (first | omega | assumption | (repeat' apply And.intro) <;> first | omega | assumption)))
      refine callE (hcs _) ?_
      simp -implicitDefEqProofs only [↓slp, slb, ↓reduceIte, reduceCtorEq, jA, jB, jC, jD, jE, jF, jG, jH, jI, jJ, jK, tfTmF, f0, f1, f5, f24, f25, f26, pI, cneg, gj, hj, htj]; try simp only [fo]
      refine callE (hcn2 _) ?_
      simp -implicitDefEqProofs only [↓slp, slb, ↓reduceIte, reduceCtorEq, jA, jB, jC, jD, jE, jF, jG, jH, jI, jJ, jK, tfTmF, pB]; try simp only [fo]
      (repeat (first | refine aSeq fun X hX => ?_ | refine aBlk ?_ | refine aSkip ?_ | (first | refine aExit ?_ | refine aRet ?_); try simp only [slx, ↓reduceIte, jA, reduceCtorEq] | (first | refine aReg ?_ | refine aDrE ?_ | refine aIf ?_); simp -implicitDefEqProofs only [forall_eq, ↓slp, slb, ↓reduceIte, reduceCtorEq, jA, jB, jC, jD, jE, jF, jG, jH, jI, jJ, jK, tfTmF, f26, pI, hi]; try simp only [fo] | refine hX _ _ ?_; clear hX X | clear hX X; refine hX _ _ ?_; clear hX X | clear hX X; clear hX X; refine hX _ _ ?_; clear hX X | intro hlen; unfold maxLen at hlen | apply And.intro; focus (first | omega | assumption | (repeat' apply And.intro) <;> first | omega | assumption)))
      rw [hI]
      exact ⟨⟨k + 1, hlt, f0, f1, f5, f24, f25, rfl, rfl⟩, by omega⟩
    | false =>
      (repeat (first | refine aSeq fun X hX => ?_ | refine aBlk ?_ | refine aSkip ?_ | (first | refine aExit ?_ | refine aRet ?_); try simp only [slx, ↓reduceIte, jA, reduceCtorEq] | (first | refine aReg ?_ | refine aIf ?_); simp -implicitDefEqProofs only [forall_eq, ↓slp, slb, ↓reduceIte, reduceCtorEq, jA, jB, jC, jD, jE, jF, jG, jH, jI, jJ, jK, tfTmF, f24, f25, f26, pI, c1]; try simp only [fo] | refine hX _ _ ?_; clear hX X | clear hX X; refine hX _ _ ?_; clear hX X | clear hX X; clear hX X; refine hX _ _ ?_; clear hX X | intro hlen; unfold maxLen at hlen | apply And.intro; focus (first | omega | assumption | (repeat' apply And.intro) <;> first | omega | assumption)))
      simp only [aPost, Tryd.results16, aRes_n, aRes_t, aRes_c, pack_one, pack_two]
      exact leave_same rfl ⟨rfl, rfl⟩

set_option maxRecDepth 20000 in
set_option maxHeartbeats 1000000 in
theorem idxNo_any (o : Own) (l : List No) (p : No → Bool) (g : FuncId) (c : PV) (m : M) (hf : ∀ k (hk : k < l.length) (m : M), ACalls Tryd.prog g [No.pv l[k], c] m (fun v m' => v = pB (p l[k]) ∧ m' = m)) :
    ACalls Tryd.prog 77 [.sl o (l.map (No.pv)), .fn (.func g) [] [c]] m (fun v m' => v = pI (idxF p l 0) ∧ m' = m) := by
  refine ACalls.enter (mu := []) ok_mix Tryd.func77 rfl (by kernel_rfl) (by kernel_rfl) (by simp only [List.length_cons, List.length_nil, Tryd.ntmps77]; omega) ?_
  (repeat (first | refine aSeq fun X hX => ?_ | refine aBlk ?_ | refine aSkip ?_ | (first | refine aExit ?_ | refine aRet ?_); try simp only [slx, ↓reduceIte, jA, reduceCtorEq] | (first | refine aReg ?_ | refine aDrE ?_); simp -implicitDefEqProofs only [forall_eq, ↓slp, slb, ↓reduceIte, reduceCtorEq, jA, jB, jC, jD, jE, jF, jG, jH, jI, jJ, jK, tfTmF]; try simp only [fo] | refine hX _ _ ?_; clear hX X | clear hX X; refine hX _ _ ?_; clear hX X | clear hX X; clear hX X; refine hX _ _ ?_; clear hX X | intro hlen; unfold maxLen at hlen | apply And.intro; focus (first | omega | assumption | (repeat' apply And.intro) <;> first | omega | assumption)))
  obtain ⟨I, hI⟩ : ∃ I : F → M → Prop, ∀ f m', I f m' = (∃ k : Nat, k ≤ l.length ∧ f 0 = .sl o (l.map (No.pv)) ∧ f 1 = .fn (.func g) [] [c] ∧ f 7 = pI l.length ∧ f 8 = pI k ∧ idxF p l 0 = idxF p (l.drop k) k ∧ m' = m) := ⟨_, fun _ _ => rfl⟩
  refine aLoop I (fun f m => l.length - numOf (f 8)) ?_ ?_
  · rw [hI]; exact ⟨0, by omega, rfl, rfl, rfl, rfl, rfl, rfl⟩
  intro f m' hrel
  rw [hI] at hrel
  obtain ⟨k, hk, h0, h1, h7, h8, hs, rfl⟩ := hrel
  (repeat (first | refine aSeq fun X hX => ?_ | refine aBlk ?_ | refine aSkip ?_ | (first | refine aExit ?_ | refine aRet ?_); try simp only [slx, ↓reduceIte, jA, reduceCtorEq] | (first | refine aReg ?_ | refine aDrE ?_); simp -implicitDefEqProofs only [forall_eq, ↓slp, slb, ↓reduceIte, reduceCtorEq, jA, jB, jC, jD, jE, jF, jG, jH, jI, jJ, jK, tfTmF, h0, h1, h7, h8, pI]; try simp only [fo] | refine hX _ _ ?_; clear hX X | clear hX X; refine hX _ _ ?_; clear hX X | clear hX X; clear hX X; refine hX _ _ ?_; clear hX X | intro hlen; unfold maxLen at hlen | apply And.intro; focus (first | omega | assumption | (repeat' apply And.intro) <;> first | omega | assumption)))
  refine aIf ?_; simp -implicitDefEqProofs only [↓slp, slb, ↓reduceIte, reduceCtorEq, jA, jB, jC, jD, jE, jF, jG, jH, jI, jJ, jK]; refine ⟨fun hb => ?_, fun hb => ?_⟩
  · have hlt : k < l.length := by simpa using hb
    have g0 := getD_map (No.pv) l k hlt
    have hi : IntKind.i64.wrap ((k : Int) + 1) = ((k + 1 : Nat) : Int) := by rw [wrap64 (by omega)]; omega
    have hd := idxF_drop (p := p) hlt
    (repeat (first | refine aSeq fun X hX => ?_ | refine aBlk ?_ | refine aSkip ?_ | (first | refine aExit ?_ | refine aRet ?_); try simp only [slx, ↓reduceIte, jA, reduceCtorEq] | (first | refine aReg ?_ | refine aDrE ?_); simp -implicitDefEqProofs only [forall_eq, ↓slp, slb, ↓reduceIte, reduceCtorEq, jA, jB, jC, jD, jE, jF, jG, jH, jI, jJ, jK, tfTmF, h0, h1, h7, h8, pI, g0]; try simp only [fo] | refine hX _ _ ?_; clear hX X | clear hX X; refine hX _ _ ?_; clear hX X | clear hX X; clear hX X; refine hX _ _ ?_; clear hX X | intro hlen; unfold maxLen at hlen | apply And.intro; focus (first | omega | assumption | (repeat' apply And.intro) <;> first | omega | assumption)))
    refine callE (hf k hlt _) ?_
    simp -implicitDefEqProofs only [↓slp, slb, ↓reduceIte, reduceCtorEq, jA, jB, jC, jD, jE, jF, jG, jH, jI, jJ, jK, tfTmF, h0, h1, h7, h8, pI, pB]; try simp only [fo]
    cases c1 : p l[k] with
    | true =>
      (repeat (first | refine aSeq fun X hX => ?_ | refine aBlk ?_ | refine aSkip ?_ | (first | refine aExit ?_ | refine aRet ?_); try simp only [slx, ↓reduceIte, jA, reduceCtorEq] | (first | refine aReg ?_ | refine aDrE ?_); simp -implicitDefEqProofs only [forall_eq, ↓slp, slb, ↓reduceIte, reduceCtorEq, jA, jB, jC, jD, jE, jF, jG, jH, jI, jJ, jK, tfTmF, h0, h1, h7, h8, pI, g0, c1]; try simp only [fo] | refine hX _ _ ?_; clear hX X | clear hX X; refine hX _ _ ?_; clear hX X | clear hX X; clear hX X; refine hX _ _ ?_; clear hX X | intro hlen; unfold maxLen at hlen | apply And.intro; focus (first | omega | assumption | (repeat' apply And.intro) <;> first | omega | assumption)))
      refine aIf ?_; simp -implicitDefEqProofs only [↓slp, slb, ↓reduceIte, reduceCtorEq, jA, jB, jC, jD, jE, jF, jG, jH, jI, jJ, jK, c1]
      (repeat (first | refine aSeq fun X hX => ?_ | refine aBlk ?_ | refine aSkip ?_ | (first | refine aExit ?_ | refine aRet ?_); try simp only [slx, ↓reduceIte, jA, reduceCtorEq] | (first | refine aReg ?_ | refine aDrE ?_); simp -implicitDefEqProofs only [forall_eq, ↓slp, slb, ↓reduceIte, reduceCtorEq, jA, jB, jC, jD, jE, jF, jG, jH, jI, jJ, jK, tfTmF]; try simp only [fo] | refine hX _ _ ?_; clear hX X | clear hX X; refine hX _ _ ?_; clear hX X | clear hX X; clear hX X; refine hX _ _ ?_; clear hX X | intro hlen; unfold maxLen at hlen | apply And.intro; focus (first | omega | assumption | (repeat' apply And.intro) <;> first | omega | assumption)))
      simp only [aPost, Tryd.results77, aRes_n, aRes_t, aRes_c, pack_one, pack_two]
      refine leave_same rfl ⟨?_, rfl⟩
      have hv : idxF p l 0 = (k : Int) := by rw [hs, hd]; simp [c1]
      rw [hv]; rfl
    | false =>
      (repeat (first | refine aSeq fun X hX => ?_ | refine aBlk ?_ | refine aSkip ?_ | (first | refine aExit ?_ | refine aRet ?_); try simp only [slx, ↓reduceIte, jA, reduceCtorEq] | (first | refine aReg ?_ | refine aDrE ?_); simp -implicitDefEqProofs only [forall_eq, ↓slp, slb, ↓reduceIte, reduceCtorEq, jA, jB, jC, jD, jE, jF, jG, jH, jI, jJ, jK, tfTmF, h0, h1, h7, h8, pI, g0, c1]; try simp only [fo] | refine hX _ _ ?_; clear hX X | clear hX X; refine hX _ _ ?_; clear hX X | clear hX X; clear hX X; refine hX _ _ ?_; clear hX X | intro hlen; unfold maxLen at hlen | apply And.intro; focus (first | omega | assumption | (repeat' apply And.intro) <;> first | omega | assumption)))
      refine aIf ?_; simp -implicitDefEqProofs only [↓slp, slb, ↓reduceIte, reduceCtorEq, jA, jB, jC, jD, jE, jF, jG, jH, jI, jJ, jK, c1]
      (repeat (first | refine aSeq fun X hX => ?_ | refine aBlk ?_ | refine aSkip ?_ | (first | refine aExit ?_ | refine aRet ?_); try simp only [slx, ↓reduceIte, jA, reduceCtorEq] | (first | refine aReg ?_ | refine aDrE ?_); simp -implicitDefEqProofs only [forall_eq, ↓slp, slb, ↓reduceIte, reduceCtorEq, jA, jB, jC, jD, jE, jF, jG, jH, jI, jJ, jK, tfTmF, h0, h1, h7, h8, pI, hi]; try simp only [fo] | refine hX _ _ ?_; clear hX X | clear hX X; refine hX _ _ ?_; clear hX X | clear hX X; clear hX X; refine hX _ _ ?_; clear hX X | intro hlen; unfold maxLen at hlen | apply And.intro; focus (first | omega | assumption | (repeat' apply And.intro) <;> first | omega | assumption)))
      rw [hI]
      refine ⟨⟨k + 1, hlt, h0, h1, h7, rfl, by rw [hs, hd]; simp [c1], rfl⟩, ?_⟩
      first | omega | (simp only [↓slp, slb, ↓reduceIte, reduceCtorEq, jA, jB, jC, jD, jE, jF, jG, jH, jI, jJ, jK, h8, pI]; omega)
  · have hlt : k = l.length := by simp at hb; omega
    subst hlt
    (repeat (first | refine aSeq fun X hX => ?_ | refine aBlk ?_ | refine aSkip ?_ | (first | refine aExit ?_ | refine aRet ?_); try simp only [slx, ↓reduceIte, jA, reduceCtorEq] | (first | refine aReg ?_ | refine aDrE ?_); simp -implicitDefEqProofs only [forall_eq, ↓slp, slb, ↓reduceIte, reduceCtorEq, jA, jB, jC, jD, jE, jF, jG, jH, jI, jJ, jK, tfTmF]; try simp only [fo] | refine hX _ _ ?_; clear hX X | clear hX X; refine hX _ _ ?_; clear hX X | clear hX X; clear hX X; refine hX _ _ ?_; clear hX X | intro hlen; unfold maxLen at hlen | apply And.intro; focus (first | omega | assumption | (repeat' apply And.intro) <;> first | omega | assumption)))
    simp only [aPost, Tryd.results77, aRes_n, aRes_t, aRes_c, pack_one, pack_two]
    refine leave_same rfl ⟨?_, rfl⟩
    have hv : idxF p l 0 = -1 := by rw [hs]; simp [idxF]
    rw [hv]; rfl

set_option maxHeartbeats 1000000 in
theorem findNodeC (n : No) (s : Str) (m : M) : ACalls Tryd.prog 78 [n.pv, .ep [pS s]] m (fun v m' => v = pB (eqS n.name s) ∧ m' = m) := by
  refine ACalls.enter (mu := []) ok_mix Tryd.func78 rfl (by kernel_rfl) (by kernel_rfl) (by simp only [List.length_cons, List.length_nil, Tryd.ntmps78]; omega) ?_
  (repeat (first | refine aSeq fun X hX => ?_ | refine aBlk ?_ | refine aSkip ?_ | (first | refine aExit ?_ | refine aRet ?_); try simp only [slx, ↓reduceIte, jA, reduceCtorEq] | (first | refine aReg ?_ | refine aDrE ?_); simp -implicitDefEqProofs only [forall_eq, ↓slp, slb, ↓reduceIte, reduceCtorEq, jA, jB, jC, jD, jE, jF, jG, jH, jI, jJ, jK, tfTmF, pS]; try simp only [fo] | refine hX _ _ ?_; clear hX X | clear hX X; refine hX _ _ ?_; clear hX X | clear hX X; clear hX X; refine hX _ _ ?_; clear hX X | intro hlen; unfold maxLen at hlen | apply And.intro; focus (first | omega | assumption | (repeat' apply And.intro) <;> first | omega | assumption)))
  simp only [aPost, Tryd.results78, aRes_n, aRes_t, aRes_c, pack_one, pack_two]
  exact leave_same rfl ⟨rfl, rfl⟩
set_option maxHeartbeats 1000000 in
theorem findNode_ty (es : List PV) {ns : List No} (hns : NsT ns) {k : Nat} (hk : k < ns.length) (m : M) : ACalls Tryd.prog 63 [.ag [.sl .no es, .sl .no (ns.map No.pv)], pS (nameS ⟨#[102]⟩ k)] m (fun v m' => v = pI k ∧ m' = m) := by
  have hv : idxF (fun n : No => eqS n.name (nameS ⟨#[102]⟩ k)) ns 0 = (k : Int) := by
    rcases idxF_at (p := fun n : No => eqS n.name (nameS ⟨#[102]⟩ k)) ns 0 with ⟨_, h2⟩ | ⟨j, hj, h1, h2, _⟩
    · have := h2 ns[k] (List.getElem_mem hk)
      rw [(hns.2 k hk).1] at this
      simp [eqS] at this
    · rw [h1]
      have h3 := eqS_iff.1 h2
      rw [(hns.2 j hj).1] at h3
      have := (nm_inj h3).2
      omega
  have hx := fun (o : Own) m => idxNo_any o ns (fun n : No => eqS n.name (nameS ⟨#[102]⟩ k)) 78 (.ep [pS (nameS ⟨#[102]⟩ k)]) m (fun j hj m => findNodeC ns[j] _ m)
  rw [hv] at hx
  refine ACalls.enter (mu := []) ok_mix Tryd.func63 rfl (by kernel_rfl) (by kernel_rfl) (by simp only [List.length_cons, List.length_nil, Tryd.ntmps63]; omega) ?_
  (repeat (first | refine aSeq fun X hX => ?_ | refine aBlk ?_ | refine aSkip ?_ | (first | refine aExit ?_ | refine aRet ?_); try simp only [slx, ↓reduceIte, jA, reduceCtorEq] | (first | refine aReg ?_ | refine aDrE ?_); simp -implicitDefEqProofs only [forall_eq, ↓slp, slb, ↓reduceIte, reduceCtorEq, jA, jB, jC, jD, jE, jF, jG, jH, jI, jJ, jK, tfTmF, pS]; try simp only [fo] | refine hX _ _ ?_; clear hX X | clear hX X; refine hX _ _ ?_; clear hX X | clear hX X; clear hX X; refine hX _ _ ?_; clear hX X | intro hlen; unfold maxLen at hlen | apply And.intro; focus (first | omega | assumption | (repeat' apply And.intro) <;> first | omega | assumption)))
  refine callE (hx _ _) ?_
  simp -implicitDefEqProofs only [↓slp, slb, ↓reduceIte, reduceCtorEq, jA, jB, jC, jD, jE, jF, jG, jH, jI, jJ, jK, tfTmF, pI]; try simp only [fo]
  (repeat (first | refine aSeq fun X hX => ?_ | refine aBlk ?_ | refine aSkip ?_ | (first | refine aExit ?_ | refine aRet ?_); try simp only [slx, ↓reduceIte, jA, reduceCtorEq] | (first | refine aReg ?_ | refine aDrE ?_); simp -implicitDefEqProofs only [forall_eq, ↓slp, slb, ↓reduceIte, reduceCtorEq, jA, jB, jC, jD, jE, jF, jG, jH, jI, jJ, jK, tfTmF]; try simp only [fo] | refine hX _ _ ?_; clear hX X | clear hX X; refine hX _ _ ?_; clear hX X | clear hX X; clear hX X; refine hX _ _ ?_; clear hX X | intro hlen; unfold maxLen at hlen | apply And.intro; focus (first | omega | assumption | (repeat' apply And.intro) <;> first | omega | assumption)))
  simp only [aPost, Tryd.results63, aRes_n, aRes_t, aRes_c, pack_one, pack_two]
  exact leave_same rfl ⟨rfl, rfl⟩
end Go.Proofs.YticdboelpgalpaaDoor

/-
  types: choices.
-/
set_option linter.unusedVariables false
set_option linter.unusedSimpArgs false
namespace Go.Proofs.YticdboelpgalpaaDoor
open Nat renaming reduceEqDiff → jA, reduceAdd → jB, reduceMul → jC, reduceLT → jD, reduceLeDiff → jE, reduceBEq → jF, reduceBNe → jG
open Int renaming reduceLE → jH, reduceLT → jI, reduceToNat → jJ, reduceEq → jK
open Go
set_option maxRecDepth 20000
set_option linter.defProp false
def tfTmG := tfTmW

set_option maxHeartbeats 1000000 in
theorem choC (a b : Am) (m : M) : ACalls Tryd.prog 80 [b.pv, .ep a.cs] m (fun v m' => v = pB (eqS b.name a.name) ∧ m' = m) := by
  refine ACalls.enter (mu := []) ok_mix Tryd.func80 rfl (by kernel_rfl) (by kernel_rfl) (by simp only [List.length_cons, List.length_nil, Tryd.ntmps80]; omega) ?_
  (repeat (first | refine aSeq fun X hX => ?_ | refine aBlk ?_ | refine aSkip ?_ | (first | refine aExit ?_ | refine aRet ?_); try simp only [slx, ↓reduceIte, jA, reduceCtorEq] | (first | refine aReg ?_ | refine aDrE ?_); simp -implicitDefEqProofs only [forall_eq, ↓slp, slb, ↓reduceIte, reduceCtorEq, jA, jB, jC, jD, jE, jF, jG, jH, jI, jJ, jK, tfTmG]; try simp only [fo] | refine hX _ _ ?_; clear hX X | clear hX X; refine hX _ _ ?_; clear hX X | clear hX X; clear hX X; refine hX _ _ ?_; clear hX X | intro hlen; unfold maxLen at hlen | apply And.intro; focus (first | omega | assumption | (repeat' apply And.intro) <;> first | omega | assumption)))
  simp only [aPost, Tryd.results80, aRes_n, aRes_t, aRes_c, pack_one, pack_two]
  exact leave_same rfl ⟨rfl, rfl⟩
set_option maxHeartbeats 1000000 in
theorem idxAm_none (o : Own) (l : List Am) (g : FuncId) (c : PV) (m : M) (hf : ∀ k (hk : k < l.length) (m : M), ACalls Tryd.prog g [l[k].pv, c] m (fun v m' => v = pB false ∧ m' = m)) :
    ACalls Tryd.prog 86 [.sl o (l.map Am.pv), .fn (.func g) [] [c]] m (fun v m' => v = pI (-1) ∧ m' = m) := by
  have hf' := hf
  simp only [Am.pv_eq, Am.cs] at hf'
  refine ACalls.enter (mu := []) ok_mix Tryd.func86 rfl (by kernel_rfl) (by kernel_rfl) (by simp only [List.length_cons, List.length_nil, Tryd.ntmps86]; omega) ?_
  (repeat (first | refine aSeq fun X hX => ?_ | refine aBlk ?_ | refine aSkip ?_ | (first | refine aExit ?_ | refine aRet ?_); try simp only [slx, ↓reduceIte, jA, reduceCtorEq] | (first | refine aReg ?_ | refine aDrE ?_); simp -implicitDefEqProofs only [forall_eq, ↓slp, slb, ↓reduceIte, reduceCtorEq, jA, jB, jC, jD, jE, jF, jG, jH, jI, jJ, jK, tfTmG]; try simp only [fo] | refine hX _ _ ?_; clear hX X | clear hX X; refine hX _ _ ?_; clear hX X | clear hX X; clear hX X; refine hX _ _ ?_; clear hX X | intro hlen; unfold maxLen at hlen | apply And.intro; focus (first | omega | assumption | (repeat' apply And.intro) <;> first | omega | assumption)))
  obtain ⟨I, hI⟩ : ∃ I : F → M → Prop, ∀ f m', I f m' = (∃ k : Nat, k ≤ l.length ∧ f 0 = .sl o (l.map Am.pv) ∧ f 1 = .fn (.func g) [] [c] ∧ f 7 = pI l.length ∧ f 8 = pI k ∧ m' = m) := ⟨_, fun _ _ => rfl⟩
  refine aLoop I (fun f m => l.length - numOf (f 8)) ?_ ?_
  · rw [hI]; exact ⟨0, by omega, rfl, rfl, rfl, rfl, rfl⟩
  intro f m' hrel
  rw [hI] at hrel
  obtain ⟨k, hk, h0, h1, h7, h8, rfl⟩ := hrel
  cases c1 : decide ((k : Int) < (l.length : Int)) with
  | true =>
    have hlt : k < l.length := by simpa using c1
    have g0 := getD_map Am.pv l k hlt
    have hi : IntKind.i64.wrap ((k : Int) + 1) = ((k + 1 : Nat) : Int) := by rw [wrap64 (by omega)]; omega
    have hme : numOf (f 8) = k := by rw [h8]; exact Int.toNat_natCast k
    (repeat (first | refine aSeq fun X hX => ?_ | refine aBlk ?_ | refine aSkip ?_ | (first | refine aExit ?_ | refine aRet ?_); try simp only [slx, ↓reduceIte, jA, reduceCtorEq] | (first | refine aReg ?_ | refine aIf ?_); simp -implicitDefEqProofs only [forall_eq, ↓slp, slb, ↓reduceIte, reduceCtorEq, jA, jB, jC, jD, jE, jF, jG, jH, jI, jJ, jK, tfTmG, h0, h1, h7, h8, pI, c1, g0]; try simp only [fo] | refine hX _ _ ?_; clear hX X | clear hX X; refine hX _ _ ?_; clear hX X | clear hX X; clear hX X; refine hX _ _ ?_; clear hX X | intro hlen; unfold maxLen at hlen | apply And.intro; focus (first | omega | assumption | (repeat' apply And.intro) <;> first | omega | assumption)))
    refine callE (hf' k hlt _) ?_
    simp -implicitDefEqProofs only [↓slp, slb, ↓reduceIte, reduceCtorEq, jA, jB, jC, jD, jE, jF, jG, jH, jI, jJ, jK, tfTmG, pB]; try simp only [fo]
    (repeat (first | refine aSeq fun X hX => ?_ | refine aBlk ?_ | refine aSkip ?_ | (first | refine aExit ?_ | refine aRet ?_); try simp only [slx, ↓reduceIte, jA, reduceCtorEq] | (first | refine aReg ?_ | refine aIf ?_); simp -implicitDefEqProofs only [forall_eq, ↓slp, slb, ↓reduceIte, reduceCtorEq, jA, jB, jC, jD, jE, jF, jG, jH, jI, jJ, jK, tfTmG, h8, pI, hi]; try simp only [fo] | refine hX _ _ ?_; clear hX X | clear hX X; refine hX _ _ ?_; clear hX X | clear hX X; clear hX X; refine hX _ _ ?_; clear hX X | intro hlen; unfold maxLen at hlen | apply And.intro; focus (first | omega | assumption | (repeat' apply And.intro) <;> first | omega | assumption)))
    rw [hI]
    exact ⟨⟨k + 1, hlt, h0, h1, h7, rfl, rfl⟩, by omega⟩
  | false =>
    (repeat (first | refine aSeq fun X hX => ?_ | refine aBlk ?_ | refine aSkip ?_ | (first | refine aExit ?_ | refine aRet ?_); try simp only [slx, ↓reduceIte, jA, reduceCtorEq] | (first | refine aReg ?_ | refine aIf ?_); simp -implicitDefEqProofs only [forall_eq, ↓slp, slb, ↓reduceIte, reduceCtorEq, jA, jB, jC, jD, jE, jF, jG, jH, jI, jJ, jK, tfTmG, h0, h1, h7, h8, pI, c1]; try simp only [fo] | refine hX _ _ ?_; clear hX X | clear hX X; refine hX _ _ ?_; clear hX X | clear hX X; clear hX X; refine hX _ _ ?_; clear hX X | intro hlen; unfold maxLen at hlen | apply And.intro; focus (first | omega | assumption | (repeat' apply And.intro) <;> first | omega | assumption)))
    simp only [aPost, Tryd.results86, aRes_n, aRes_t, aRes_c, pack_one, pack_two]
    exact leave_same rfl ⟨rfl, rfl⟩
set_option maxHeartbeats 1000000 in
theorem conAm_none (o : Own) (l : List Am) (a : Am) (m : M) (h : ∀ k (hk : k < l.length), eqS l[k].name a.name = false) :
    ACalls Tryd.prog 79 [.sl o (l.map Am.pv), .fn (.func 80) [] [.ep a.cs]] m (fun v m' => v = pB false ∧ m' = m) := by
  have c0 : decide ((-1 : Int) ≥ 0) = false := rfl
  have hx := fun (o : Own) m => idxAm_none o l 80 (.ep a.cs) m (fun k hk m => by have := choC a l[k] m; rwa [h k hk] at this)
  refine ACalls.enter (mu := []) ok_mix Tryd.func79 rfl (by kernel_rfl) (by kernel_rfl) (by simp only [List.length_cons, List.length_nil, Tryd.ntmps79]; omega) ?_
  (repeat (first | refine aSeq fun X hX => ?_ | refine aBlk ?_ | refine aSkip ?_ | (first | refine aExit ?_ | refine aRet ?_); try simp only [slx, ↓reduceIte, jA, reduceCtorEq] | (first | refine aReg ?_ | refine aDrE ?_); simp -implicitDefEqProofs only [forall_eq, ↓slp, slb, ↓reduceIte, reduceCtorEq, jA, jB, jC, jD, jE, jF, jG, jH, jI, jJ, jK, tfTmG]; try simp only [fo] | refine hX _ _ ?_; clear hX X | clear hX X; refine hX _ _ ?_; clear hX X | clear hX X; clear hX X; refine hX _ _ ?_; clear hX X | intro hlen; unfold maxLen at hlen | apply And.intro; focus (first | omega | assumption | (repeat' apply And.intro) <;> first | omega | assumption)))
  refine callE (hx _ _) ?_
  simp -implicitDefEqProofs only [↓slp, slb, ↓reduceIte, reduceCtorEq, jA, jB, jC, jD, jE, jF, jG, jH, jI, jJ, jK, tfTmG, pI, c0]; try simp only [fo]
  (repeat (first | refine aSeq fun X hX => ?_ | refine aBlk ?_ | refine aSkip ?_ | (first | refine aExit ?_ | refine aRet ?_); try simp only [slx, ↓reduceIte, jA, reduceCtorEq] | (first | refine aReg ?_ | refine aDrE ?_); simp -implicitDefEqProofs only [forall_eq, ↓slp, slb, ↓reduceIte, reduceCtorEq, jA, jB, jC, jD, jE, jF, jG, jH, jI, jJ, jK, tfTmG, c0]; try simp only [fo] | refine hX _ _ ?_; clear hX X | clear hX X; refine hX _ _ ?_; clear hX X | clear hX X; clear hX X; refine hX _ _ ?_; clear hX X | intro hlen; unfold maxLen at hlen | apply And.intro; focus (first | omega | assumption | (repeat' apply And.intro) <;> first | omega | assumption)))
  simp only [aPost, Tryd.results79, aRes_n, aRes_t, aRes_c, pack_one, pack_two]
  exact leave_same rfl ⟨rfl, rfl⟩
/-- What looks behind a block's equations: nothing, or ways out of a state. -/
def MoreT (ns : List No) (E : List Va) (x : PV) : Prop := x = .v .nilFunc ∨ ∃ a : Am, WyT E a.til ∧ x = .fn (.func 67) [] [.ep [lkP ns], .ep a.cs]
def BlkT (ns : List No) (E V : List Va) (Q : List Qu) : Prop := ∀ m x, MoreT ns (E ++ V) x → ACalls Tryd.prog 17 [lkP ns, .sl .no (E.map Va.pv), .ag [.sl .no (V.map Va.pv), .sl .no (Q.map Qu.pv)], x] m (unit m)
set_option maxHeartbeats 4000000 in
theorem choT_any (ns : List No) {E : List Va} {q : Qu} {t : Ty} {cs : List Str} (hct : ∀ m : M, ACalls Tryd.prog 26 [.sl .no [.ag colC], t.pv] m (fun v m' => v = .sl .no (cs.map pS) ∧ m' = m)) (hk2 : t.kind ≠ 2)
    (harm : q.arms.length = cs.length) (hin : ∀ a ∈ q.arms, a.name ∈ cs) (hnd : ∀ i j (hi : i < q.arms.length) (hj : j < q.arms.length), i < j → q.arms[i].name ≠ q.arms[j].name) (he : HasT E q.e t) (hB : ∀ a ∈ q.arms, BlkT ns E a.vars a.eqs) (m : M) :
    ACalls Tryd.prog 65 [lkP ns, .sl .no (E.map Va.pv), q.pv] m (unit m) := by
  have hx := ex_any ns he
  have hcn := fun (s : Str) (hs : s ∈ cs) (m : M) => (show ACalls Tryd.prog 25 [.sl .no (cs.map pS), pS s] m (fun v m' => v = pB true ∧ m' = m) by have := contains_any .no cs s m; rwa [(hasS_iff _ _).2 hs] at this)
  have hBB := fun (k : Nat) (h : k < q.arms.length) m => hB q.arms[k] (List.getElem_mem h) m (.v .nilFunc) (.inl rfl)
  unfold ExT at hx
  unfold lkP colC at *
  simp only [Ty.pv] at *
  have c2 : (t.kind == 2) = false := by simp [hk2]
  have hnf : ofV Value.nilFunc = .v .nilFunc := rfl
  refine ACalls.enter (mu := []) ok_mix Tryd.func65 rfl (by kernel_rfl) (by kernel_rfl) (by simp only [List.length_cons, List.length_nil, Tryd.ntmps65]; omega) ?_
  (repeat (first | refine aSeq fun X hX => ?_ | refine aBlk ?_ | refine aSkip ?_ | (first | refine aExit ?_ | refine aRet ?_); try simp only [slx, ↓reduceIte, jA, reduceCtorEq] | (first | refine aReg ?_ | refine aIf ?_); simp -implicitDefEqProofs only [forall_eq, ↓slp, slb, ↓reduceIte, reduceCtorEq, jA, jB, jC, jD, jE, jF, jG, jH, jI, jJ, jK, tfTmG]; try simp only [fo] | refine hX _ _ ?_; clear hX X | clear hX X; refine hX _ _ ?_; clear hX X | clear hX X; clear hX X; refine hX _ _ ?_; clear hX X | intro hlen; unfold maxLen at hlen | apply And.intro; focus (first | omega | assumption | (repeat' apply And.intro) <;> first | omega | assumption)))
  refine callMS (hx _) (by simp only [List.map_cons, List.map_nil, PV.settle, PV.settles, Ex.settle_pv]) ?_
  rintro v mc ⟨rfl, hmc⟩
  subst hmc
  simp -implicitDefEqProofs only [↓slp, slb, ↓reduceIte, reduceCtorEq, jA, jB, jC, jD, jE, jF, jG, jH, jI, jJ, jK, tfTmG, c2]; try simp only [fo]
  (repeat (first | refine aSeq fun X hX => ?_ | refine aBlk ?_ | refine aSkip ?_ | (first | refine aExit ?_ | refine aRet ?_); try simp only [slx, ↓reduceIte, jA, reduceCtorEq] | (first | refine aReg ?_ | refine aIf ?_); simp -implicitDefEqProofs only [forall_eq, ↓slp, slb, ↓reduceIte, reduceCtorEq, jA, jB, jC, jD, jE, jF, jG, jH, jI, jJ, jK, tfTmG, c2]; try simp only [fo] | refine hX _ _ ?_; clear hX X | clear hX X; refine hX _ _ ?_; clear hX X | clear hX X; clear hX X; refine hX _ _ ?_; clear hX X | intro hlen; unfold maxLen at hlen | apply And.intro; focus (first | omega | assumption | (repeat' apply And.intro) <;> first | omega | assumption)))
  (repeat (first | refine aSeq fun X hX => ?_ | refine aBlk ?_ | refine aSkip ?_ | (first | refine aExit ?_ | refine aRet ?_); try simp only [slx, ↓reduceIte, jA, reduceCtorEq] | (first | refine aReg ?_ | refine aDrE ?_ | refine aIf ?_); simp -implicitDefEqProofs only [forall_eq, ↓slp, slb, ↓reduceIte, reduceCtorEq, jA, jB, jC, jD, jE, jF, jG, jH, jI, jJ, jK, tfTmG]; try simp only [fo] | refine hX _ _ ?_; clear hX X | clear hX X; refine hX _ _ ?_; clear hX X | clear hX X; clear hX X; refine hX _ _ ?_; clear hX X | intro hlen; unfold maxLen at hlen | apply And.intro; focus (first | omega | assumption | (repeat' apply And.intro) <;> first | omega | assumption)))
  refine callE (hct _) ?_
  simp -implicitDefEqProofs only [↓slp, slb, ↓reduceIte, reduceCtorEq, jA, jB, jC, jD, jE, jF, jG, jH, jI, jJ, jK, tfTmG]; try simp only [fo]
  (repeat (first | refine aSeq fun X hX => ?_ | refine aBlk ?_ | refine aSkip ?_ | (first | refine aExit ?_ | refine aRet ?_); try simp only [slx, ↓reduceIte, jA, reduceCtorEq] | (first | refine aReg ?_ | refine aIf ?_); simp -implicitDefEqProofs only [forall_eq, ↓slp, slb, ↓reduceIte, reduceCtorEq, jA, jB, jC, jD, jE, jF, jG, jH, jI, jJ, jK, tfTmG]; try simp only [fo] | refine hX _ _ ?_; clear hX X | clear hX X; refine hX _ _ ?_; clear hX X | clear hX X; clear hX X; refine hX _ _ ?_; clear hX X | intro hlen; unfold maxLen at hlen | apply And.intro; focus (first | omega | assumption | (repeat' apply And.intro) <;> first | omega | assumption)))
  obtain ⟨I, hI⟩ : ∃ I : F → M → Prop, ∀ f m', I f m' = (∃ k : Nat, k ≤ q.arms.length ∧ f 0 = .ep [.sl .no [.ag [.v (.string sCol), .sl .no [pS sRed, pS sGreen, pS sBlue], .v (.int .i64 0), .v (.int .i64 0)]], .sl .no (ns.map No.pv)] ∧ f 1 = .sl .no (E.map Va.pv) ∧ f 5 = .ep q.cs ∧ f 7 = .sl .no (cs.map pS) ∧ f 31 = .sl .no (q.arms.map Am.pv) ∧ f 32 = pI q.arms.length ∧ f 33 = pI k ∧ mc = m') := ⟨_, fun _ _ => rfl⟩
  refine aLoop I (fun f m => q.arms.length - numOf (f 33)) ?_ ?_
  · rw [hI]; exact ⟨0, by omega, rfl, rfl, rfl, rfl, rfl, rfl, rfl, rfl⟩
  intro f m' hrel
  rw [hI] at hrel
  obtain ⟨k, hk, f0, f1, f5, f7, f31, f32, f33, rfl⟩ := hrel
  cases c1 : decide ((k : Int) < (q.arms.length : Int)) with
  | true =>
    have hlt : k < q.arms.length := by simpa using c1
    have g0 := getD_map Am.pv q.arms k hlt
    have hi : IntKind.i64.wrap ((k : Int) + 1) = ((k + 1 : Nat) : Int) := by rw [wrap64 (by omega)]; omega
    have hme : numOf (f 33) = k := by rw [f33]; exact Int.toNat_natCast k
    have hmt : (q.arms.map Am.pv).take k = (q.arms.take k).map Am.pv := by rw [List.map_take]
    have hca := fun (o : Own) m => conAm_none o (q.arms.take k) q.arms[k] m (fun j hj => by
      have hj' : j < k := by rw [List.length_take] at hj; omega
      rw [List.getElem_take]
      have := hnd j k (by omega) hlt hj'
      cases c : eqS q.arms[j].name q.arms[k].name with
      | false => rfl
      | true => exact absurd (eqS_iff.1 c) this)
    have hcn2 := hcn q.arms[k].name (hin _ (List.getElem_mem hlt))
    have hb := hBB k hlt
    simp only [Am.cs] at hca
    (repeat (first | refine aSeq fun X hX => ?_ | refine aBlk ?_ | refine aSkip ?_ | (first | refine aExit ?_ | refine aRet ?_); try simp only [slx, ↓reduceIte, jA, reduceCtorEq] | (first | refine aReg ?_ | refine aIf ?_); simp -implicitDefEqProofs only [forall_eq, ↓slp, slb, ↓reduceIte, reduceCtorEq, jA, jB, jC, jD, jE, jF, jG, jH, jI, jJ, jK, tfTmG, f0, f1, f5, f7, f31, f32, f33, pI, c1, g0, hmt]; try simp only [fo] | refine hX _ _ ?_; clear hX X | clear hX X; refine hX _ _ ?_; clear hX X | clear hX X; clear hX X; refine hX _ _ ?_; clear hX X | intro hlen; unfold maxLen at hlen | apply And.intro; focus (first | omega | assumption | (repeat' apply And.intro) <;> first | omega | assumption)))
    refine ⟨⟨by omega, _, rfl, am_len _⟩, callE (hca _ _) ?_⟩
    simp -implicitDefEqProofs only [↓slp, slb, ↓reduceIte, reduceCtorEq, jA, jB, jC, jD, jE, jF, jG, jH, jI, jJ, jK, tfTmG, pB, f7]; try simp only [fo]
    (repeat (first | refine aSeq fun X hX => ?_ | refine aBlk ?_ | refine aSkip ?_ | (first | refine aExit ?_ | refine aRet ?_); try simp only [slx, ↓reduceIte, jA, reduceCtorEq] | (first | refine aReg ?_ | refine aIf ?_); simp -implicitDefEqProofs only [forall_eq, ↓slp, slb, ↓reduceIte, reduceCtorEq, jA, jB, jC, jD, jE, jF, jG, jH, jI, jJ, jK, tfTmG, f7]; try simp only [fo] | refine hX _ _ ?_; clear hX X | clear hX X; refine hX _ _ ?_; clear hX X | clear hX X; clear hX X; refine hX _ _ ?_; clear hX X | intro hlen; unfold maxLen at hlen | apply And.intro; focus (first | omega | assumption | (repeat' apply And.intro) <;> first | omega | assumption)))
    (repeat (first | refine aSeq fun X hX => ?_ | refine aBlk ?_ | refine aSkip ?_ | (first | refine aExit ?_ | refine aRet ?_); try simp only [slx, ↓reduceIte, jA, reduceCtorEq] | (first | refine aReg ?_ | refine aDrE ?_ | refine aIf ?_); simp -implicitDefEqProofs only [forall_eq, ↓slp, slb, ↓reduceIte, reduceCtorEq, jA, jB, jC, jD, jE, jF, jG, jH, jI, jJ, jK, tfTmG, f7]; try simp only [fo] | refine hX _ _ ?_; clear hX X | clear hX X; refine hX _ _ ?_; clear hX X | clear hX X; clear hX X; refine hX _ _ ?_; clear hX X | intro hlen; unfold maxLen at hlen | apply And.intro; focus (first | omega | assumption | (repeat' apply And.intro) <;> first | omega | assumption)))
    refine callE (hcn2 _) ?_
    simp -implicitDefEqProofs only [↓slp, slb, ↓reduceIte, reduceCtorEq, jA, jB, jC, jD, jE, jF, jG, jH, jI, jJ, jK, tfTmG, pB, f0, f1]; try simp only [fo]
    (repeat (first | refine aSeq fun X hX => ?_ | refine aBlk ?_ | refine aSkip ?_ | (first | refine aExit ?_ | refine aRet ?_); try simp only [slx, ↓reduceIte, jA, reduceCtorEq] | (first | refine aReg ?_ | refine aIf ?_); simp -implicitDefEqProofs only [forall_eq, ↓slp, slb, ↓reduceIte, reduceCtorEq, jA, jB, jC, jD, jE, jF, jG, jH, jI, jJ, jK, tfTmG, hnf, f0, f1]; try simp only [fo] | refine hX _ _ ?_; clear hX X | clear hX X; refine hX _ _ ?_; clear hX X | clear hX X; clear hX X; refine hX _ _ ?_; clear hX X | intro hlen; unfold maxLen at hlen | apply And.intro; focus (first | omega | assumption | (repeat' apply And.intro) <;> first | omega | assumption)))
    refine callE (hb _) ?_
    simp -implicitDefEqProofs only [↓slp, slb, ↓reduceIte, reduceCtorEq, jA, jB, jC, jD, jE, jF, jG, jH, jI, jJ, jK, tfTmG]; try simp only [fo]
    (repeat (first | refine aSeq fun X hX => ?_ | refine aBlk ?_ | refine aSkip ?_ | (first | refine aExit ?_ | refine aRet ?_); try simp only [slx, ↓reduceIte, jA, reduceCtorEq] | (first | refine aReg ?_ | refine aIf ?_); simp -implicitDefEqProofs only [forall_eq, ↓slp, slb, ↓reduceIte, reduceCtorEq, jA, jB, jC, jD, jE, jF, jG, jH, jI, jJ, jK, tfTmG, f33, pI, hi]; try simp only [fo] | refine hX _ _ ?_; clear hX X | clear hX X; refine hX _ _ ?_; clear hX X | clear hX X; clear hX X; refine hX _ _ ?_; clear hX X | intro hlen; unfold maxLen at hlen | apply And.intro; focus (first | omega | assumption | (repeat' apply And.intro) <;> first | omega | assumption)))
    rw [hI]
    exact ⟨⟨k + 1, hlt, f0, f1, f5, f7, f31, f32, rfl, rfl⟩, by omega⟩
  | false =>
    have hk' : k = q.arms.length := by simp at c1; omega
    have e0 : ((q.arms.length : Int) == (cs.length : Int)) = true := by simp [harm]
    (repeat (first | refine aSeq fun X hX => ?_ | refine aBlk ?_ | refine aSkip ?_ | (first | refine aExit ?_ | refine aRet ?_); try simp only [slx, ↓reduceIte, jA, reduceCtorEq] | (first | refine aReg ?_ | refine aIf ?_); simp -implicitDefEqProofs only [forall_eq, ↓slp, slb, ↓reduceIte, reduceCtorEq, jA, jB, jC, jD, jE, jF, jG, jH, jI, jJ, jK, tfTmG, f0, f1, f5, f7, f31, f32, f33, pI, c1, e0]; try simp only [fo] | refine hX _ _ ?_; clear hX X | clear hX X; refine hX _ _ ?_; clear hX X | clear hX X; clear hX X; refine hX _ _ ?_; clear hX X | intro hlen; unfold maxLen at hlen | apply And.intro; focus (first | omega | assumption | (repeat' apply And.intro) <;> first | omega | assumption)))
    simp only [aPost, Tryd.results65, aRes_n, aRes_t, aRes_c, pack_one, pack_two]
    exact leave_same rfl ⟨rfl, rfl⟩
end Go.Proofs.YticdboelpgalpaaDoor

/-
  types: equations and blocks.
-/
set_option linter.unusedVariables false
set_option linter.unusedSimpArgs false
namespace Go.Proofs.YticdboelpgalpaaDoor
open Nat renaming reduceEqDiff → jA, reduceAdd → jB, reduceMul → jC, reduceLT → jD, reduceLeDiff → jE, reduceBEq → jF, reduceBNe → jG
open Int renaming reduceLE → jH, reduceLT → jI, reduceToNat → jJ, reduceEq → jK
open Go
set_option maxRecDepth 20000
set_option linter.defProp false
def tfTmB := tfTmW

set_option maxHeartbeats 1000000 in
theorem cloT_any (ns : List No) (E : List Va) (a : Am) (ha : WyT E a.til) (m : M) : ACalls Tryd.prog 67 [.sl .no (E.map Va.pv), .ep [lkP ns], .ep a.cs] m (unit m) := by
  have hw := ways_ty ns a.til ha
  unfold lkP colC at *
  refine ACalls.enter (mu := []) ok_mix Tryd.func67 rfl (by kernel_rfl) (by kernel_rfl) (by simp only [List.length_cons, List.length_nil, Tryd.ntmps67]; omega) ?_
  (repeat (first | refine aSeq fun X hX => ?_ | refine aBlk ?_ | refine aSkip ?_ | (first | refine aExit ?_ | refine aRet ?_); try simp only [slx, ↓reduceIte, jA, reduceCtorEq] | (first | refine aReg ?_ | refine aIf ?_); simp -implicitDefEqProofs only [forall_eq, ↓slp, slb, ↓reduceIte, reduceCtorEq, jA, jB, jC, jD, jE, jF, jG, jH, jI, jJ, jK, tfTmB]; try simp only [fo] | refine hX _ _ ?_; clear hX X | clear hX X; refine hX _ _ ?_; clear hX X | clear hX X; clear hX X; refine hX _ _ ?_; clear hX X | intro hlen; unfold maxLen at hlen | apply And.intro; focus (first | omega | assumption | (repeat' apply And.intro) <;> first | omega | assumption)))
  refine callE (hw _) ?_
  simp -implicitDefEqProofs only [↓slp, slb, ↓reduceIte, reduceCtorEq, jA, jB, jC, jD, jE, jF, jG, jH, jI, jJ, jK, tfTmB]; try simp only [fo]
  (repeat (first | refine aSeq fun X hX => ?_ | refine aBlk ?_ | refine aSkip ?_ | (first | refine aExit ?_ | refine aRet ?_); try simp only [slx, ↓reduceIte, jA, reduceCtorEq] | (first | refine aReg ?_ | refine aIf ?_); simp -implicitDefEqProofs only [forall_eq, ↓slp, slb, ↓reduceIte, reduceCtorEq, jA, jB, jC, jD, jE, jF, jG, jH, jI, jJ, jK, tfTmB]; try simp only [fo] | refine hX _ _ ?_; clear hX X | clear hX X; refine hX _ _ ?_; clear hX X | clear hX X; clear hX X; refine hX _ _ ?_; clear hX X | intro hlen; unfold maxLen at hlen | apply And.intro; focus (first | omega | assumption | (repeat' apply And.intro) <;> first | omega | assumption)))
  simp only [aPost, Tryd.results67, aRes_n, aRes_t, aRes_c, pack_one, pack_two]
  exact leave_same rfl ⟨rfl, rfl⟩
theorem arms_B {q : Qu} (h : q.arms.map Am.name = [sBlue, sRed, sGreen] ∨ q.arms.map Am.name = [sTrue, sFalse]) : ∀ i j (hi : i < q.arms.length) (hj : j < q.arms.length), i < j → q.arms[i].name ≠ q.arms[j].name := by
  have hd : (q.arms.map Am.name).Nodup := by
    rcases h with h | h <;> rw [h]
    · show ([sBlue, sRed, sGreen] : List Str).Nodup
      decide +kernel
    · show ([sTrue, sFalse] : List Str).Nodup
      decide +kernel
  intro i j hi hj hij he
  have := List.pairwise_iff_getElem.1 hd i j (by simpa using hi) (by simpa using hj) hij
  rw [List.getElem_map, List.getElem_map] at this
  exact this he
theorem choQ_any (ns : List No) {E : List Va} {q : Qu} {t : Ty} (ht : (t = tyC ∧ q.arms.map Am.name = [sBlue, sRed, sGreen]) ∨ (t = tyB ∧ q.arms.map Am.name = [sTrue, sFalse])) (he : HasT E q.e t) (hB : ∀ a ∈ q.arms, BlkT ns E a.vars a.eqs) (m : M) :
    ACalls Tryd.prog 65 [lkP ns, .sl .no (E.map Va.pv), q.pv] m (unit m) := by
  rcases ht with ⟨rfl, hn⟩ | ⟨rfl, hn⟩
  · refine choT_any ns ctors_C (by decide) ?_ ?_ (arms_B (.inl hn)) he hB m
    · have := congrArg List.length hn; simpa using this
    · intro a ha
      have : a.name ∈ q.arms.map Am.name := List.mem_map_of_mem ha
      rw [hn] at this
      simp only [List.mem_cons, List.not_mem_nil, or_false] at this ⊢
      rcases this with h | h | h <;> simp [h]
  · refine choT_any ns ctors_B (by decide) ?_ ?_ (arms_B (.inr hn)) he hB m
    · have := congrArg List.length hn; simpa using this
    · intro a ha
      have : a.name ∈ q.arms.map Am.name := List.mem_map_of_mem ha
      rw [hn] at this
      simp only [List.mem_cons, List.not_mem_nil, or_false] at this ⊢
      rcases this with h | h <;> simp [h]
set_option maxHeartbeats 8000000 in
theorem eqT_any (ns : List No) (hns : NsT ns) {PB : List Va → List Va → List Qu → Prop} (hPB : ∀ E V Q, PB E V Q → BlkT ns E V Q) {E : List Va} {q : Qu} (hq : TyQ ns PB E q) (m : M) :
    ACalls Tryd.prog 40 [lkP ns, .sl .no (E.map Va.pv), q.pv] m (unit m) := by
  have hE := fun (e : Ex) (t : Ty) (h : HasT E e t) => ex_any ns h m
  have hT := fun (e : Ex) (t : Ty) (h : HasT E e t) => typed_any ns h m
  have hO := fun (s : Str) (t : Ty) (h : TyOf E s t) => of_ty h m
  have hW := fun l h => ways_ty ns (E := E) l h m
  have hC := fun (t : Ty) h (he : HasT E q.e t) hB => choQ_any ns (q := q) (t := t) h he hB m
  have hF := fun (k : Nat) (hk : k < ns.length) => findNode_ty [.ag colC] hns hk m
  have hB := fun V Q (h : PB E V Q) x (hx : MoreT ns (E ++ V) x) => hPB E V Q h m x hx
  rw [Qu.pv_eq] at hC
  unfold lkP colC at *
  simp only [Ty.pv] at *
  have hnf : ofV Value.nilFunc = .v .nilFunc := rfl
  rcases hq with ⟨hk, x, r, t, hl, hty, he⟩ | ⟨hk, k, x, y, a, b, hkl, hnm, hl, ha, htx, hty, hea, heb, hhas⟩ | ⟨hk, ⟨a, r, har, ha⟩, he⟩ | ⟨hk, ⟨t, ht, he⟩, ha⟩ | ⟨hk, ha⟩
  · -- kind 1
    have c1 : (q.kind == 1) = true := by simp [hk]
    have c2 : (q.kind == 2) = false := by simp [hk]
    have c5 : (q.kind == 5) = false := by simp [hk]
    have c3 : (q.kind == 3) = false := by simp [hk]
    have c4 : (q.kind == 4) = false := by simp [hk]
    have e1 : (t.name.toList == t.name.toList) = true := by simp
    have e2 : (t.kind == t.kind) = true := by simp
    have h1 := hE q.e t he
    have h2 := hO x t hty
    refine ACalls.enter (mu := []) ok_mix Tryd.func40 rfl (by kernel_rfl) (by kernel_rfl) (by simp only [List.length_cons, List.length_nil, Tryd.ntmps40]; omega) ?_
    (repeat (first | refine aSeq fun X hX => ?_ | refine aBlk ?_ | refine aSkip ?_ | (first | refine aExit ?_ | refine aRet ?_); try simp only [slx, ↓reduceIte, jA, reduceCtorEq] | (first | refine aReg ?_ | refine aIf ?_); simp -implicitDefEqProofs only [forall_eq, ↓slp, slb, ↓reduceIte, reduceCtorEq, jA, jB, jC, jD, jE, jF, jG, jH, jI, jJ, jK, tfTmB, c1, c2, c5, c3, c4]; try simp only [fo] | refine hX _ _ ?_; clear hX X | clear hX X; refine hX _ _ ?_; clear hX X | clear hX X; clear hX X; refine hX _ _ ?_; clear hX X | intro hlen; unfold maxLen at hlen | apply And.intro; focus (first | omega | assumption | (repeat' apply And.intro) <;> first | omega | assumption)))
    (repeat (first | refine aSeq fun X hX => ?_ | refine aBlk ?_ | refine aSkip ?_ | (first | refine aExit ?_ | refine aRet ?_); try simp only [slx, ↓reduceIte, jA, reduceCtorEq] | (first | refine aReg ?_ | refine aDrE ?_ | refine aIf ?_); simp -implicitDefEqProofs only [forall_eq, ↓slp, slb, ↓reduceIte, reduceCtorEq, jA, jB, jC, jD, jE, jF, jG, jH, jI, jJ, jK, tfTmB, hl, List.map_cons]; try simp only [fo] | refine hX _ _ ?_; clear hX X | clear hX X; refine hX _ _ ?_; clear hX X | clear hX X; clear hX X; refine hX _ _ ?_; clear hX X | intro hlen; unfold maxLen at hlen | apply And.intro; focus (first | omega | assumption | (repeat' apply And.intro) <;> first | omega | assumption)))
    refine callMS h1 (by simp only [List.map_cons, List.map_nil, PV.settle, PV.settles, Ex.settle_pv]) ?_
    rintro v mv ⟨rfl, rfl⟩
    simp -implicitDefEqProofs only [↓slp, slb, ↓reduceIte, reduceCtorEq, jA, jB, jC, jD, jE, jF, jG, jH, jI, jJ, jK, tfTmB, hl, List.map_cons]; try simp only [fo]
    refine callE h2 ?_
    simp -implicitDefEqProofs only [↓slp, slb, ↓reduceIte, reduceCtorEq, jA, jB, jC, jD, jE, jF, jG, jH, jI, jJ, jK, tfTmB, e1, e2]; try simp only [fo]
    (repeat (first | refine aSeq fun X hX => ?_ | refine aBlk ?_ | refine aSkip ?_ | (first | refine aExit ?_ | refine aRet ?_); try simp only [slx, ↓reduceIte, jA, reduceCtorEq] | (first | refine aReg ?_ | refine aDrE ?_ | refine aIf ?_); simp -implicitDefEqProofs only [forall_eq, ↓slp, slb, ↓reduceIte, reduceCtorEq, jA, jB, jC, jD, jE, jF, jG, jH, jI, jJ, jK, tfTmB, e1, e2]; try simp only [fo] | refine hX _ _ ?_; clear hX X | clear hX X; refine hX _ _ ?_; clear hX X | clear hX X; clear hX X; refine hX _ _ ?_; clear hX X | intro hlen; unfold maxLen at hlen | apply And.intro; focus (first | omega | assumption | (repeat' apply And.intro) <;> first | omega | assumption)))
    simp only [aPost, Tryd.results40, aRes_n, aRes_t, aRes_c, pack_one, pack_two]
    exact leave_same rfl ⟨rfl, rfl⟩
  · -- kind 2
    have c1 : (q.kind == 1) = false := by simp [hk]
    have c2 : (q.kind == 2) = true := by simp [hk]
    have c5 : (q.kind == 5) = false := by simp [hk]
    have c3 : (q.kind == 3) = false := by simp [hk]
    have c4 : (q.kind == 4) = false := by simp [hk]
    obtain ⟨hn1, hn2, hn3⟩ := hns.2 k hkl
    obtain ⟨v0, v1, hins, hv0, hv1⟩ : ∃ v0 v1, ns[k].ins = [v0, v1] ∧ v0.t = tyI ∧ v1.t = tyB := by
      cases h : ns[k].ins with
      | nil => rw [h] at hn2; simp at hn2
      | cons v0 r => cases r with
        | nil => rw [h] at hn2; simp at hn2
        | cons v1 r => cases r with
          | cons => rw [h] at hn2; simp at hn2
          | nil => rw [h] at hn2; simp only [List.map_cons, List.map_nil, List.cons.injEq] at hn2; exact ⟨v0, v1, rfl, hn2.1, hn2.2.1⟩
    obtain ⟨w0, w1, hout, hw0, hw1⟩ : ∃ v0 v1, ns[k].outs = [v0, v1] ∧ v0.t = tyI ∧ v1.t = tyC := by
      cases h : ns[k].outs with
      | nil => rw [h] at hn3; simp at hn3
      | cons v0 r => cases r with
        | nil => rw [h] at hn3; simp at hn3
        | cons v1 r => cases r with
          | cons => rw [h] at hn3; simp at hn3
          | nil => rw [h] at hn3; simp only [List.map_cons, List.map_nil, List.cons.injEq] at hn3; exact ⟨v0, v1, rfl, hn3.1, hn3.2.1⟩
    have h0 := fun m => findNode_ty [.ag colC] hns hkl m
    have hT := fun (e : Ex) (t : Ty) (h : HasT E e t) m => typed_any ns h m
    have hO := fun (s : Str) (t : Ty) (h : TyOf E s t) m => of_ty h m
    unfold lkP colC at hT
    unfold colC at h0
    simp only [Ty.pv] at hT hO
    have hta := hT a tyI hea
    have htb := hT b tyB heb
    have hth := fun h => hT q.e tyB (hhas h)
    have hox := hO x tyI htx
    have hoy := hO y tyC hty
    simp only [tyI, tyB, tyC] at hta htb hth hox hoy hv0 hv1 hw0 hw1
    have g0 := getD_map No.pv ns k hkl
    generalize hn : ns[k] = n at *
    refine ACalls.enter (mu := [7]) ok_mix Tryd.func40 rfl (by kernel_rfl) (by kernel_rfl) (by simp only [List.length_cons, List.length_nil, Tryd.ntmps40]; omega) ?_
    (repeat (first | refine aSeq fun X hX => ?_ | refine aBlk ?_ | refine aSkip ?_ | (first | refine aExit ?_ | refine aRet ?_); try simp only [slx, ↓reduceIte, jA, reduceCtorEq] | (first | refine aReg ?_ | refine aIf ?_); simp -implicitDefEqProofs only [forall_eq, ↓slp, slb, ↓reduceIte, reduceCtorEq, jA, jB, jC, jD, jE, jF, jG, jH, jI, jJ, jK, tfTmB, c1, c2, c5, c3, c4]; try simp only [fo] | refine hX _ _ ?_; clear hX X | clear hX X; refine hX _ _ ?_; clear hX X | clear hX X; clear hX X; refine hX _ _ ?_; clear hX X | intro hlen; unfold maxLen at hlen | apply And.intro; focus (first | omega | assumption | (repeat' apply And.intro) <;> first | omega | assumption)))
    obtain ⟨ms, hms⟩ : ∃ ms, m.ext [some n.cs] = ms := ⟨_, rfl⟩
    have hgm : ms.get m.nb = some n.cs := by rw [← hms]; exact ext_get (i := 0) rfl
    have join : ∀ (f : F), f 1 = .sl .no (E.map Va.pv) → f 3 = .ep [.ep [.sl .no [.ag [.v (.string sCol), .sl .no [pS sRed, pS sGreen, pS sBlue], .v (.int .i64 0), .v (.int .i64 0)]], .sl .no (ns.map No.pv)]] → f 5 = .ep q.cs → f 6 = .ep [.v (.int .u8 1), .v (.string ⟨#[]⟩)] → f 7 = .bp m.nb 0 → X f ms := by
      intro f f1 f3 f5 f6 f7
      refine hX _ _ ?_
      clear hX
      (repeat (first | refine aSeq fun X hX => ?_ | refine aBlk ?_ | refine aSkip ?_ | (first | refine aExit ?_ | refine aRet ?_); try simp only [slx, ↓reduceIte, jA, reduceCtorEq] | (first | refine aReg ?_ | refine aIf ?_); simp -implicitDefEqProofs only [forall_eq, ↓slp, slb, ↓reduceIte, reduceCtorEq, jA, jB, jC, jD, jE, jF, jG, jH, jI, jJ, jK, tfTmB, f1, f3, f5, f6, f7, hgm, hins, hout, ha, hl, List.map_cons, List.map_nil, List.length_cons, List.length_nil, pI, pS]; try simp only [fo] | refine hX _ _ ?_; clear hX X | clear hX X; refine hX _ _ ?_; clear hX X | clear hX X; clear hX X; refine hX _ _ ?_; clear hX X | intro hlen; unfold maxLen at hlen | apply And.intro; focus (first | omega | assumption | (repeat' apply And.intro) <;> first | omega | assumption)))
      obtain ⟨I, hI⟩ : ∃ I : F → M → Prop, ∀ f m', I f m' = (∃ j : Nat, j ≤ 2 ∧ f 1 = .sl .no (E.map Va.pv) ∧ f 3 = .ep [.ep [.sl .no [.ag [.v (.string sCol), .sl .no [pS sRed, pS sGreen, pS sBlue], .v (.int .i64 0), .v (.int .i64 0)]], .sl .no (ns.map No.pv)]] ∧ f 5 = .ep q.cs ∧ f 6 = .ep [.v (.int .u8 1), .v (.string ⟨#[]⟩)] ∧ f 7 = .bp m.nb 0 ∧ f 70 = .sl .no [a.pv, b.pv] ∧ f 71 = pI 2 ∧ f 72 = pI j ∧ ms = m') := ⟨_, fun _ _ => rfl⟩
      refine aLoop I (fun f m => 2 - numOf (f 72)) ?_ ?_
      · rw [hI]
        refine ⟨0, by omega, f1, f3, f5, f6, f7, ?_, ?_, ?_, ?_⟩ <;> rfl
      clear f1 f3 f5 f6 f7
      intro f m' hrel
      rw [hI] at hrel
      obtain ⟨j, hj, f1, f3, f5, f6, f7, f70, f71, f72, rfl⟩ := hrel
      by_cases hj2 : j = 2
      · subst hj2
        have d1 : decide (((2 : Nat) : Int) < 2) = false := rfl
        (repeat (first | refine aSeq fun X hX => ?_ | refine aBlk ?_ | refine aSkip ?_ | (first | refine aExit ?_ | refine aRet ?_); try simp only [slx, ↓reduceIte, jA, reduceCtorEq] | (first | refine aReg ?_ | refine aIf ?_); simp -implicitDefEqProofs only [forall_eq, ↓slp, slb, ↓reduceIte, reduceCtorEq, jA, jB, jC, jD, jE, jF, jG, jH, jI, jJ, jK, tfTmB, f70, f71, f72, d1, f1, f3, f5, f6, f7, hgm, hins, hout, ha, hl, List.map_cons, List.map_nil, List.length_cons, List.length_nil, pI, pS]; try simp only [fo] | refine hX _ _ ?_; clear hX X | clear hX X; refine hX _ _ ?_; clear hX X | clear hX X; clear hX X; refine hX _ _ ?_; clear hX X | intro hlen; unfold maxLen at hlen | apply And.intro; focus (first | omega | assumption | (repeat' apply And.intro) <;> first | omega | assumption)))
        obtain ⟨J, hJ⟩ : ∃ J : F → M → Prop, ∀ f m', J f m' = (∃ j : Nat, j ≤ 2 ∧ f 1 = .sl .no (E.map Va.pv) ∧ f 3 = .ep [.ep [.sl .no [.ag [.v (.string sCol), .sl .no [pS sRed, pS sGreen, pS sBlue], .v (.int .i64 0), .v (.int .i64 0)]], .sl .no (ns.map No.pv)]] ∧ f 5 = .ep q.cs ∧ f 6 = .ep [.v (.int .u8 1), .v (.string ⟨#[]⟩)] ∧ f 7 = .bp m.nb 0 ∧ f 89 = .sl .no [pS x, pS y] ∧ f 90 = pI 2 ∧ f 91 = pI j ∧ ms = m') := ⟨_, fun _ _ => rfl⟩
        refine aLoop J (fun f m => 2 - numOf (f 91)) ?_ ?_
        · rw [hJ]
          refine ⟨0, by omega, f1, f3, f5, f6, f7, ?_, ?_, ?_, ?_⟩ <;> rfl
        clear f1 f3 f5 f6 f7
        intro f m' hrel
        rw [hJ] at hrel
        obtain ⟨j, hj, f1, f3, f5, f6, f7, f89, f90, f91, rfl⟩ := hrel
        by_cases hj2 : j = 2
        · subst hj2
          have d1 : decide (((2 : Nat) : Int) < 2) = false := rfl
          cases hh : q.has with
          | false =>
            (repeat (first | refine aSeq fun X hX => ?_ | refine aBlk ?_ | refine aSkip ?_ | (first | refine aExit ?_ | refine aRet ?_); try simp only [slx, ↓reduceIte, jA, reduceCtorEq] | (first | refine aReg ?_ | refine aIf ?_); simp -implicitDefEqProofs only [forall_eq, ↓slp, slb, ↓reduceIte, reduceCtorEq, jA, jB, jC, jD, jE, jF, jG, jH, jI, jJ, jK, tfTmB, f89, f90, f91, d1, hh, f1, f3, f5, f6, f7]; try simp only [fo] | refine hX _ _ ?_; clear hX X | clear hX X; refine hX _ _ ?_; clear hX X | clear hX X; clear hX X; refine hX _ _ ?_; clear hX X | intro hlen; unfold maxLen at hlen | apply And.intro; focus (first | omega | assumption | (repeat' apply And.intro) <;> first | omega | assumption)))
            simp only [aPost, Tryd.results40, aRes_n, aRes_t, aRes_c, pack_one, pack_two]
            rw [← hms]
            exact leave_ext rfl ⟨rfl, rfl⟩
          | true =>
            (repeat (first | refine aSeq fun X hX => ?_ | refine aBlk ?_ | refine aSkip ?_ | (first | refine aExit ?_ | refine aRet ?_); try simp only [slx, ↓reduceIte, jA, reduceCtorEq] | (first | refine aReg ?_ | refine aIf ?_); simp -implicitDefEqProofs only [forall_eq, ↓slp, slb, ↓reduceIte, reduceCtorEq, jA, jB, jC, jD, jE, jF, jG, jH, jI, jJ, jK, tfTmB, f89, f90, f91, d1, hh, f1, f3, f5, f6, f7]; try simp only [fo] | refine hX _ _ ?_; clear hX X | clear hX X; refine hX _ _ ?_; clear hX X | clear hX X; clear hX X; refine hX _ _ ?_; clear hX X | intro hlen; unfold maxLen at hlen | apply And.intro; focus (first | omega | assumption | (repeat' apply And.intro) <;> first | omega | assumption)))
            refine callMS (hth hh ms) (by simp only [List.map_cons, List.map_nil, PV.settle, PV.settles, Ex.settle_pv]) ?_
            rintro v mv ⟨rfl, hmv⟩
            subst hmv
            simp -implicitDefEqProofs only [↓slp, slb, ↓reduceIte, reduceCtorEq, jA, jB, jC, jD, jE, jF, jG, jH, jI, jJ, jK, tfTmB]; try simp only [fo]
            (repeat (first | refine aSeq fun X hX => ?_ | refine aBlk ?_ | refine aSkip ?_ | (first | refine aExit ?_ | refine aRet ?_); try simp only [slx, ↓reduceIte, jA, reduceCtorEq] | (first | refine aReg ?_ | refine aIf ?_); simp -implicitDefEqProofs only [forall_eq, ↓slp, slb, ↓reduceIte, reduceCtorEq, jA, jB, jC, jD, jE, jF, jG, jH, jI, jJ, jK, tfTmB]; try simp only [fo] | refine hX _ _ ?_; clear hX X | clear hX X; refine hX _ _ ?_; clear hX X | clear hX X; clear hX X; refine hX _ _ ?_; clear hX X | intro hlen; unfold maxLen at hlen | apply And.intro; focus (first | omega | assumption | (repeat' apply And.intro) <;> first | omega | assumption)))
            simp only [aPost, Tryd.results40, aRes_n, aRes_t, aRes_c, pack_one, pack_two]
            rw [← hms]
            exact leave_ext rfl ⟨rfl, rfl⟩
        have : j = 0 ∨ j = 1 := by omega
        rcases this with rfl | rfl
        · have hi : IntKind.i64.wrap (((0 : Nat) : Int) + 1) = ((0 + 1 : Nat) : Int) := by rw [wrap64 (by omega)]; omega
          have d1 : decide (((0 : Nat) : Int) < 2) = true := rfl
          have hme : numOf (f 91) = 0 := by rw [f91]; rfl
          (repeat (first | refine aSeq fun X hX => ?_ | refine aBlk ?_ | refine aSkip ?_ | (first | refine aExit ?_ | refine aRet ?_); try simp only [slx, ↓reduceIte, jA, reduceCtorEq] | (first | refine aReg ?_ | refine aIf ?_); simp -implicitDefEqProofs only [forall_eq, ↓slp, slb, ↓reduceIte, reduceCtorEq, jA, jB, jC, jD, jE, jF, jG, jH, jI, jJ, jK, tfTmB, f89, f90, f91, d1, f1, f3, f5, f6, f7, hgm, hins, hout, ha, hl, List.map_cons, List.map_nil, List.length_cons, List.length_nil, pI, pS]; try simp only [fo] | refine hX _ _ ?_; clear hX X | clear hX X; refine hX _ _ ?_; clear hX X | clear hX X; clear hX X; refine hX _ _ ?_; clear hX X | intro hlen; unfold maxLen at hlen | apply And.intro; focus (first | omega | assumption | (repeat' apply And.intro) <;> first | omega | assumption)))
          (repeat (first | refine aSeq fun X hX => ?_ | refine aBlk ?_ | refine aSkip ?_ | (first | refine aExit ?_ | refine aRet ?_); try simp only [slx, ↓reduceIte, jA, reduceCtorEq] | (first | refine aReg ?_ | refine aDrE ?_ | refine aIf ?_); simp -implicitDefEqProofs only [forall_eq, ↓slp, slb, ↓reduceIte, reduceCtorEq, jA, jB, jC, jD, jE, jF, jG, jH, jI, jJ, jK, tfTmB, f89, f90, f91, d1, hw0, hw1, f1, f3, f5, f6, f7, hgm, hins, hout, ha, hl, List.map_cons, List.map_nil, List.length_cons, List.length_nil, pI, pS]; try simp only [fo] | refine hX _ _ ?_; clear hX X | clear hX X; refine hX _ _ ?_; clear hX X | clear hX X; clear hX X; refine hX _ _ ?_; clear hX X | intro hlen; unfold maxLen at hlen | apply And.intro; focus (first | omega | assumption | (repeat' apply And.intro) <;> first | omega | assumption)))
          refine callE (hox ms) ?_
          simp -implicitDefEqProofs only [↓slp, slb, ↓reduceIte, reduceCtorEq, jA, jB, jC, jD, jE, jF, jG, jH, jI, jJ, jK, tfTmB, f89, f90, f91, d1, hw0, hw1, f1, f3, f5, f6, f7, hgm, hins, hout, ha, hl, List.map_cons, List.map_nil, List.length_cons, List.length_nil, pI, pS]; try simp only [fo]
          (repeat (first | refine aSeq fun X hX => ?_ | refine aBlk ?_ | refine aSkip ?_ | (first | refine aExit ?_ | refine aRet ?_); try simp only [slx, ↓reduceIte, jA, reduceCtorEq] | (first | refine aReg ?_ | refine aIf ?_); simp -implicitDefEqProofs only [forall_eq, ↓slp, slb, ↓reduceIte, reduceCtorEq, jA, jB, jC, jD, jE, jF, jG, jH, jI, jJ, jK, tfTmB, f91, hi, f1, f3, f5, f6, f7, hgm, hins, hout, ha, hl, List.map_cons, List.map_nil, List.length_cons, List.length_nil, pI, pS]; try simp only [fo] | refine hX _ _ ?_; clear hX X | clear hX X; refine hX _ _ ?_; clear hX X | clear hX X; clear hX X; refine hX _ _ ?_; clear hX X | intro hlen; unfold maxLen at hlen | apply And.intro; focus (first | omega | assumption | (repeat' apply And.intro) <;> first | omega | assumption)))
          rw [hJ]
          first | exact ⟨0 + 1, by omega, f1, f3, f5, f6, f7, f89, f90, rfl, rfl⟩ | exact ⟨⟨0 + 1, by omega, f1, f3, f5, f6, f7, f89, f90, rfl, rfl⟩, by omega⟩
        · have hi : IntKind.i64.wrap (((1 : Nat) : Int) + 1) = ((1 + 1 : Nat) : Int) := by rw [wrap64 (by omega)]; omega
          have d1 : decide (((1 : Nat) : Int) < 2) = true := rfl
          have hme : numOf (f 91) = 1 := by rw [f91]; rfl
          (repeat (first | refine aSeq fun X hX => ?_ | refine aBlk ?_ | refine aSkip ?_ | (first | refine aExit ?_ | refine aRet ?_); try simp only [slx, ↓reduceIte, jA, reduceCtorEq] | (first | refine aReg ?_ | refine aIf ?_); simp -implicitDefEqProofs only [forall_eq, ↓slp, slb, ↓reduceIte, reduceCtorEq, jA, jB, jC, jD, jE, jF, jG, jH, jI, jJ, jK, tfTmB, f89, f90, f91, d1, f1, f3, f5, f6, f7, hgm, hins, hout, ha, hl, List.map_cons, List.map_nil, List.length_cons, List.length_nil, pI, pS]; try simp only [fo] | refine hX _ _ ?_; clear hX X | clear hX X; refine hX _ _ ?_; clear hX X | clear hX X; clear hX X; refine hX _ _ ?_; clear hX X | intro hlen; unfold maxLen at hlen | apply And.intro; focus (first | omega | assumption | (repeat' apply And.intro) <;> first | omega | assumption)))
          (repeat (first | refine aSeq fun X hX => ?_ | refine aBlk ?_ | refine aSkip ?_ | (first | refine aExit ?_ | refine aRet ?_); try simp only [slx, ↓reduceIte, jA, reduceCtorEq] | (first | refine aReg ?_ | refine aDrE ?_ | refine aIf ?_); simp -implicitDefEqProofs only [forall_eq, ↓slp, slb, ↓reduceIte, reduceCtorEq, jA, jB, jC, jD, jE, jF, jG, jH, jI, jJ, jK, tfTmB, f89, f90, f91, d1, hw0, hw1, f1, f3, f5, f6, f7, hgm, hins, hout, ha, hl, List.map_cons, List.map_nil, List.length_cons, List.length_nil, pI, pS]; try simp only [fo] | refine hX _ _ ?_; clear hX X | clear hX X; refine hX _ _ ?_; clear hX X | clear hX X; clear hX X; refine hX _ _ ?_; clear hX X | intro hlen; unfold maxLen at hlen | apply And.intro; focus (first | omega | assumption | (repeat' apply And.intro) <;> first | omega | assumption)))
          refine callE (hoy ms) ?_
          simp -implicitDefEqProofs only [↓slp, slb, ↓reduceIte, reduceCtorEq, jA, jB, jC, jD, jE, jF, jG, jH, jI, jJ, jK, tfTmB, f89, f90, f91, d1, hw0, hw1, f1, f3, f5, f6, f7, hgm, hins, hout, ha, hl, List.map_cons, List.map_nil, List.length_cons, List.length_nil, pI, pS]; try simp only [fo]
          (repeat (first | refine aSeq fun X hX => ?_ | refine aBlk ?_ | refine aSkip ?_ | (first | refine aExit ?_ | refine aRet ?_); try simp only [slx, ↓reduceIte, jA, reduceCtorEq] | (first | refine aReg ?_ | refine aIf ?_); simp -implicitDefEqProofs only [forall_eq, ↓slp, slb, ↓reduceIte, reduceCtorEq, jA, jB, jC, jD, jE, jF, jG, jH, jI, jJ, jK, tfTmB, f91, hi, f1, f3, f5, f6, f7, hgm, hins, hout, ha, hl, List.map_cons, List.map_nil, List.length_cons, List.length_nil, pI, pS]; try simp only [fo] | refine hX _ _ ?_; clear hX X | clear hX X; refine hX _ _ ?_; clear hX X | clear hX X; clear hX X; refine hX _ _ ?_; clear hX X | intro hlen; unfold maxLen at hlen | apply And.intro; focus (first | omega | assumption | (repeat' apply And.intro) <;> first | omega | assumption)))
          rw [hJ]
          first | exact ⟨1 + 1, by omega, f1, f3, f5, f6, f7, f89, f90, rfl, rfl⟩ | exact ⟨⟨1 + 1, by omega, f1, f3, f5, f6, f7, f89, f90, rfl, rfl⟩, by omega⟩
      have : j = 0 ∨ j = 1 := by omega
      rcases this with rfl | rfl
      · have hi : IntKind.i64.wrap (((0 : Nat) : Int) + 1) = ((0 + 1 : Nat) : Int) := by rw [wrap64 (by omega)]; omega
        have d1 : decide (((0 : Nat) : Int) < 2) = true := rfl
        have hme : numOf (f 72) = 0 := by rw [f72]; rfl
        (repeat (first | refine aSeq fun X hX => ?_ | refine aBlk ?_ | refine aSkip ?_ | (first | refine aExit ?_ | refine aRet ?_); try simp only [slx, ↓reduceIte, jA, reduceCtorEq] | (first | refine aReg ?_ | refine aIf ?_); simp -implicitDefEqProofs only [forall_eq, ↓slp, slb, ↓reduceIte, reduceCtorEq, jA, jB, jC, jD, jE, jF, jG, jH, jI, jJ, jK, tfTmB, f70, f71, f72, d1, f1, f3, f5, f6, f7, hgm, hins, hout, ha, hl, List.map_cons, List.map_nil, List.length_cons, List.length_nil, pI, pS]; try simp only [fo] | refine hX _ _ ?_; clear hX X | clear hX X; refine hX _ _ ?_; clear hX X | clear hX X; clear hX X; refine hX _ _ ?_; clear hX X | intro hlen; unfold maxLen at hlen | apply And.intro; focus (first | omega | assumption | (repeat' apply And.intro) <;> first | omega | assumption)))
        (repeat (first | refine aSeq fun X hX => ?_ | refine aBlk ?_ | refine aSkip ?_ | (first | refine aExit ?_ | refine aRet ?_); try simp only [slx, ↓reduceIte, jA, reduceCtorEq] | (first | refine aReg ?_ | refine aDrE ?_ | refine aIf ?_); simp -implicitDefEqProofs only [forall_eq, ↓slp, slb, ↓reduceIte, reduceCtorEq, jA, jB, jC, jD, jE, jF, jG, jH, jI, jJ, jK, tfTmB, f70, f71, f72, d1, hv0, hv1, f1, f3, f5, f6, f7, hgm, hins, hout, ha, hl, List.map_cons, List.map_nil, List.length_cons, List.length_nil, pI, pS]; try simp only [fo] | refine hX _ _ ?_; clear hX X | clear hX X; refine hX _ _ ?_; clear hX X | clear hX X; clear hX X; refine hX _ _ ?_; clear hX X | intro hlen; unfold maxLen at hlen | apply And.intro; focus (first | omega | assumption | (repeat' apply And.intro) <;> first | omega | assumption)))
        refine callMS (hta ms) (by simp only [pS, List.map_cons, List.map_nil, PV.settle, PV.settles, Ex.settle_pv]) ?_
        rintro v mv ⟨rfl, hmv⟩
        subst hmv
        simp -implicitDefEqProofs only [↓slp, slb, ↓reduceIte, reduceCtorEq, jA, jB, jC, jD, jE, jF, jG, jH, jI, jJ, jK, tfTmB]; try simp only [fo]
        (repeat (first | refine aSeq fun X hX => ?_ | refine aBlk ?_ | refine aSkip ?_ | (first | refine aExit ?_ | refine aRet ?_); try simp only [slx, ↓reduceIte, jA, reduceCtorEq] | (first | refine aReg ?_ | refine aIf ?_); simp -implicitDefEqProofs only [forall_eq, ↓slp, slb, ↓reduceIte, reduceCtorEq, jA, jB, jC, jD, jE, jF, jG, jH, jI, jJ, jK, tfTmB, f72, pI, hi]; try simp only [fo] | refine hX _ _ ?_; clear hX X | clear hX X; refine hX _ _ ?_; clear hX X | clear hX X; clear hX X; refine hX _ _ ?_; clear hX X | intro hlen; unfold maxLen at hlen | apply And.intro; focus (first | omega | assumption | (repeat' apply And.intro) <;> first | omega | assumption)))
        rw [hI]
        first | exact ⟨0 + 1, by omega, f1, f3, f5, f6, f7, f70, f71, rfl, rfl⟩ | exact ⟨⟨0 + 1, by omega, f1, f3, f5, f6, f7, f70, f71, rfl, rfl⟩, by omega⟩
      · have hi : IntKind.i64.wrap (((1 : Nat) : Int) + 1) = ((1 + 1 : Nat) : Int) := by rw [wrap64 (by omega)]; omega
        have d1 : decide (((1 : Nat) : Int) < 2) = true := rfl
        have hme : numOf (f 72) = 1 := by rw [f72]; rfl
        (repeat (first | refine aSeq fun X hX => ?_ | refine aBlk ?_ | refine aSkip ?_ | (first | refine aExit ?_ | refine aRet ?_); try simp only [slx, ↓reduceIte, jA, reduceCtorEq] | (first | refine aReg ?_ | refine aIf ?_); simp -implicitDefEqProofs only [forall_eq, ↓slp, slb, ↓reduceIte, reduceCtorEq, jA, jB, jC, jD, jE, jF, jG, jH, jI, jJ, jK, tfTmB, f70, f71, f72, d1, f1, f3, f5, f6, f7, hgm, hins, hout, ha, hl, List.map_cons, List.map_nil, List.length_cons, List.length_nil, pI, pS]; try simp only [fo] | refine hX _ _ ?_; clear hX X | clear hX X; refine hX _ _ ?_; clear hX X | clear hX X; clear hX X; refine hX _ _ ?_; clear hX X | intro hlen; unfold maxLen at hlen | apply And.intro; focus (first | omega | assumption | (repeat' apply And.intro) <;> first | omega | assumption)))
        (repeat (first | refine aSeq fun X hX => ?_ | refine aBlk ?_ | refine aSkip ?_ | (first | refine aExit ?_ | refine aRet ?_); try simp only [slx, ↓reduceIte, jA, reduceCtorEq] | (first | refine aReg ?_ | refine aDrE ?_ | refine aIf ?_); simp -implicitDefEqProofs only [forall_eq, ↓slp, slb, ↓reduceIte, reduceCtorEq, jA, jB, jC, jD, jE, jF, jG, jH, jI, jJ, jK, tfTmB, f70, f71, f72, d1, hv0, hv1, f1, f3, f5, f6, f7, hgm, hins, hout, ha, hl, List.map_cons, List.map_nil, List.length_cons, List.length_nil, pI, pS]; try simp only [fo] | refine hX _ _ ?_; clear hX X | clear hX X; refine hX _ _ ?_; clear hX X | clear hX X; clear hX X; refine hX _ _ ?_; clear hX X | intro hlen; unfold maxLen at hlen | apply And.intro; focus (first | omega | assumption | (repeat' apply And.intro) <;> first | omega | assumption)))
        refine callMS (htb ms) (by simp only [pS, List.map_cons, List.map_nil, PV.settle, PV.settles, Ex.settle_pv]) ?_
        rintro v mv ⟨rfl, hmv⟩
        subst hmv
        simp -implicitDefEqProofs only [↓slp, slb, ↓reduceIte, reduceCtorEq, jA, jB, jC, jD, jE, jF, jG, jH, jI, jJ, jK, tfTmB]; try simp only [fo]
        (repeat (first | refine aSeq fun X hX => ?_ | refine aBlk ?_ | refine aSkip ?_ | (first | refine aExit ?_ | refine aRet ?_); try simp only [slx, ↓reduceIte, jA, reduceCtorEq] | (first | refine aReg ?_ | refine aIf ?_); simp -implicitDefEqProofs only [forall_eq, ↓slp, slb, ↓reduceIte, reduceCtorEq, jA, jB, jC, jD, jE, jF, jG, jH, jI, jJ, jK, tfTmB, f72, pI, hi]; try simp only [fo] | refine hX _ _ ?_; clear hX X | clear hX X; refine hX _ _ ?_; clear hX X | clear hX X; clear hX X; refine hX _ _ ?_; clear hX X | intro hlen; unfold maxLen at hlen | apply And.intro; focus (first | omega | assumption | (repeat' apply And.intro) <;> first | omega | assumption)))
        rw [hI]
        first | exact ⟨1 + 1, by omega, f1, f3, f5, f6, f7, f70, f71, rfl, rfl⟩ | exact ⟨⟨1 + 1, by omega, f1, f3, f5, f6, f7, f70, f71, rfl, rfl⟩, by omega⟩
    clear hX
    refine aFltN 14 (fun _ => True) (by simp only [List.length_cons, List.length_nil]; omega) (by kernel_rfl) trivial ?_
    simp -implicitDefEqProofs only [↓slp, slb, ↓reduceIte, reduceCtorEq, jA, jB, jC, jD, jE, jF, jG, jH, jI, jJ, jK, tfTmB, hnm, List.getElem_cons_succ, List.getElem_cons_zero, List.getLast_cons_cons, List.getLast_singleton, List.dropLast_cons_cons, List.dropLast_singleton]; try simp only [fo]
    refine ⟨?_, ?_⟩
    · refine callE (h0 _) ?_
      refine ⟨trivial, ?_⟩
      simp -implicitDefEqProofs only [↓slp, slb, ↓reduceIte, reduceCtorEq, jA, jB, jC, jD, jE, jF, jG, jH, jI, jJ, jK, tfTmB, pI, g0, hkl, List.getElem_cons_succ, List.getElem_cons_zero, List.getLast_cons_cons, List.getLast_singleton, List.dropLast_cons_cons, List.dropLast_singleton]; try simp only [fo]
      show X _ (m.ext [some n.cs])
      rw [hms]
      exact join _ rfl rfl (by rw [Qu.cs, hnm]; rfl) rfl rfl
    · refine callE (h0 _) ?_
      refine ⟨trivial, ?_⟩
      simp -implicitDefEqProofs only [↓slp, slb, ↓reduceIte, reduceCtorEq, jA, jB, jC, jD, jE, jF, jG, jH, jI, jJ, jK, tfTmB, pI, g0, hkl, List.getElem_cons_succ, List.getElem_cons_zero, List.getLast_cons_cons, List.getLast_singleton, List.dropLast_cons_cons, List.dropLast_singleton]; try simp only [fo]
      show X _ (m.ext [some n.cs])
      rw [hms]
      exact join _ rfl rfl (by rw [Qu.cs, hnm]; rfl) rfl rfl
  · -- kind 5
    have c1 : (q.kind == 1) = false := by simp [hk]
    have c2 : (q.kind == 2) = false := by simp [hk]
    have c5 : (q.kind == 5) = true := by simp [hk]
    have c3 : (q.kind == 3) = false := by simp [hk]
    have c4 : (q.kind == 4) = false := by simp [hk]
    have h2 := hT q.e tyB he
    have h1 := hB _ _ ha _ (.inl rfl)
    simp only [tyB] at h2
    refine ACalls.enter (mu := []) ok_mix Tryd.func40 rfl (by kernel_rfl) (by kernel_rfl) (by simp only [List.length_cons, List.length_nil, Tryd.ntmps40]; omega) ?_
    (repeat (first | refine aSeq fun X hX => ?_ | refine aBlk ?_ | refine aSkip ?_ | (first | refine aExit ?_ | refine aRet ?_); try simp only [slx, ↓reduceIte, jA, reduceCtorEq] | (first | refine aReg ?_ | refine aIf ?_); simp -implicitDefEqProofs only [forall_eq, ↓slp, slb, ↓reduceIte, reduceCtorEq, jA, jB, jC, jD, jE, jF, jG, jH, jI, jJ, jK, tfTmB, c1, c2, c5, c3, c4, har]; try simp only [fo] | refine hX _ _ ?_; clear hX X | clear hX X; refine hX _ _ ?_; clear hX X | clear hX X; clear hX X; refine hX _ _ ?_; clear hX X | intro hlen; unfold maxLen at hlen | apply And.intro; focus (first | omega | assumption | (repeat' apply And.intro) <;> first | omega | assumption)))
    (repeat (first | refine aSeq fun X hX => ?_ | refine aBlk ?_ | refine aSkip ?_ | (first | refine aExit ?_ | refine aRet ?_); try simp only [slx, ↓reduceIte, jA, reduceCtorEq] | (first | refine aReg ?_ | refine aDrE ?_ | refine aIf ?_); simp -implicitDefEqProofs only [forall_eq, ↓slp, slb, ↓reduceIte, reduceCtorEq, jA, jB, jC, jD, jE, jF, jG, jH, jI, jJ, jK, tfTmB, hnf, har]; try simp only [fo] | refine hX _ _ ?_; clear hX X | clear hX X; refine hX _ _ ?_; clear hX X | clear hX X; clear hX X; refine hX _ _ ?_; clear hX X | intro hlen; unfold maxLen at hlen | apply And.intro; focus (first | omega | assumption | (repeat' apply And.intro) <;> first | omega | assumption)))
    refine callE h1 ?_
    simp -implicitDefEqProofs only [↓slp, slb, ↓reduceIte, reduceCtorEq, jA, jB, jC, jD, jE, jF, jG, jH, jI, jJ, jK, tfTmB]; try simp only [fo]
    (repeat (first | refine aSeq fun X hX => ?_ | refine aBlk ?_ | refine aSkip ?_ | (first | refine aExit ?_ | refine aRet ?_); try simp only [slx, ↓reduceIte, jA, reduceCtorEq] | (first | refine aReg ?_ | refine aIf ?_); simp -implicitDefEqProofs only [forall_eq, ↓slp, slb, ↓reduceIte, reduceCtorEq, jA, jB, jC, jD, jE, jF, jG, jH, jI, jJ, jK, tfTmB]; try simp only [fo] | refine hX _ _ ?_; clear hX X | clear hX X; refine hX _ _ ?_; clear hX X | clear hX X; clear hX X; refine hX _ _ ?_; clear hX X | intro hlen; unfold maxLen at hlen | apply And.intro; focus (first | omega | assumption | (repeat' apply And.intro) <;> first | omega | assumption)))
    refine callMS h2 (by simp only [List.map_cons, List.map_nil, PV.settle, PV.settles, Ex.settle_pv]) ?_
    rintro v mv ⟨rfl, rfl⟩
    simp -implicitDefEqProofs only [↓slp, slb, ↓reduceIte, reduceCtorEq, jA, jB, jC, jD, jE, jF, jG, jH, jI, jJ, jK, tfTmB]; try simp only [fo]
    (repeat (first | refine aSeq fun X hX => ?_ | refine aBlk ?_ | refine aSkip ?_ | (first | refine aExit ?_ | refine aRet ?_); try simp only [slx, ↓reduceIte, jA, reduceCtorEq] | (first | refine aReg ?_ | refine aIf ?_); simp -implicitDefEqProofs only [forall_eq, ↓slp, slb, ↓reduceIte, reduceCtorEq, jA, jB, jC, jD, jE, jF, jG, jH, jI, jJ, jK, tfTmB]; try simp only [fo] | refine hX _ _ ?_; clear hX X | clear hX X; refine hX _ _ ?_; clear hX X | clear hX X; clear hX X; refine hX _ _ ?_; clear hX X | intro hlen; unfold maxLen at hlen | apply And.intro; focus (first | omega | assumption | (repeat' apply And.intro) <;> first | omega | assumption)))
    simp only [aPost, Tryd.results40, aRes_n, aRes_t, aRes_c, pack_one, pack_two]
    exact leave_same rfl ⟨rfl, rfl⟩
  · -- kind 3
    have c1 : (q.kind == 1) = false := by simp [hk]
    have c2 : (q.kind == 2) = false := by simp [hk]
    have c5 : (q.kind == 5) = false := by simp [hk]
    have c3 : (q.kind == 3) = true := by simp [hk]
    have c4 : (q.kind == 4) = false := by simp [hk]
    have h1 := hC t ht he (fun a h => hPB _ _ _ (ha a h))
    refine ACalls.enter (mu := []) ok_mix Tryd.func40 rfl (by kernel_rfl) (by kernel_rfl) (by simp only [List.length_cons, List.length_nil, Tryd.ntmps40]; omega) ?_
    (repeat (first | refine aSeq fun X hX => ?_ | refine aBlk ?_ | refine aSkip ?_ | (first | refine aExit ?_ | refine aRet ?_); try simp only [slx, ↓reduceIte, jA, reduceCtorEq] | (first | refine aReg ?_ | refine aIf ?_); simp -implicitDefEqProofs only [forall_eq, ↓slp, slb, ↓reduceIte, reduceCtorEq, jA, jB, jC, jD, jE, jF, jG, jH, jI, jJ, jK, tfTmB, c1, c2, c5, c3, c4]; try simp only [fo] | refine hX _ _ ?_; clear hX X | clear hX X; refine hX _ _ ?_; clear hX X | clear hX X; clear hX X; refine hX _ _ ?_; clear hX X | intro hlen; unfold maxLen at hlen | apply And.intro; focus (first | omega | assumption | (repeat' apply And.intro) <;> first | omega | assumption)))
    refine callMS h1 (by simp only [List.map_cons, List.map_nil, PV.settle, PV.settles, Qu.cs]) ?_
    rintro v mc ⟨rfl, rfl⟩
    simp -implicitDefEqProofs only [↓slp, slb, ↓reduceIte, reduceCtorEq, jA, jB, jC, jD, jE, jF, jG, jH, jI, jJ, jK, tfTmB]; try simp only [fo]
    (repeat (first | refine aSeq fun X hX => ?_ | refine aBlk ?_ | refine aSkip ?_ | (first | refine aExit ?_ | refine aRet ?_); try simp only [slx, ↓reduceIte, jA, reduceCtorEq] | (first | refine aReg ?_ | refine aIf ?_); simp -implicitDefEqProofs only [forall_eq, ↓slp, slb, ↓reduceIte, reduceCtorEq, jA, jB, jC, jD, jE, jF, jG, jH, jI, jJ, jK, tfTmB]; try simp only [fo] | refine hX _ _ ?_; clear hX X | clear hX X; refine hX _ _ ?_; clear hX X | clear hX X; clear hX X; refine hX _ _ ?_; clear hX X | intro hlen; unfold maxLen at hlen | apply And.intro; focus (first | omega | assumption | (repeat' apply And.intro) <;> first | omega | assumption)))
    simp only [aPost, Tryd.results40, aRes_n, aRes_t, aRes_c, pack_one, pack_two]
    exact leave_same rfl ⟨rfl, rfl⟩
  · -- kind 4
    have c1 : (q.kind == 1) = false := by simp [hk]
    have c2 : (q.kind == 2) = false := by simp [hk]
    have c5 : (q.kind == 5) = false := by simp [hk]
    have c3 : (q.kind == 3) = false := by simp [hk]
    have c4 : (q.kind == 4) = true := by simp [hk]
    have hBB := fun (a : Am) (ha : WyT E a.unl ∧ PB E a.vars a.eqs ∧ WyT (E ++ a.vars) a.til) => hB a.vars a.eqs ha.2.1 (.fn (.func 67) [] [.ep [.ep [.sl .no [.ag [.v (.string sCol), .sl .no [pS sRed, pS sGreen, pS sBlue], .v (.int .i64 0), .v (.int .i64 0)]], .sl .no (ns.map No.pv)]], .ep a.cs]) (.inr ⟨a, ha.2.2, rfl⟩)
    refine ACalls.enter (mu := []) ok_mix Tryd.func40 rfl (by kernel_rfl) (by kernel_rfl) (by simp only [List.length_cons, List.length_nil, Tryd.ntmps40]; omega) ?_
    (repeat (first | refine aSeq fun X hX => ?_ | refine aBlk ?_ | refine aSkip ?_ | (first | refine aExit ?_ | refine aRet ?_); try simp only [slx, ↓reduceIte, jA, reduceCtorEq] | (first | refine aReg ?_ | refine aIf ?_); simp -implicitDefEqProofs only [forall_eq, ↓slp, slb, ↓reduceIte, reduceCtorEq, jA, jB, jC, jD, jE, jF, jG, jH, jI, jJ, jK, tfTmB, c1, c2, c5, c3, c4]; try simp only [fo] | refine hX _ _ ?_; clear hX X | clear hX X; refine hX _ _ ?_; clear hX X | clear hX X; clear hX X; refine hX _ _ ?_; clear hX X | intro hlen; unfold maxLen at hlen | apply And.intro; focus (first | omega | assumption | (repeat' apply And.intro) <;> first | omega | assumption)))
    obtain ⟨I, hII⟩ : ∃ I : F → M → Prop, ∀ f m', I f m' = (∃ k : Nat, k ≤ q.arms.length ∧ f 1 = .sl .no (E.map Va.pv) ∧ f 3 = .ep [.ep [.sl .no [.ag [.v (.string sCol), .sl .no [pS sRed, pS sGreen, pS sBlue], .v (.int .i64 0), .v (.int .i64 0)]], .sl .no (ns.map No.pv)]] ∧ f 143 = .sl .no (q.arms.map Am.pv) ∧ f 144 = pI q.arms.length ∧ f 145 = pI k ∧ m = m') := ⟨_, fun _ _ => rfl⟩
    refine aLoop I (fun f m => q.arms.length - numOf (f 145)) ?_ ?_
    · rw [hII]; exact ⟨0, by omega, rfl, rfl, rfl, rfl, rfl, rfl⟩
    intro f m' hrel
    rw [hII] at hrel
    obtain ⟨k, hk', f1, f3, f143, f144, f145, rfl⟩ := hrel
    cases c6 : decide ((k : Int) < (q.arms.length : Int)) with
    | true =>
      have hlt : k < q.arms.length := by simpa using c6
      have g0 := getD_map Am.pv q.arms k hlt
      have hi : IntKind.i64.wrap ((k : Int) + 1) = ((k + 1 : Nat) : Int) := by rw [wrap64 (by omega)]; omega
      have hme : numOf (f 145) = k := by rw [f145]; exact Int.toNat_natCast k
      have haa := ha q.arms[k] (List.getElem_mem hlt)
      have hs := hBB q.arms[k] haa
      simp only [Am.cs] at hs
      (repeat (first | refine aSeq fun X hX => ?_ | refine aBlk ?_ | refine aSkip ?_ | (first | refine aExit ?_ | refine aRet ?_); try simp only [slx, ↓reduceIte, jA, reduceCtorEq] | (first | refine aReg ?_ | refine aIf ?_); simp -implicitDefEqProofs only [forall_eq, ↓slp, slb, ↓reduceIte, reduceCtorEq, jA, jB, jC, jD, jE, jF, jG, jH, jI, jJ, jK, tfTmB, f1, f3, f143, f144, f145, pI, c6, g0]; try simp only [fo] | refine hX _ _ ?_; clear hX X | clear hX X; refine hX _ _ ?_; clear hX X | clear hX X; clear hX X; refine hX _ _ ?_; clear hX X | intro hlen; unfold maxLen at hlen | apply And.intro; focus (first | omega | assumption | (repeat' apply And.intro) <;> first | omega | assumption)))
      refine callE (hW _ haa.1) ?_
      simp -implicitDefEqProofs only [↓slp, slb, ↓reduceIte, reduceCtorEq, jA, jB, jC, jD, jE, jF, jG, jH, jI, jJ, jK, tfTmB]; try simp only [fo]
      (repeat (first | refine aSeq fun X hX => ?_ | refine aBlk ?_ | refine aSkip ?_ | (first | refine aExit ?_ | refine aRet ?_); try simp only [slx, ↓reduceIte, jA, reduceCtorEq] | (first | refine aReg ?_ | refine aIf ?_); simp -implicitDefEqProofs only [forall_eq, ↓slp, slb, ↓reduceIte, reduceCtorEq, jA, jB, jC, jD, jE, jF, jG, jH, jI, jJ, jK, tfTmB, f1, f3]; try simp only [fo] | refine hX _ _ ?_; clear hX X | clear hX X; refine hX _ _ ?_; clear hX X | clear hX X; clear hX X; refine hX _ _ ?_; clear hX X | intro hlen; unfold maxLen at hlen | apply And.intro; focus (first | omega | assumption | (repeat' apply And.intro) <;> first | omega | assumption)))
      (repeat (first | refine aSeq fun X hX => ?_ | refine aBlk ?_ | refine aSkip ?_ | (first | refine aExit ?_ | refine aRet ?_); try simp only [slx, ↓reduceIte, jA, reduceCtorEq] | (first | refine aReg ?_ | refine aDrE ?_ | refine aIf ?_); simp -implicitDefEqProofs only [forall_eq, ↓slp, slb, ↓reduceIte, reduceCtorEq, jA, jB, jC, jD, jE, jF, jG, jH, jI, jJ, jK, tfTmB, f1, f3]; try simp only [fo] | refine hX _ _ ?_; clear hX X | clear hX X; refine hX _ _ ?_; clear hX X | clear hX X; clear hX X; refine hX _ _ ?_; clear hX X | intro hlen; unfold maxLen at hlen | apply And.intro; focus (first | omega | assumption | (repeat' apply And.intro) <;> first | omega | assumption)))
      refine callE hs ?_
      simp -implicitDefEqProofs only [↓slp, slb, ↓reduceIte, reduceCtorEq, jA, jB, jC, jD, jE, jF, jG, jH, jI, jJ, jK, tfTmB]; try simp only [fo]
      (repeat (first | refine aSeq fun X hX => ?_ | refine aBlk ?_ | refine aSkip ?_ | (first | refine aExit ?_ | refine aRet ?_); try simp only [slx, ↓reduceIte, jA, reduceCtorEq] | (first | refine aReg ?_ | refine aIf ?_); simp -implicitDefEqProofs only [forall_eq, ↓slp, slb, ↓reduceIte, reduceCtorEq, jA, jB, jC, jD, jE, jF, jG, jH, jI, jJ, jK, tfTmB, f145, pI, hi]; try simp only [fo] | refine hX _ _ ?_; clear hX X | clear hX X; refine hX _ _ ?_; clear hX X | clear hX X; clear hX X; refine hX _ _ ?_; clear hX X | intro hlen; unfold maxLen at hlen | apply And.intro; focus (first | omega | assumption | (repeat' apply And.intro) <;> first | omega | assumption)))
      rw [hII]
      exact ⟨⟨k + 1, hlt, f1, f3, f143, f144, rfl, rfl⟩, by omega⟩
    | false =>
      (repeat (first | refine aSeq fun X hX => ?_ | refine aBlk ?_ | refine aSkip ?_ | (first | refine aExit ?_ | refine aRet ?_); try simp only [slx, ↓reduceIte, jA, reduceCtorEq] | (first | refine aReg ?_ | refine aIf ?_); simp -implicitDefEqProofs only [forall_eq, ↓slp, slb, ↓reduceIte, reduceCtorEq, jA, jB, jC, jD, jE, jF, jG, jH, jI, jJ, jK, tfTmB, f1, f3, f143, f144, f145, pI, c6]; try simp only [fo] | refine hX _ _ ?_; clear hX X | clear hX X; refine hX _ _ ?_; clear hX X | clear hX X; clear hX X; refine hX _ _ ?_; clear hX X | intro hlen; unfold maxLen at hlen | apply And.intro; focus (first | omega | assumption | (repeat' apply And.intro) <;> first | omega | assumption)))
      simp only [aPost, Tryd.results40, aRes_n, aRes_t, aRes_c, pack_one, pack_two]
      exact leave_same rfl ⟨rfl, rfl⟩
set_option maxHeartbeats 8000000 in
theorem blockT_step (ns : List No) (hns : NsT ns) {PB : List Va → List Va → List Qu → Prop} (hPB : ∀ E V Q, PB E V Q → BlkT ns E V Q) (E V : List Va) (Q : List Qu) (hlen0 : E.length + V.length ≤ 2 ^ 29) (hv : ∀ v ∈ V, VaT (E ++ V) v) (hQ : ∀ q ∈ Q, TyQ ns PB (E ++ V) q) : BlkT ns E V Q := by
  intro m x hx
  have hLf : [E, V].flatten = E ++ V := by simp
  have hcc := fun o m1 => concatV_any o [E, V] m1 (by rw [hLf, List.length_append]; omega)
  rw [hLf] at hcc
  obtain ⟨L, hL⟩ : ∃ L, E ++ V = L := ⟨_, rfl⟩
  rw [hL] at hx hcc hv hQ
  have hV := fun (k : Nat) (h : k < V.length) => varT_any ns (hv V[k] (List.getElem_mem h))
  have hE := fun (k : Nat) (h : k < Q.length) => eqT_any ns hns hPB (hQ Q[k] (List.getElem_mem h))
  have hC := fun (a : Am) h => cloT_any ns L a h
  unfold lkP colC at *
  have hnf : ofV Value.nilFunc = .v .nilFunc := rfl
  simp only [pLV, List.map_cons, List.map_nil] at hcc
  refine ACalls.enter (mu := []) ok_mix Tryd.func17 rfl (by kernel_rfl) (by kernel_rfl) (by simp only [List.length_cons, List.length_nil, Tryd.ntmps17]; omega) ?_
  (repeat (first | refine aSeq fun X hX => ?_ | refine aBlk ?_ | refine aSkip ?_ | (first | refine aExit ?_ | refine aRet ?_); try simp only [slx, ↓reduceIte, jA, reduceCtorEq] | (first | refine aReg ?_ | refine aIf ?_); simp -implicitDefEqProofs only [forall_eq, ↓slp, slb, ↓reduceIte, reduceCtorEq, jA, jB, jC, jD, jE, jF, jG, jH, jI, jJ, jK, tfTmB]; try simp only [fo] | refine hX _ _ ?_; clear hX X | clear hX X; refine hX _ _ ?_; clear hX X | clear hX X; clear hX X; refine hX _ _ ?_; clear hX X | intro hlen; unfold maxLen at hlen | apply And.intro; focus (first | omega | assumption | (repeat' apply And.intro) <;> first | omega | assumption)))
  refine callE (hcc _ _) ?_
  simp -implicitDefEqProofs only [↓slp, slb, ↓reduceIte, reduceCtorEq, jA, jB, jC, jD, jE, jF, jG, jH, jI, jJ, jK, tfTmB]; try simp only [fo]
  (repeat (first | refine aSeq fun X hX => ?_ | refine aBlk ?_ | refine aSkip ?_ | (first | refine aExit ?_ | refine aRet ?_); try simp only [slx, ↓reduceIte, jA, reduceCtorEq] | (first | refine aReg ?_ | refine aIf ?_); simp -implicitDefEqProofs only [forall_eq, ↓slp, slb, ↓reduceIte, reduceCtorEq, jA, jB, jC, jD, jE, jF, jG, jH, jI, jJ, jK, tfTmB]; try simp only [fo] | refine hX _ _ ?_; clear hX X | clear hX X; refine hX _ _ ?_; clear hX X | clear hX X; clear hX X; refine hX _ _ ?_; clear hX X | intro hlen; unfold maxLen at hlen | apply And.intro; focus (first | omega | assumption | (repeat' apply And.intro) <;> first | omega | assumption)))
  obtain ⟨I, hI⟩ : ∃ I : F → M → Prop, ∀ f m', I f m' = (∃ k : Nat, k ≤ V.length ∧ f 0 = .ep [.sl .no [.ag [.v (.string sCol), .sl .no [pS sRed, pS sGreen, pS sBlue], .v (.int .i64 0), .v (.int .i64 0)]], .sl .no (ns.map No.pv)] ∧ f 1 = .sl .no (L.map Va.pv) ∧ f 3 = x ∧ f 6 = .ep [.sl .no (V.map Va.pv), .sl .no (Q.map Qu.pv)] ∧ f 18 = .sl .no (V.map Va.pv) ∧ f 19 = pI V.length ∧ f 20 = pI k ∧ m = m') := ⟨_, fun _ _ => rfl⟩
  refine aLoop I (fun f m => V.length - numOf (f 20)) ?_ ?_
  · rw [hI]; exact ⟨0, by omega, rfl, rfl, rfl, rfl, rfl, rfl, rfl, rfl⟩
  intro f m' hrel
  rw [hI] at hrel
  obtain ⟨k, hk, f0, f1, f3, f6, f18, f19, f20, rfl⟩ := hrel
  cases c1 : decide ((k : Int) < (V.length : Int)) with
  | true =>
    have hlt : k < V.length := by simpa using c1
    have g0 := getD_map Va.pv V k hlt
    have hi : IntKind.i64.wrap ((k : Int) + 1) = ((k + 1 : Nat) : Int) := by rw [wrap64 (by omega)]; omega
    have hme : numOf (f 20) = k := by rw [f20]; exact Int.toNat_natCast k
    (repeat (first | refine aSeq fun X hX => ?_ | refine aBlk ?_ | refine aSkip ?_ | (first | refine aExit ?_ | refine aRet ?_); try simp only [slx, ↓reduceIte, jA, reduceCtorEq] | (first | refine aReg ?_ | refine aIf ?_); simp -implicitDefEqProofs only [forall_eq, ↓slp, slb, ↓reduceIte, reduceCtorEq, jA, jB, jC, jD, jE, jF, jG, jH, jI, jJ, jK, tfTmB, f0, f1, f3, f6, f18, f19, f20, pI, c1, g0]; try simp only [fo] | refine hX _ _ ?_; clear hX X | clear hX X; refine hX _ _ ?_; clear hX X | clear hX X; clear hX X; refine hX _ _ ?_; clear hX X | intro hlen; unfold maxLen at hlen | apply And.intro; focus (first | omega | assumption | (repeat' apply And.intro) <;> first | omega | assumption)))
    refine callE (hV k hlt _) ?_
    simp -implicitDefEqProofs only [↓slp, slb, ↓reduceIte, reduceCtorEq, jA, jB, jC, jD, jE, jF, jG, jH, jI, jJ, jK, tfTmB]; try simp only [fo]
    (repeat (first | refine aSeq fun X hX => ?_ | refine aBlk ?_ | refine aSkip ?_ | (first | refine aExit ?_ | refine aRet ?_); try simp only [slx, ↓reduceIte, jA, reduceCtorEq] | (first | refine aReg ?_ | refine aIf ?_); simp -implicitDefEqProofs only [forall_eq, ↓slp, slb, ↓reduceIte, reduceCtorEq, jA, jB, jC, jD, jE, jF, jG, jH, jI, jJ, jK, tfTmB, f20, pI, hi]; try simp only [fo] | refine hX _ _ ?_; clear hX X | clear hX X; refine hX _ _ ?_; clear hX X | clear hX X; clear hX X; refine hX _ _ ?_; clear hX X | intro hlen; unfold maxLen at hlen | apply And.intro; focus (first | omega | assumption | (repeat' apply And.intro) <;> first | omega | assumption)))
    rw [hI]
    exact ⟨⟨k + 1, hlt, f0, f1, f3, f6, f18, f19, rfl, rfl⟩, by omega⟩
  | false =>
    (repeat (first | refine aSeq fun X hX => ?_ | refine aBlk ?_ | refine aSkip ?_ | (first | refine aExit ?_ | refine aRet ?_); try simp only [slx, ↓reduceIte, jA, reduceCtorEq] | (first | refine aReg ?_ | refine aIf ?_); simp -implicitDefEqProofs only [forall_eq, ↓slp, slb, ↓reduceIte, reduceCtorEq, jA, jB, jC, jD, jE, jF, jG, jH, jI, jJ, jK, tfTmB, f0, f1, f3, f6, f18, f19, f20, pI, c1]; try simp only [fo] | refine hX _ _ ?_; clear hX X | clear hX X; refine hX _ _ ?_; clear hX X | clear hX X; clear hX X; refine hX _ _ ?_; clear hX X | intro hlen; unfold maxLen at hlen | apply And.intro; focus (first | omega | assumption | (repeat' apply And.intro) <;> first | omega | assumption)))
    obtain ⟨I2, hI2⟩ : ∃ I2 : F → M → Prop, ∀ f m', I2 f m' = (∃ k : Nat, k ≤ Q.length ∧ f 0 = .ep [.sl .no [.ag [.v (.string sCol), .sl .no [pS sRed, pS sGreen, pS sBlue], .v (.int .i64 0), .v (.int .i64 0)]], .sl .no (ns.map No.pv)] ∧ f 1 = .sl .no (L.map Va.pv) ∧ f 3 = x ∧ f 30 = .sl .no (Q.map Qu.pv) ∧ f 31 = pI Q.length ∧ f 32 = pI k ∧ m = m') := ⟨_, fun _ _ => rfl⟩
    refine aLoop I2 (fun f m => Q.length - numOf (f 32)) ?_ ?_
    · rw [hI2]; exact ⟨0, by omega, f0, f1, f3, rfl, rfl, rfl, rfl⟩
    clear f0 f1 f3 f6 f18 f19 f20
    intro f m' hrel
    rw [hI2] at hrel
    obtain ⟨k, hk, f0, f1, f3, f30, f31, f32, rfl⟩ := hrel
    cases c2 : decide ((k : Int) < (Q.length : Int)) with
    | true =>
      have hlt : k < Q.length := by simpa using c2
      have g0 := getD_map Qu.pv Q k hlt
      have hi : IntKind.i64.wrap ((k : Int) + 1) = ((k + 1 : Nat) : Int) := by rw [wrap64 (by omega)]; omega
      have hme : numOf (f 32) = k := by rw [f32]; exact Int.toNat_natCast k
      (repeat (first | refine aSeq fun X hX => ?_ | refine aBlk ?_ | refine aSkip ?_ | (first | refine aExit ?_ | refine aRet ?_); try simp only [slx, ↓reduceIte, jA, reduceCtorEq] | (first | refine aReg ?_ | refine aIf ?_); simp -implicitDefEqProofs only [forall_eq, ↓slp, slb, ↓reduceIte, reduceCtorEq, jA, jB, jC, jD, jE, jF, jG, jH, jI, jJ, jK, tfTmB, f0, f1, f3, f30, f31, f32, pI, c2, g0]; try simp only [fo] | refine hX _ _ ?_; clear hX X | clear hX X; refine hX _ _ ?_; clear hX X | clear hX X; clear hX X; refine hX _ _ ?_; clear hX X | intro hlen; unfold maxLen at hlen | apply And.intro; focus (first | omega | assumption | (repeat' apply And.intro) <;> first | omega | assumption)))
      refine callMS (hE k hlt _) (by simp only [List.map_cons, List.map_nil, PV.settle, PV.settles, Qu.settle_pv]; rw [Qu.pv_eq]; rfl) ?_
      rintro v mv ⟨rfl, rfl⟩
      simp -implicitDefEqProofs only [↓slp, slb, ↓reduceIte, reduceCtorEq, jA, jB, jC, jD, jE, jF, jG, jH, jI, jJ, jK, tfTmB]; try simp only [fo]
      (repeat (first | refine aSeq fun X hX => ?_ | refine aBlk ?_ | refine aSkip ?_ | (first | refine aExit ?_ | refine aRet ?_); try simp only [slx, ↓reduceIte, jA, reduceCtorEq] | (first | refine aReg ?_ | refine aIf ?_); simp -implicitDefEqProofs only [forall_eq, ↓slp, slb, ↓reduceIte, reduceCtorEq, jA, jB, jC, jD, jE, jF, jG, jH, jI, jJ, jK, tfTmB, f32, pI, hi]; try simp only [fo] | refine hX _ _ ?_; clear hX X | clear hX X; refine hX _ _ ?_; clear hX X | clear hX X; clear hX X; refine hX _ _ ?_; clear hX X | intro hlen; unfold maxLen at hlen | apply And.intro; focus (first | omega | assumption | (repeat' apply And.intro) <;> first | omega | assumption)))
      rw [hI2]
      exact ⟨⟨k + 1, hlt, f0, f1, f3, f30, f31, rfl, rfl⟩, by omega⟩
    | false =>
      rcases hx with rfl | ⟨a, ha, rfl⟩
      · (repeat (first | refine aSeq fun X hX => ?_ | refine aBlk ?_ | refine aSkip ?_ | (first | refine aExit ?_ | refine aRet ?_); try simp only [slx, ↓reduceIte, jA, reduceCtorEq] | (first | refine aReg ?_ | refine aIf ?_); simp -implicitDefEqProofs only [forall_eq, ↓slp, slb, ↓reduceIte, reduceCtorEq, jA, jB, jC, jD, jE, jF, jG, jH, jI, jJ, jK, tfTmB, f0, f1, f3, f30, f31, f32, pI, c2, hnf]; try simp only [fo] | refine hX _ _ ?_; clear hX X | clear hX X; refine hX _ _ ?_; clear hX X | clear hX X; clear hX X; refine hX _ _ ?_; clear hX X | intro hlen; unfold maxLen at hlen | apply And.intro; focus (first | omega | assumption | (repeat' apply And.intro) <;> first | omega | assumption)))
        simp only [aPost, Tryd.results17, aRes_n, aRes_t, aRes_c, pack_one, pack_two]
        exact leave_same rfl ⟨rfl, rfl⟩
      · (repeat (first | refine aSeq fun X hX => ?_ | refine aBlk ?_ | refine aSkip ?_ | (first | refine aExit ?_ | refine aRet ?_); try simp only [slx, ↓reduceIte, jA, reduceCtorEq] | (first | refine aReg ?_ | refine aIf ?_); simp -implicitDefEqProofs only [forall_eq, ↓slp, slb, ↓reduceIte, reduceCtorEq, jA, jB, jC, jD, jE, jF, jG, jH, jI, jJ, jK, tfTmB, f0, f1, f3, f30, f31, f32, pI, c2, hnf]; try simp only [fo] | refine hX _ _ ?_; clear hX X | clear hX X; refine hX _ _ ?_; clear hX X | clear hX X; clear hX X; refine hX _ _ ?_; clear hX X | intro hlen; unfold maxLen at hlen | apply And.intro; focus (first | omega | assumption | (repeat' apply And.intro) <;> first | omega | assumption)))
        refine callMS (hC a ha _) (by simp only [List.map_cons, List.map_nil, PV.settle, PV.settles]; rfl) ?_
        rintro v mc ⟨rfl, hmc⟩
        subst hmc
        simp -implicitDefEqProofs only [↓slp, slb, ↓reduceIte, reduceCtorEq, jA, jB, jC, jD, jE, jF, jG, jH, jI, jJ, jK, tfTmB]; try simp only [fo]
        (repeat (first | refine aSeq fun X hX => ?_ | refine aBlk ?_ | refine aSkip ?_ | (first | refine aExit ?_ | refine aRet ?_); try simp only [slx, ↓reduceIte, jA, reduceCtorEq] | (first | refine aReg ?_ | refine aIf ?_); simp -implicitDefEqProofs only [forall_eq, ↓slp, slb, ↓reduceIte, reduceCtorEq, jA, jB, jC, jD, jE, jF, jG, jH, jI, jJ, jK, tfTmB]; try simp only [fo] | refine hX _ _ ?_; clear hX X | clear hX X; refine hX _ _ ?_; clear hX X | clear hX X; clear hX X; refine hX _ _ ?_; clear hX X | intro hlen; unfold maxLen at hlen | apply And.intro; focus (first | omega | assumption | (repeat' apply And.intro) <;> first | omega | assumption)))
        simp only [aPost, Tryd.results17, aRes_n, aRes_t, aRes_c, pack_one, pack_two]
        exact leave_same rfl ⟨rfl, rfl⟩
theorem blockT_all (ns : List No) (hns : NsT ns) : ∀ (d : Nat) (E V : List Va) (Q : List Qu), TyB ns d E V Q → BlkT ns E V Q
  | 0, E, V, Q, ⟨h1, h2, h3⟩ => blockT_step ns hns (PB := fun _ _ _ => False) (fun E V Q h => h.elim) E V Q h1 h2 h3
  | d + 1, E, V, Q, ⟨h1, h2, h3⟩ => blockT_step ns hns (PB := TyB ns d) (fun E V Q h => blockT_all ns hns d E V Q h) E V Q h1 h2 h3
end Go.Proofs.YticdboelpgalpaaDoor
