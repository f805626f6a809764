/-
 Texts that belong together: AbMk8c, TpS.
-/
-- halved
import Derived.Test.YtibhhoknipdlpaaAbKit
import Derived.Test.YtibhhoknipdlpaaTpR
import Derived.Test.YtibhhoknipdlpaaDA
/-
 A call whose arguments forget tokens.
-/
set_option linter.unusedVariables false
namespace Go.Proofs.Ytibhhoknipdlpaa
open Go
theorem callMS {P : Program} {g : FuncId} {args args' : List PV} {m : M} {R K Z : PV → M → Prop} (h : ACalls P g args' m R) (he : args.map PV.settle = args') (hk : ∀ v m', R v m' → K v m') : @ACallsI P g args m ⟨K, Z⟩ := by
 subst he
 refine ACallsZ.mono (Z := noZ) ⟨h.cc, fun G w vs hI hl hr => h.run G w vs hI (by simpa using hl) (fun j h1 h2 => ?_)⟩ hk (fun _ _ h => h.elim)
 simpa using (hr j (by simpa using h1) h2).settle
end Go.Proofs.Ytibhhoknipdlpaa

/-
 The spoiler: ways out, variables.
-/
set_option linter.unusedVariables false
set_option linter.unusedSimpArgs false
namespace Go.Proofs.Ytibhhoknipdlpaa
open Nat renaming reduceEqDiff → jA, reduceAdd → jB, reduceMul → jC, reduceLT → jD, reduceLeDiff → jE, reduceBEq → jF, reduceBNe → jG
open Int renaming reduceLE → jH, reduceLT → jI, reduceToNat → jJ, reduceEq → jK
open Go
-- EXX: Tr.settle_pv, Tr.pure_pv, Tr.cells_pv, Tr.cs, spt_nb, spt_nt, spt_fresh, spt_use, spt_free, spt_alive, spt_a, spt_upda, spt_ext, spt_ext2, spt_ea, spt_own, spt_own0, spt_ou, spt_ou0
set_option maxRecDepth 20000
-- TNAMES: int; uint8; int32; string; bool; []string; []api.Expr; api.Expr; *metronomeref04.spoiler; metronomeref04.spoiler; api.Pos; api.Type; api.On; []api.On; api.Var; []api.Var; api.Trans; []api.Trans
set_option linter.defProp false
def Y6 := And.intro @slb (And.intro @tfA (And.intro @Ex.settle_pv (And.intro @Ex.pure_pv (And.intro @Ex.cells_pv (And.intro @Ex.cs.eq_1 (And.intro @On.pv.eq_1 (And.intro @Ty.pv.eq_1 (And.intro @Va.settle_pv (And.intro @Va.pure_pv (And.intro @Va.cells_pv (And.intro @Va.cs.eq_1 (And.intro @Tr.settle_pv (And.intro @Tr.pure_pv (And.intro @Tr.cells_pv (And.intro @Tr.cs.eq_1 (And.intro @spt_nb (And.intro @spt_nt (And.intro @spt_fresh (And.intro @spt_use (And.intro @spt_free (And.intro @spt_alive (And.intro @spt_a (And.intro @spt_upda (And.intro @spt_ext (And.intro @spt_ext2 (And.intro @spt_ea (And.intro @spt_own (And.intro @spt_own0 (And.intro @spt_ou @spt_ou0)))))))))))))))))))))))))))))

set_option maxHeartbeats 8000000 in
theorem sways_any (p : Int × Int) (hp : 0 ≤ p.2) (l : List Tr) (hl : l.length ≤ 100000000) (hx : ∀ v ∈ l, v.e.nar) (a : Nat) (m : M) (hA : a < m.nb) (n : Int) : ACalls Try.prog 109 [.bp a 0, .sl .no (l.map Tr.pv)] (spt p a m n) (fun v m' => ∃ (l' : List Tr) (n' : Int), v = .sl .no (l'.map Tr.pv) ∧ l'.length ≤ l.length ∧ m' = spt p a m n') := by
 refine ACalls.enter (mu := [7]) ok_mix Try.func109 rfl (by kernel_rfl) (by kernel_rfl) (by simp only [List.length_cons, List.length_nil, Try.ntmps109]; omega) ?_
 (repeat (first | refine aSeq fun X hX => ?_ | refine aBlk ?_ | refine aReg ?_; simp -implicitDefEqProofs only [↓slp, jF, Y6] | apply hX; clear hX X))
 obtain ⟨I, hI⟩ : ∃ I : F → M → Prop, ∀ f m', I f m' = (∃ (k : Nat) (o : Own) (mb : M) (P : List Tr) (c : Int), k ≤ l.length ∧ P.length ≤ k ∧ f 0 = .bp a 0 ∧ f 1 = .sl .no (l.map Tr.pv) ∧ f 5 = .sl o (P.map Tr.pv) ∧ f 6 = pI k ∧ m' = spt p a mb c ∧ BaseR m mb ∧ Mine m mb o 12) := ⟨_, fun _ _ => rfl⟩
 refine aLoop I (fun f m => l.length - numOf (f 6)) ?_ ?_
 ·rw [hI]; exact ⟨0, .full, m, [], _, by omega, Nat.le_refl _, rfl, rfl, rfl, rfl, rfl, .refl m, .full⟩
 intro f m' hrel
 rw [hI] at hrel
 obtain ⟨k, o, mb, P, c, hk, hPl, f0, f1, f5, f6, rfl, hB, ho⟩ := hrel
 have hAb : a < mb.nb := Nat.lt_of_lt_of_le hA hB.nb
 cases c1 : decide ((k : Int) < (l.length : Int)) with
 | true =>
  have hlt : k < l.length := by simpa using c1
  have hg := getD_map Tr.pv l k hlt
  have hi : IntKind.i64.wrap ((k : Int) + 1) = ((k + 1 : Nat) : Int) := by rw [wrap64 (by omega)]; omega
  have hme : numOf (f 6) = k := by rw [f6]; exact Int.toNat_natCast k
  have hv := hx _ (List.getElem_mem hlt)
  generalize l[k] = x at *
  (repeat (first | refine aSeq fun X hX => ?_ | refine aSkip ?_ | (first | apply aReg | apply aIf); simp -implicitDefEqProofs only [↓slp, ↓reduceIte, reduceCtorEq, jA, jB, jE, jF, Y6, f0, f1, f6, pI, c1, hAb, hg] | apply hX; clear hX X | intro hlen; unfold maxLen at hlen | apply And.intro; focus omega))
  refine callM (snow_any p a _ (by first | assumption | (rw [ext_nb]; omega)) _) ?_
  rintro v m' ⟨rfl, rfl⟩
  generalize hnow : (nxt c == p.1) = b
  simp -implicitDefEqProofs only [slb, f6]
  (repeat (apply hX; clear hX X))
  have join : ∀ (f' : F) (y : Tr), y.e = x.e → f' 0 = .bp a 0 → f' 1 = .sl .no (l.map Tr.pv) → f' 5 = .sl o (P.map Tr.pv) → f' 6 = pI k → f' 7 = .bp mb.nb 0 → X f' (spt p a (mb.ext [some y.cs]) (nxt c)) := by
   clear f0 f1 f5
   intro f' y hy f0 f1 f5 f6' f7
   refine hX _ _ ?_
   clear hX X
   (repeat (first | refine aSeq fun X hX => ?_ | refine aReg ?_; simp -implicitDefEqProofs only [↓slp, ↓reduceIte, reduceCtorEq, jA, jB, jE, jF, Y6, f0, f7, hAb]; try simp only [fo]))
   refine callM (sexpr_any p hp y.e (by rw [hy]; exact hv) a _ (by rw [ext_nb]; omega) _) ?_
   rintro v m' ⟨e', n2, rfl, rfl⟩
   have hfree := ho.free
   have q1 : P.length + 1 ≤ maxLen := by unfold maxLen; omega
   have q3 := trs_len P
   simp -implicitDefEqProofs only [↓slp, ↓reduceIte, reduceCtorEq, jA, jB, jE, jF, Y6, f7, hAb]; try simp only [fo]
   (repeat (first | refine aReg ?_; simp -implicitDefEqProofs only [forall_eq, ↓slp, ↓reduceIte, jA, jB, jC, jE, jF, Y6, f5, f6', f7, hAb, pI, hi] | apply hX; clear hX X | apply And.intro; focus ((repeat' apply And.intro) <;> first | omega | assumption)))
   rw [hI]
   exact ⟨⟨k + 1, .tok mb.nt, _, P ++ [⟨e', y.to, y.resume, y.line, y.col⟩], n2, hlt, by simp; omega, f0, f1, by rw [List.map_append]; rfl, rfl, rfl, (hB.fresh ho).ext _, (Mine.newB hB o 12).ext _⟩, by omega⟩
  cases b with
  | false =>
   (repeat (first | refine aSkip ?_ | refine aIf ?_; simp -implicitDefEqProofs only [slb, ↓reduceIte, f6, pB]))
   exact join _ x rfl f0 f1 f5 f6 rfl
  | true =>
   obtain ⟨j, hj⟩ : ∃ j : Int, Int.tmod p.2 3 = j := ⟨_, rfl⟩
   (repeat (first | refine aSeq fun X hX => ?_ | (first | apply aReg | apply aIf); simp -implicitDefEqProofs only [↓slp, ↓reduceIte, reduceCtorEq, jB, jF, jK, Y6, f0, f6, pB, hAb, hj] | apply hX; clear hX X))
   refine ⟨fun hb => ?_, fun hb => ?_⟩
   ·(repeat (refine aExit ?_; try simp only [slx, ↓reduceIte, jA, reduceCtorEq]))
    first | (rename_i X1 hX1 X2 hX2; refine hX1 _ _ ?_; clear hX1) | (rename_i X1 hX1 l1 X2 hX2; refine hX1 _ _ ?_; clear hX1) | (rename_i X1 hX1; refine hX1 _ _ ?_; clear hX1) | (rename_i X1 hX1 X2 hX2 X3 hX3; refine hX1 _ _ ?_; clear hX1)
    (repeat (refine aReg ?_; simp -implicitDefEqProofs only [↓slp, slb, ↓reduceIte, jA, jF, f6, pI, hi]))
    rw [hI]
    exact ⟨⟨k + 1, o, _, P, _, hlt, by omega, f0, f1, f5, rfl, rfl, hB.ext _, ho.ext _⟩, by omega⟩
   ·(repeat (first | refine aSeq fun X hX => ?_ | refine aSkip ?_ | (first | apply aReg | apply aIf); simp -implicitDefEqProofs only [↓slp, ↓reduceIte, reduceCtorEq, jB, jF, jK, Y6, f0, hAb, hj] | apply hX; clear hX X))
    refine ⟨fun hb => ?_, fun hb => ?_⟩
    ·(repeat (refine aReg ?_; simp -implicitDefEqProofs only [↓slp, ↓reduceIte, reduceCtorEq, jA, jB, jE, jF, Y6, hAb]))
     exact join _ ⟨x.e, ⟨#[78, 111]⟩, x.resume, x.line, x.col⟩ rfl f0 f1 f5 f6 rfl
    ·(repeat refine aSkip ?_)
     exact join _ x rfl f0 f1 f5 f6 rfl
 | false =>
  have hk' : k = l.length := by simp at c1; omega
  subst hk'
  (repeat (first | refine aSeq fun X hX => ?_ | (first | refine aExit ?_ | refine aRet ?_); try simp only [slx, ↓reduceIte, jA, reduceCtorEq] | (first | apply aReg | apply aIf); simp -implicitDefEqProofs only [↓slp, ↓reduceIte, jA, jF, Y6, f1, f5, f6, pI, c1] | apply hX; clear hX X | clear hX X; apply hX; clear hX X | intro hlen; unfold maxLen at hlen))
  simp only [aPost, Try.results109, aRes_n, aRes_t, aRes_c, pack_one, pack_two]
  exact leave_sptB hA hB rfl ⟨_, _, rfl, hPl, rfl⟩
set_option maxHeartbeats 8000000 in
theorem svars_any (p : Int × Int) (hp : 0 ≤ p.2) (l : List Va) (hl : l.length ≤ 100000000) (hx : ∀ v ∈ l, v.first.nar) (a : Nat) (m : M) (hA : a < m.nb) (n : Int) : ACalls Try.prog 75 [.bp a 0, .sl .no (l.map Va.pv)] (spt p a m n) (fun v m' => ∃ (l' : List Va) (n' : Int), v = .sl .no (l'.map Va.pv) ∧ l'.length ≤ l.length ∧ m' = spt p a m n') := by
 refine ACalls.enter (mu := [7]) ok_mix Try.func75 rfl (by kernel_rfl) (by kernel_rfl) (by simp only [List.length_cons, List.length_nil, Try.ntmps75]; omega) ?_
 (repeat (first | refine aSeq fun X hX => ?_ | refine aBlk ?_ | refine aReg ?_; simp -implicitDefEqProofs only [↓slp, jF, Y6] | apply hX; clear hX X))
 obtain ⟨I, hI⟩ : ∃ I : F → M → Prop, ∀ f m', I f m' = (∃ (k : Nat) (o : Own) (mb : M) (P : List Va) (c : Int), k ≤ l.length ∧ P.length ≤ k ∧ f 0 = .bp a 0 ∧ f 1 = .sl .no (l.map Va.pv) ∧ f 5 = .sl o (P.map Va.pv) ∧ f 6 = pI k ∧ m' = spt p a mb c ∧ BaseR m mb ∧ Mine m mb o 15) := ⟨_, fun _ _ => rfl⟩
 refine aLoop I (fun f m => l.length - numOf (f 6)) ?_ ?_
 ·rw [hI]; exact ⟨0, .full, m, [], _, by omega, Nat.le_refl _, rfl, rfl, rfl, rfl, rfl, .refl m, .full⟩
 intro f m' hrel
 rw [hI] at hrel
 obtain ⟨k, o, mb, P, c, hk, hPl, f0, f1, f5, f6, rfl, hB, ho⟩ := hrel
 have hAb : a < mb.nb := Nat.lt_of_lt_of_le hA hB.nb
 cases c1 : decide ((k : Int) < (l.length : Int)) with
 | true =>
  have hlt : k < l.length := by simpa using c1
  have hg := getD_map Va.pv l k hlt
  have hi : IntKind.i64.wrap ((k : Int) + 1) = ((k + 1 : Nat) : Int) := by rw [wrap64 (by omega)]; omega
  have hme : numOf (f 6) = k := by rw [f6]; exact Int.toNat_natCast k
  have hv := hx _ (List.getElem_mem hlt)
  generalize l[k] = x at *
  (repeat (first | refine aSeq fun X hX => ?_ | refine aSkip ?_ | (first | apply aReg | apply aIf); simp -implicitDefEqProofs only [↓slp, ↓reduceIte, reduceCtorEq, jA, jB, jE, jF, Y6, f0, f1, f6, pI, c1, hAb, hg] | apply hX; clear hX X | intro hlen; unfold maxLen at hlen | apply And.intro; focus omega))
  refine callM (snow_any p a _ (by first | assumption | (rw [ext_nb]; omega)) _) ?_
  rintro v m' ⟨rfl, rfl⟩
  generalize hnow : (nxt c == p.1) = b
  simp -implicitDefEqProofs only [slb, f6]
  (repeat (apply hX; clear hX X))
  have join : ∀ (f' : F) (y : Va) (oc on ok : Own), y.first.nar → f' 0 = .bp a 0 → f' 1 = .sl .no (l.map Va.pv) → f' 5 = .sl o (P.map Va.pv) → f' 6 = pI k → f' 7 = .bp mb.nb 0 → X f' (spt p a (mb.ext [some [.v (.string y.name), .v (.int .u8 y.t.kind), .v (.string y.t.name), .sl oc (y.clock.map On.pv), .v (.bool y.last), .v (.int .u8 y.first.kind), .v (.int .u8 y.first.op), .v (.int .i32 y.first.n), .v (.string y.first.name), .sl on (y.first.names.map pS), .sl ok (y.first.kids.map Ex.pv), .v (.int .i64 y.first.line), .v (.int .i64 y.first.col), .v (.int .i64 y.line), .v (.int .i64 y.col)]]) (nxt c)) := by
   clear f0 f1 f5
   intro f' y oc on ok hy f0 f1 f5 f6' f7
   refine hX _ _ ?_
   clear hX X
   have hfree := ho.free
   have q1 : P.length + 1 ≤ maxLen := by unfold maxLen; omega
   have q3 := va_len P
   cases c2 : y.last with
   | true =>
    (repeat (first | refine aSeq fun X hX => ?_ | (first | apply aReg | apply aIf); simp -implicitDefEqProofs only [↓slp, ↓reduceIte, reduceCtorEq, jA, jB, jD, jE, jF, Y6, f0, f7, hAb] | apply hX; clear hX X))
    refine callMS (sexpr_any p hp y.first hy a _ (by rw [ext_nb]; omega) _) (by rw [Ex.pv_eq]; simp only [List.map_cons, List.map_nil, PV.settle, PV.settles, Ex.cs]) ?_
    rintro v m' ⟨e', n2, rfl, rfl⟩
    simp -implicitDefEqProofs only [↓slp, ↓reduceIte, reduceCtorEq, jA, jB, jE, jF, Y6, f7, hAb]
    (repeat (first | refine aReg ?_; simp -implicitDefEqProofs only [forall_eq, ↓slp, ↓reduceIte, jA, jB, jC, jE, jF, Y6, f5, f6', f7, hAb, pI, hi] | apply hX; clear hX X | apply And.intro; focus ((repeat' apply And.intro) <;> first | omega | assumption)))
    rw [hI]
    exact ⟨⟨k + 1, .tok mb.nt, _, P ++ [⟨y.name, y.t, y.clock, true, e', y.line, y.col⟩], n2, hlt, by simp; omega, f0, f1, by rw [List.map_append]; rfl, rfl, rfl, (hB.fresh ho).ext _, (Mine.newB hB o 15).ext _⟩, by omega⟩
   | false =>
    (repeat (first | refine aSeq fun X hX => ?_ | refine aSkip ?_ | (first | apply aReg | apply aIf); simp -implicitDefEqProofs only [forall_eq, ↓slp, ↓reduceIte, reduceCtorEq, jA, jB, jC, jD, jE, jF, Y6, f5, f6', f7, hAb, pI, hi] | apply hX; clear hX X | apply And.intro; focus ((repeat' apply And.intro) <;> first | omega | assumption)))
    rw [hI]
    exact ⟨⟨k + 1, .tok mb.nt, _, P ++ [⟨y.name, y.t, y.clock, false, y.first, y.line, y.col⟩], _, hlt, by simp; omega, f0, f1, by rw [List.map_append]; rfl, rfl, rfl, (hB.fresh ho).ext _, (Mine.newB hB o 15).ext _⟩, by omega⟩
  cases b with
  | false =>
   (repeat (first | refine aSkip ?_ | refine aIf ?_; simp -implicitDefEqProofs only [slb, ↓reduceIte, f6, pB]))
   exact join _ x .no .no .no hv f0 f1 f5 f6 rfl
  | true =>
   obtain ⟨j, hj⟩ : ∃ j : Int, Int.tmod p.2 7 = j := ⟨_, rfl⟩
   (repeat (first | refine aSeq fun X hX => ?_ | (first | apply aReg | apply aIf); simp -implicitDefEqProofs only [↓slp, ↓reduceIte, reduceCtorEq, jB, jF, jK, Y6, f0, f6, pB, hAb, hj] | apply hX; clear hX X))
   refine ⟨fun hb0 => ?_, fun hb0 => ?_⟩
   ·(repeat (refine aReg ?_; simp -implicitDefEqProofs only [↓slp, ↓reduceIte, reduceCtorEq, jA, jB, jE, jF, Y6, hAb]))
    exact join _ ⟨⟨#[120]⟩, x.t, x.clock, x.last, x.first, x.line, x.col⟩ .no .no .no hv f0 f1 f5 f6 rfl
   (repeat (first | refine aSeq fun X hX => ?_ | (first | apply aReg | apply aIf); simp -implicitDefEqProofs only [↓slp, slb, ↓reduceIte, jA, jF] | apply hX; clear hX X))
   refine ⟨fun hb1 => ?_, fun hb1 => ?_⟩
   ·(repeat (refine aReg ?_; simp -implicitDefEqProofs only [↓slp, ↓reduceIte, reduceCtorEq, jA, jB, jE, jF, Y6, hAb]))
    exact join _ ⟨x.name, ⟨1, ⟨#[]⟩⟩, x.clock, x.last, x.first, x.line, x.col⟩ .no .no .no hv f0 f1 f5 f6 rfl
   (repeat (first | refine aSeq fun X hX => ?_ | (first | apply aReg | apply aIf); simp -implicitDefEqProofs only [↓slp, slb, ↓reduceIte, jA, jF] | apply hX; clear hX X))
   refine ⟨fun hb2 => ?_, fun hb2 => ?_⟩
   ·(repeat (refine aReg ?_; simp -implicitDefEqProofs only [↓slp, ↓reduceIte, reduceCtorEq, jA, jB, jE, jF, Y6, hAb]))
    exact join _ ⟨x.name, ⟨3, ⟨#[110, 111]⟩⟩, x.clock, x.last, x.first, x.line, x.col⟩ .no .no .no hv f0 f1 f5 f6 rfl
   (repeat (first | refine aSeq fun X hX => ?_ | (first | apply aReg | apply aIf); simp -implicitDefEqProofs only [↓slp, slb, ↓reduceIte, jA, jF] | apply hX; clear hX X))
   refine ⟨fun hb3 => ?_, fun hb3 => ?_⟩
   ·(repeat (refine aReg ?_; simp -implicitDefEqProofs only [forall_eq, ↓slp, ↓reduceIte, reduceCtorEq, jA, jB, jC, jE, jF, Y6, hAb]))
    exact join _ ⟨x.name, x.t, [⟨⟨#[82, 101, 100]⟩, ⟨#[121]⟩⟩], x.last, x.first, x.line, x.col⟩ .full .no .no hv f0 f1 f5 f6 rfl
   (repeat (first | refine aSeq fun X hX => ?_ | (first | apply aReg | apply aIf); simp -implicitDefEqProofs only [↓slp, slb, ↓reduceIte, jA, jF] | apply hX; clear hX X))
   refine ⟨fun hb4 => ?_, fun hb4 => ?_⟩
   ·(repeat (first | refine aSeq fun X hX => ?_ | refine aReg ?_; simp -implicitDefEqProofs only [↓slp, ↓reduceIte, reduceCtorEq, jA, jB, jD, jE, jF, Y6, hAb] | apply hX; clear hX X))
    exact join _ ⟨x.name, x.t, x.clock, !x.last, .mk 1 0 3 ⟨#[]⟩ [] [] 0 0, x.line, x.col⟩ .no .full .full (by exact ⟨by simp, trivial⟩) f0 f1 f5 f6 rfl
   (repeat (first | refine aSeq fun X hX => ?_ | (first | apply aReg | apply aIf); simp -implicitDefEqProofs only [↓slp, slb, ↓reduceIte, jA, jF] | apply hX; clear hX X))
   refine ⟨fun hb5 => ?_, fun hb5 => ?_⟩
   ·(repeat (refine aReg ?_; simp -implicitDefEqProofs only [forall_eq, ↓slp, ↓reduceIte, reduceCtorEq, jA, jB, jC, jE, jF, Y6, hAb]))
    exact join _ ⟨x.name, x.t, [⟨⟨#[116, 114, 117, 101]⟩, ⟨#[98]⟩⟩], x.last, x.first, x.line, x.col⟩ .full .no .no hv f0 f1 f5 f6 rfl
   (repeat (refine aExit ?_; try simp only [slx, ↓reduceIte, jA, reduceCtorEq]))
   first | (rename_i X1 hX1 X2 hX2; refine hX1 _ _ ?_; clear hX1) | (rename_i X1 hX1 l1 X2 hX2; refine hX1 _ _ ?_; clear hX1) | (rename_i X1 hX1; refine hX1 _ _ ?_; clear hX1) | (rename_i X1 hX1 X2 hX2 X3 hX3; refine hX1 _ _ ?_; clear hX1)
   (repeat (refine aReg ?_; simp -implicitDefEqProofs only [↓slp, slb, ↓reduceIte, jA, jF, f6, pI, hi]))
   rw [hI]
   exact ⟨⟨k + 1, o, _, P, _, hlt, by omega, f0, f1, f5, rfl, rfl, hB.ext _, ho.ext _⟩, by omega⟩
 | false =>
  have hk' : k = l.length := by simp at c1; omega
  subst hk'
  (repeat (first | refine aSeq fun X hX => ?_ | (first | refine aExit ?_ | refine aRet ?_); try simp only [slx, ↓reduceIte, jA, reduceCtorEq] | (first | apply aReg | apply aIf); simp -implicitDefEqProofs only [↓slp, ↓reduceIte, jA, jF, Y6, f1, f5, f6, pI, c1] | apply hX; clear hX X | clear hX X; apply hX; clear hX X | intro hlen; unfold maxLen at hlen))
  simp only [aPost, Try.results75, aRes_n, aRes_t, aRes_c, pack_one, pack_two]
  exact leave_sptB hA hB rfl ⟨_, _, rfl, hPl, rfl⟩
end Go.Proofs.Ytibhhoknipdlpaa
