/-
 Texts that belong together: CrB, CrD.
-/
-- halved
import Derived.Test.YtaealemhegdmpaaCrA
import Derived.Test.YtaealemhegdmpaaCgE
/-
 The reference's graph (layer 11): a block without blocks in it.
-/
set_option linter.unusedVariables false
set_option linter.unusedSimpArgs false
namespace Go.Proofs.Ytaealemhegdmpaa
open Nat renaming reduceEqDiff → jA, reduceAdd → jB, reduceMul → jC, reduceLT → jD, reduceLeDiff → jE, reduceBEq → jF, reduceBNe → jG
open Int renaming reduceLE → jH, reduceLT → jI, reduceToNat → jJ, reduceEq → jK
open Go
-- EXX: Qu.settle_pv, Qu.pure_pv, Qu.cells_pv, Qu.cs
set_option maxRecDepth 20000
-- TNAMES: int; uint8; int32; string; bool; []string; []api.Expr; api.Expr; api.Pos; []api.Pos; api.Type; api.On; []api.On; api.Var; []api.Var; api.Equation; []api.Equation; api.Block; api.Arm; []api.Arm; []int; [2]int; [][2]int; []bool; [][]bool; metronomeref11.Graph; *metronomeref11.Graph
set_option linter.defProp false
/-- The reference's graph, with what a plain graph says. -/
structure RGS (mb : M) (gid : Nat) (g : Gs) (B : Nat) (m : M) : Prop where
 ex : ∃ P, RgM mb gid (nmG g) (g.vs.map fun v => (v.line, v.col)) P m ∧ P.length ≤ B ∧ (∀ a b : Nat, g.E a b ↔ ((a : Int), (b : Int)) ∈ P) ∧ ∀ p ∈ P, (0 ≤ p.1 ∧ p.1 < (g.vs.length : Int)) ∧ 0 ≤ p.2 ∧ p.2 < (g.vs.length : Int)
theorem ndP_mem {i : Int} {l : List Int} {p : Int × Int} : p ∈ ndP i l ↔ p.1 = i ∧ 0 ≤ i ∧ 0 ≤ p.2 ∧ p.2 ∈ l := by
 unfold ndP
 simp only [List.mem_map, List.mem_filter, Bool.and_eq_true, decide_eq_true_eq]
 constructor
 ·rintro ⟨k, ⟨h1, h2, h3⟩, rfl⟩
  exact ⟨rfl, h2, h3, h1⟩
 ·rintro ⟨h1, h2, h3, h4⟩
  exact ⟨p.2, ⟨h4, h2, h3⟩, by rw [← h1]⟩
theorem ndP_len (i : Int) (l : List Int) : (ndP i l).length ≤ l.length := by
 unfold ndP; rw [List.length_map]; exact List.length_filter_le _ _
/-- One more need. -/
theorem RGS.need {mb m' : M} {gid : Nat} {g : Gs} {B : Nat} {i : Int} {l : List Int} {O : Int → Prop} {P : List (Int × Int)}
    (h1 : P.length ≤ B) (h2 : ∀ a b : Nat, g.E a b ↔ ((a : Int), (b : Int)) ∈ P) (h3 : ∀ p ∈ P, (0 ≤ p.1 ∧ p.1 < (g.vs.length : Int)) ∧ 0 ≤ p.2 ∧ p.2 < (g.vs.length : Int))
    (hr : RgM mb gid (nmG g) (g.vs.map fun v => (v.line, v.col)) (P ++ ndP i l) m') (hi : i < (g.vs.length : Int)) (hl : ∀ k ∈ l, k < (g.vs.length : Int)) (hO : ∀ k : Nat, O (k : Int) ↔ (k : Int) ∈ l) : RGS mb gid (g.need i O) (B + l.length) m' := by
 refine ⟨P ++ ndP i l, hr, by rw [List.length_append]; have := ndP_len i l; omega, fun a b => ?_, fun p hp => ?_⟩
 ·rw [List.mem_append, ndP_mem, ← h2]
  show g.E a b ∨ ((a : Int) = i ∧ O (b : Int)) ↔ _
  rw [hO]
  constructor
  ·rintro (h | ⟨h, hb⟩)
   ·exact .inl h
   ·exact .inr ⟨h, by omega, by omega, hb⟩
  ·rintro (h | ⟨h, _, _, hb⟩)
   ·exact .inl h
   ·exact .inr ⟨h, hb⟩
 ·rcases List.mem_append.1 hp with hp | hp
  ·exact h3 p hp
  ·obtain ⟨q1, q2, q3, q4⟩ := ndP_mem.1 hp
   exact ⟨⟨by rw [q1]; exact q2, by rw [q1]; exact hi⟩, q3, hl _ q4⟩
theorem RGS.push {mb m : M} {gid : Nat} {g : Gs} {B : Nat} (h : RGS mb gid g B m) (C : List PV) : RGS mb gid g B (m.push C) := by
 obtain ⟨P, h1, h2, h3, h4⟩ := h.ex
 exact ⟨P, h1.push C, h2, h3, h4⟩
theorem RGS.put {mb m' : M} {gid : Nat} {g : Gs} {B : Nat} {P : List (Int × Int)} {v : Va} (h1 : P.length ≤ B) (h2 : ∀ a b : Nat, g.E a b ↔ ((a : Int), (b : Int)) ∈ P) (h3 : ∀ p ∈ P, (0 ≤ p.1 ∧ p.1 < (g.vs.length : Int)) ∧ 0 ≤ p.2 ∧ p.2 < (g.vs.length : Int))
    (hr : RgM mb gid (nmG g ++ [v.name]) ((g.vs.map fun v => (v.line, v.col)) ++ [(v.line, v.col)]) P m') : RGS mb gid (g.put v) B m' := by
 refine ⟨P, by simpa [Gs.put, nmG] using hr, h1, h2, fun p hp => ?_⟩
 obtain ⟨⟨q1, q2⟩, q3, q4⟩ := h3 p hp
 have : ((g.put v).vs.length : Int) = (g.vs.length : Int) + 1 := by simp [Gs.put]
 omega
/-- A plain equation: one variable, no blocks. -/
structure FlQ (q : Qu) : Prop where
 kind : q.kind = 1
 lhs : ∃ x, q.lhs = [x]
 args : q.args = []
 arms : q.arms = []
 e : CsX q.e
end Go.Proofs.Ytaealemhegdmpaa

/-
 The reference: what equations and blocks define, exactly.
-/
set_option linter.unusedVariables false
set_option linter.unusedSimpArgs false
namespace Go.Proofs.Ytaealemhegdmpaa
open Nat renaming reduceEqDiff → jA, reduceAdd → jB, reduceMul → jC, reduceLT → jD, reduceLeDiff → jE, reduceBEq → jF, reduceBNe → jG
open Int renaming reduceLE → jH, reduceLT → jI, reduceToNat → jJ, reduceEq → jK
open Go
-- EXX: Qu.settle_pv, Qu.pure_pv, Qu.cells_pv, Qu.cs, Am.settle_pv, Am.pure_pv, Am.cells_pv, Am.cs, Tr.settle_pv, Tr.pure_pv, Tr.cells_pv, Tr.cs
set_option maxRecDepth 20000
-- TNAMES: int; uint8; int32; string; bool; []string; []api.Expr; api.Expr; api.Pos; api.Type; api.On; []api.On; api.Var; []api.Var; api.Equation; []api.Equation; api.Block; api.Trans; []api.Trans; api.Arm; []api.Arm


set_option maxHeartbeats 2000000 in
theorem rFind_any (o : Own) (l : List Va) (s : Str) (m : M) : ACalls Try.prog 65 [.sl o (l.map Va.pv), pS s] m (fun v m' => v = pI (findVar l s) ∧ m' = m) := by
 refine ACalls.enter (mu := []) ok_mix Try.func65 rfl (by kernel_rfl) (by kernel_rfl) (by simp only [List.length_cons, List.length_nil, Try.ntmps65]; omega) ?_
 (repeat (first | refine aSeq fun X hX => ?_ | refine aBlk ?_ | refine aReg ?_; simp -implicitDefEqProofs only [↓slp, slb] | apply hX; clear hX X))
 obtain ⟨I, hI⟩ : ∃ I : F → M → Prop, ∀ f m', I f m' = (∃ k : Nat, k ≤ l.length ∧ f 0 = .sl o (l.map (Va.pv)) ∧ f 1 = pS s ∧ f 5 = pI k ∧ findVar l s = idxF (fun e : Va => eqS e.name s) (l.drop k) k ∧ m' = m) := ⟨_, fun _ _ => rfl⟩
 refine aLoop I (fun f m => l.length - numOf (f 5)) ?_ ?_
 ·rw [hI]; exact ⟨0, by omega, rfl, rfl, rfl, rfl, rfl⟩
 intro f m' hrel
 rw [hI] at hrel
 obtain ⟨k, hk, h0, h1, h5, hs, rfl⟩ := hrel
 (repeat (first | refine aSeq fun X hX => ?_ | refine aReg ?_; simp -implicitDefEqProofs only [↓slp, ↓reduceIte, reduceCtorEq, jA, Y1, h0, h5, pI] | apply hX; clear hX X | intro hlen; unfold maxLen at hlen))
 refine aIf ?_; simp -implicitDefEqProofs only [slb, ↓reduceIte]; refine ⟨fun hb => ?_, fun hb => ?_⟩
 ·have hlt : k < l.length := by simpa using hb
  have g0 := getD_map (Va.pv) l k hlt
  have hi : IntKind.i64.wrap ((k : Int) + 1) = ((k + 1 : Nat) : Int) := by rw [wrap64 (by omega)]; omega
  have hd := idxF_drop (p := fun e : Va => eqS e.name s) hlt
  cases c1 : (l[k].name.toList == s.toList) with
  | true =>
   have c2 : eqS l[k].name s = true := c1
   (repeat (first | refine aSeq fun X hX => ?_ | refine aSkip ?_ | refine aRet ?_; try simp only [slx, ↓reduceIte, jA, reduceCtorEq] | (first | apply aReg | apply aIf); simp -implicitDefEqProofs only [↓slp, ↓reduceIte, reduceCtorEq, jA, jB, jE, Y1, h0, h1, h5, pI, pS, g0, c1] | apply hX; clear hX X | apply And.intro; focus omega))
   simp only [aPost, Try.results65, aRes_n, aRes_t, aRes_c, pack_one, pack_two]
   have hv : findVar l s = (k : Int) := by rw [hs, hd]; simp [c2]
   exact leave_same rfl ⟨by rw [hv]; rfl, rfl⟩
  | false =>
   have c2 : eqS l[k].name s = false := c1
   (repeat (first | refine aSeq fun X hX => ?_ | refine aSkip ?_ | (first | apply aReg | apply aIf); simp -implicitDefEqProofs only [↓slp, ↓reduceIte, reduceCtorEq, jA, jB, jE, Y1, h0, h1, h5, pI, pS, g0, c1, hi] | apply hX; clear hX X | apply And.intro; focus omega))
   rw [hI]
   refine ⟨⟨k + 1, hlt, h0, h1, rfl, by rw [hs, hd]; simp [c2], rfl⟩, ?_⟩
   first | omega | (simp only [↓slp, slb, ↓reduceIte, reduceCtorEq, jA, jB, jC, jD, jE, jF, jG, jH, jI, jJ, jK, h5, pI]; omega)
 ·have hlt : k = l.length := by simp at hb; omega
  subst hlt
  (repeat (first | refine aSeq fun X hX => ?_ | (first | refine aExit ?_ | refine aRet ?_); try simp only [slx, ↓reduceIte, jA, reduceCtorEq] | refine aReg ?_; simp -implicitDefEqProofs only [↓slp, slb] | apply hX; clear hX X | clear hX X; apply hX; clear hX X))
  simp only [aPost, Try.results65, aRes_n, aRes_t, aRes_c, pack_one, pack_two]
  have hv : findVar l s = -1 := by rw [hs]; simp [idxF]
  exact leave_same rfl ⟨by rw [hv]; rfl, rfl⟩
def DQR (df : DfT) (q : Qu) : Prop := ∀ m : M, ACalls Try.prog 35 [q.pv] m (fun v m' => v = .sl .no ((dfQ df q).map pS) ∧ m' = m)
def DBR (df : DfT) (V : List Va) (Q : List Qu) : Prop := ∀ m : M, ACalls Try.prog 52 [.ag [.sl .no (V.map Va.pv), .sl .no (Q.map Qu.pv)]] m (fun v m' => v = .sl .no ((df V Q).map pS) ∧ m' = m)
set_option maxHeartbeats 4000000 in
theorem rdefines_step {df : DfT} {PD : List Va → List Qu → List Str → Prop} (hPD : ∀ V Q T, PD V Q T → T.length ≤ 100 → DBC df V Q T) (hPR : ∀ V Q T, PD V Q T → T.length ≤ 100 → DBR df V Q) (q : Qu) (T : List Str) (hT : T.length ≤ 100) (hq : DfQ PD q T) : DQR df q := by
 obtain ⟨hl, hlT, ha⟩ := hq
 have hG : ∀ k, Grow q.lhs T (dfA df q.lhs (q.arms.take k)) := fun k => (Grow.nil _ _).dfA (fun a hak => (hPD _ _ _ (ha a (List.mem_of_mem_take hak)) hT).1.1)
 intro m
 refine ACalls.enter (mu := []) ok_mix Try.func35 rfl (by kernel_rfl) (by kernel_rfl) (by simp only [List.length_cons, List.length_nil, Try.ntmps35]; omega) ?_
 (repeat (first | refine aSeq fun X hX => ?_ | refine aBlk ?_ | refine aReg ?_; simp -implicitDefEqProofs only [↓slp, ↓reduceIte, Y1] | apply hX; clear hX X))
 obtain ⟨I, hI⟩ : ∃ I : F → M → Prop, ∀ f m', I f m' = (∃ (k : Nat) (o : Own), k ≤ q.lhs.length ∧ f 1 = .ep q.cs ∧ f 3 = .sl o ((q.lhs.take k).map pS) ∧ f 4 = pI k ∧ Toks m m' ∧ Mine m m' o 1) := ⟨_, fun _ _ => rfl⟩
 refine aLoop I (fun f m => q.lhs.length - numOf (f 4)) ?_ ?_
 ·rw [hI]; exact ⟨0, .full, by omega, rfl, rfl, rfl, .refl _, .full⟩
 intro f m' hrel
 rw [hI] at hrel
 obtain ⟨k, o, hk, f1, f3, f4, htk, hmi⟩ := hrel
 cases c1 : decide ((k : Int) < (q.lhs.length : Int)) with
 | true =>
  have hlt : k < q.lhs.length := by simpa using c1
  have g0 := getD_map pS q.lhs k hlt
  have hi : IntKind.i64.wrap ((k : Int) + 1) = ((k + 1 : Nat) : Int) := by rw [wrap64 (by omega)]; omega
  have hme : numOf (f 4) = k := by rw [f4]; exact Int.toNat_natCast k
  have hfr := hmi.free
  have h11 := strsQ (q.lhs.take k)
  have hmx : (q.lhs.take k).length + 1 ≤ maxLen := by rw [List.length_take]; unfold maxLen; omega
  have hnx : q.lhs.take (k + 1) = q.lhs.take k ++ [q.lhs[k]] := List.take_succ_eq_append_getElem hlt
  have htl : (q.lhs.take k).length = k := by rw [List.length_take]; omega
  generalize q.lhs.take k = R at *
  generalize q.lhs[k] = s at *
  (repeat (first | refine aSeq fun X hX => ?_ | refine aBlk ?_ | refine aSkip ?_ | (first | apply aReg | apply aIf); simp -implicitDefEqProofs only [forall_eq, ↓slp, ↓reduceIte, reduceCtorEq, jA, jB, jC, jE, Y1, f1, f3, f4, pI, pS, c1, g0, hi, hlt] | apply hX; clear hX X | intro hlen; unfold maxLen at hlen | apply And.intro; focus ((repeat' apply And.intro) <;> first | omega | assumption)))
  rw [hI]
  exact ⟨⟨k + 1, .tok m'.nt, hlt, f1, by rw [hnx, List.map_append]; rfl, rfl, htk.use hmi, Mine.new htk o 1⟩, by omega⟩
 | false =>
  obtain rfl : k = q.lhs.length := by simp at c1; omega
  rw [List.take_length] at f3
  (repeat (first | refine aSeq fun X hX => ?_ | refine aBlk ?_ | refine aExit ?_; try simp only [slx, ↓reduceIte, jA, reduceCtorEq] | (first | apply aReg | apply aIf); simp -implicitDefEqProofs only [↓slp, ↓reduceIte, reduceCtorEq, jA, jB, jE, Y1, f1, f4, pI, c1] | apply hX; clear hX X | clear hX X; apply hX; clear hX X | intro hlen; unfold maxLen at hlen))
  clear I hI
  obtain ⟨I, hI⟩ : ∃ I : F → M → Prop, ∀ f m', I f m' = (∃ (k : Nat) (o : Own), k ≤ q.arms.length ∧ f 1 = .ep q.cs ∧ f 3 = .sl o ((dfA df q.lhs (q.arms.take k)).map pS) ∧ f 5 = pI k ∧ Toks m m') := ⟨_, fun _ _ => rfl⟩
  refine aLoop I (fun f m => q.arms.length - numOf (f 5)) ?_ ?_
  ·rw [hI]; exact ⟨0, o, by omega, f1, f3, rfl, htk⟩
  clear f1 f3 f4 htk hmi
  intro f m' hrel
  rw [hI] at hrel
  obtain ⟨k, o, hk, f1, f3, f5, htk⟩ := hrel
  have hg := hG k
  have hlen2 := hg.len
  cases c1 : decide ((k : Int) < (q.arms.length : Int)) with
  | false =>
   obtain rfl : k = q.arms.length := by simp at c1; omega
   rw [List.take_length] at f3
   (repeat (first | refine aSeq fun X hX => ?_ | (first | refine aExit ?_ | refine aRet ?_); try simp only [slx, ↓reduceIte, jA, reduceCtorEq] | (first | apply aReg | apply aIf); simp -implicitDefEqProofs only [↓slp, ↓reduceIte, reduceCtorEq, jA, jB, jE, Y1, f1, f3, f5, pI, c1] | apply hX; clear hX X | clear hX X; apply hX; clear hX X | intro hlen; unfold maxLen at hlen))
   simp only [aPost, Try.results35, aRes_n, aRes_t, aRes_c, pack_one, pack_two]
   simp -implicitDefEqProofs only [slb, ↓reduceIte]
   exact leave_toks0 htk rfl ⟨rfl, rfl⟩
  | true =>
   have hlt : k < q.arms.length := by simpa using c1
   have g0 := getD_map Am.pv q.arms k hlt
   have hme : numOf (f 5) = k := by rw [f5]; exact Int.toNat_natCast k
   have hb := hPD _ _ _ (ha q.arms[k] (List.getElem_mem hlt)) hT
   have hb1 := hPR _ _ _ (ha q.arms[k] (List.getElem_mem hlt)) hT m'
   have hnx := dfA_take (df := df) (l := q.lhs) hlt
   have hb2 := hb.1
   generalize hr0 : df q.arms[k].vars q.arms[k].eqs = r at *
   generalize hA0 : dfA df q.lhs (q.arms.take k) = A at *
   (repeat (first | refine aSeq fun X hX => ?_ | refine aSkip ?_ | (first | apply aReg | apply aIf); simp -implicitDefEqProofs only [↓slp, ↓reduceIte, reduceCtorEq, jA, jB, jE, Y1, f1, f5, pI, c1, g0] | apply hX; clear hX X | intro hlen; unfold maxLen at hlen | apply And.intro; focus omega))
   have hi : IntKind.i64.wrap ((k : Int) + 1) = ((k + 1 : Nat) : Int) := by rw [wrap64 (by omega)]; omega
   refine callM hb1 ?_
   rintro v mc ⟨rfl, rfl⟩
   simp -implicitDefEqProofs only [↓slp, slb, ↓reduceIte]
   (repeat (first | refine aSeq fun X hX => ?_ | refine aBlk ?_ | refine aReg ?_; simp -implicitDefEqProofs only [↓slp, slb] | apply hX; clear hX X))
   obtain ⟨J, hJ⟩ : ∃ J : F → M → Prop, ∀ f m', J f m' = (∃ (j : Nat) (o : Own), j ≤ r.length ∧ f 1 = .ep q.cs ∧ f 3 = .sl o ((addL A (r.take j)).map pS) ∧ f 5 = pI k ∧ f 6 = .sl .no (r.map pS) ∧ f 7 = pI j ∧ Toks m m') := ⟨_, fun _ _ => rfl⟩
   refine aLoop J (fun f m => r.length - numOf (f 7)) ?_ ?_
   ·rw [hJ]; exact ⟨0, o, by omega, f1, f3, f5, rfl, rfl, htk⟩
   clear f1 f3 f5 htk hb1
   intro f m' hrel
   rw [hJ] at hrel
   obtain ⟨j, o, hj, f1, f3, f5, f6, f7, htk⟩ := hrel
   cases c2 : decide ((j : Int) < (r.length : Int)) with
   | true =>
    have hltj : j < r.length := by simpa using c2
    have gj := getD_map pS r j hltj
    have hij : IntKind.i64.wrap ((j : Int) + 1) = ((j + 1 : Nat) : Int) := by rw [wrap64 (by omega)]; omega
    have hmej : numOf (f 7) = j := by rw [f7]; exact Int.toNat_natCast j
    have hlen3 := (hg.addL (r := r.take j) (fun x hx => hb2.1 x (List.mem_of_mem_take hx))).len
    (repeat (first | refine aSeq fun X hX => ?_ | refine aBlk ?_ | refine aSkip ?_ | (first | apply aReg | apply aIf); simp -implicitDefEqProofs only [↓slp, ↓reduceIte, reduceCtorEq, jA, jB, Y1, f3, f6, f7, pI, pS, c2, gj] | apply hX; clear hX X | intro hlen; unfold maxLen at hlen | apply And.intro; focus omega))
    refine callMS (rAdd_any (addL A (r.take j)) r[j] m' (by omega)) (by simp only [List.map_cons, List.map_nil, PV.settle, PV.settles]) ?_
    rintro v mc ⟨rfl, rfl⟩
    simp -implicitDefEqProofs only [↓slp, slb, ↓reduceIte]
    (repeat (first | refine aReg ?_; simp -implicitDefEqProofs only [↓slp, slb, ↓reduceIte, jA, f7, pI, hij] | apply hX; clear hX X))
    rw [hJ]
    exact ⟨⟨j + 1, .no, hltj, f1, by rw [addL_take hltj]; rfl, f5, f6, rfl, htk⟩, by omega⟩
   | false =>
    obtain rfl : j = r.length := by simp at c2; omega
    rw [List.take_length] at f3
    (repeat (first | refine aSeq fun X hX => ?_ | refine aExit ?_; try simp only [slx, ↓reduceIte, jA, reduceCtorEq] | (first | apply aReg | apply aIf); simp -implicitDefEqProofs only [↓slp, ↓reduceIte, jA, Y1, f5, hi, f6, f7, pI, c2] | apply hX; clear hX X | clear hX X; apply hX; clear hX X | intro hlen; unfold maxLen at hlen))
    rw [hI]
    exact ⟨⟨k + 1, o, hlt, f1, by rw [hnx]; exact f3, rfl, htk⟩, by omega⟩
set_option maxHeartbeats 4000000 in
theorem rbdefines_step {df : DfT} {PD : List Va → List Qu → List Str → Prop} (hPD : ∀ V Q T, PD V Q T → T.length ≤ 100 → DBC df V Q T) (hPR : ∀ V Q T, PD V Q T → T.length ≤ 100 → DBR df V Q) (V : List Va) (Q : List Qu) (T : List Str) (hT : T.length ≤ 100) (hQ : ∀ q ∈ Q, ∃ Tq, Tq.length ≤ 100 ∧ (∀ x ∈ Tq, x ∈ T ∨ x ∈ V.map Va.name) ∧ DfQ PD q Tq) : DBR (dfBl df) V Q := by
 have hdq : ∀ q ∈ Q, (∀ x ∈ dfQ df q, x ∈ T ∨ x ∈ V.map Va.name) ∧ ∃ Tq, Tq.length ≤ 100 ∧ DfQ PD q Tq := fun q hq => by
  obtain ⟨Tq, h1, h2, h3⟩ := hQ q hq
  exact ⟨fun x hx => h2 x ((defines_step hPD q Tq h1 h3).1 x hx), Tq, h1, h3⟩
 have hG : ∀ k, Grow [] T (dfBl df V (Q.take k)) := fun k => Grow.dfBl (.nil [] T) (fun q hq => (hdq q (List.mem_of_mem_take hq)).1)
 intro m
 refine ACalls.enter (mu := []) ok_mix Try.func52 rfl (by kernel_rfl) (by kernel_rfl) (by simp only [List.length_cons, List.length_nil, Try.ntmps52]; omega) ?_
 (repeat (first | refine aSeq fun X hX => ?_ | refine aBlk ?_ | refine aReg ?_; simp -implicitDefEqProofs only [↓slp, ↓reduceIte, Y1] | apply hX; clear hX X))
 obtain ⟨I, hI⟩ : ∃ I : F → M → Prop, ∀ f m', I f m' = (∃ (k : Nat) (o : Own), k ≤ Q.length ∧ f 1 = .ep [.sl .no (V.map Va.pv), .sl .no (Q.map Qu.pv)] ∧ f 3 = .sl o ((dfBl df V (Q.take k)).map pS) ∧ f 4 = pI k ∧ m' = m) := ⟨_, fun _ _ => rfl⟩
 refine aLoop I (fun f m => Q.length - numOf (f 4)) ?_ ?_
 ·rw [hI]; exact ⟨0, .full, by omega, rfl, rfl, rfl, rfl⟩
 intro f m' hrel
 rw [hI] at hrel
 obtain ⟨k, o, hk, f1, f3, f4, rfl⟩ := hrel
 have hg := hG k
 cases c1 : decide ((k : Int) < (Q.length : Int)) with
 | false =>
  obtain rfl : k = Q.length := by simp at c1; omega
  rw [List.take_length] at f3
  (repeat (first | refine aSeq fun X hX => ?_ | (first | refine aExit ?_ | refine aRet ?_); try simp only [slx, ↓reduceIte, jA, reduceCtorEq] | (first | apply aReg | apply aIf); simp -implicitDefEqProofs only [↓slp, ↓reduceIte, reduceCtorEq, jA, jB, jE, Y1, f1, f3, f4, pI, c1] | apply hX; clear hX X | clear hX X; apply hX; clear hX X | intro hlen; unfold maxLen at hlen))
  simp only [aPost, Try.results52, aRes_n, aRes_t, aRes_c, pack_one, pack_two]
  simp -implicitDefEqProofs only [slb, ↓reduceIte]
  exact leave_same rfl ⟨rfl, rfl⟩
 | true =>
  have hlt : k < Q.length := by simpa using c1
  have g0 := getD_map Qu.pv Q k hlt
  have hme : numOf (f 4) = k := by rw [f4]; exact Int.toNat_natCast k
  obtain ⟨hrT, Tq, hTq, hdfq⟩ := hdq Q[k] (List.getElem_mem hlt)
  have hb := rdefines_step hPD hPR Q[k] Tq hTq hdfq m'
  have hrl : (dfQ df Q[k]).length ≤ 200 := by
   have := ((Grow.nil Q[k].lhs Tq).dfA (df := df) (ar := Q[k].arms) (fun a ha => (hPD _ _ _ (hdfq.2.2 a ha) hTq).1.1)).len
   have h2 := hdfq.1
   show (dfA df Q[k].lhs Q[k].arms).length ≤ 200
   omega
  have hnx := dfBl_take (df := df) (V := V) hlt
  rw [Qu.pv_eq] at hb
  generalize hr0 : dfQ df Q[k] = r at *
  generalize hA0 : dfBl df V (Q.take k) = A at *
  (repeat (first | refine aSeq fun X hX => ?_ | refine aSkip ?_ | (first | apply aReg | apply aIf); simp -implicitDefEqProofs only [↓slp, ↓reduceIte, reduceCtorEq, jA, jB, jE, Y1, f1, f4, pI, c1, g0] | apply hX; clear hX X | intro hlen; unfold maxLen at hlen | apply And.intro; focus omega))
  have hi : IntKind.i64.wrap ((k : Int) + 1) = ((k + 1 : Nat) : Int) := by rw [wrap64 (by omega)]; omega
  refine callM hb ?_
  rintro v mc ⟨rfl, rfl⟩
  simp -implicitDefEqProofs only [↓slp, slb, ↓reduceIte]
  (repeat (first | refine aSeq fun X hX => ?_ | refine aBlk ?_ | refine aReg ?_; simp -implicitDefEqProofs only [↓slp, slb] | apply hX; clear hX X))
  obtain ⟨J, hJ⟩ : ∃ J : F → M → Prop, ∀ f m2, J f m2 = (∃ (j : Nat) (o : Own), j ≤ r.length ∧ f 1 = .ep [.sl .no (V.map Va.pv), .sl .no (Q.map Qu.pv)] ∧ f 3 = .sl o ((addV V A (r.take j)).map pS) ∧ f 4 = pI k ∧ f 5 = .sl .no (r.map pS) ∧ f 6 = pI j ∧ m2 = mc) := ⟨_, fun _ _ => rfl⟩
  refine aLoop J (fun f m => r.length - numOf (f 6)) ?_ ?_
  ·rw [hJ]; exact ⟨0, o, by omega, f1, f3, f4, rfl, rfl, rfl⟩
  clear f1 f3 f4 hb
  intro f m2 hrel
  rw [hJ] at hrel
  obtain ⟨j, o, hj, f1, f3, f4, f5, f6, rfl⟩ := hrel
  cases c2 : decide ((j : Int) < (r.length : Int)) with
  | true =>
   have hltj : j < r.length := by simpa using c2
   have gj := getD_map pS r j hltj
   have hij : IntKind.i64.wrap ((j : Int) + 1) = ((j + 1 : Nat) : Int) := by rw [wrap64 (by omega)]; omega
   have hmej : numOf (f 6) = j := by rw [f6]; exact Int.toNat_natCast j
   have hvT : ∀ x ∈ r, findVar V x < 0 → x ∈ T := fun x hx hv => by
    rcases hrT x hx with h1 | h1
    ·exact h1
    ·obtain ⟨v, hv1, he⟩ := List.mem_map.1 h1
     rcases findVar_spec V x with ⟨_, h2⟩ | ⟨i, _, h2, _⟩
     ·exact absurd he (h2 v hv1)
     ·rw [h2] at hv; omega
   have hlen3 := (hg.addV (r := r.take j) (fun x hx => hvT x (List.mem_of_mem_take hx))).len
   simp only [List.length_nil] at hlen3
   have hstp := addV_take (V := V) (l := A) hltj
   (repeat (first | refine aSeq fun X hX => ?_ | refine aSkip ?_ | (first | apply aReg | apply aIf); simp -implicitDefEqProofs only [↓slp, ↓reduceIte, reduceCtorEq, jA, Y1, f5, f6, pI, c2] | apply hX; clear hX X | intro hlen; unfold maxLen at hlen))
   (repeat (refine aDrE ?_; simp -implicitDefEqProofs only [↓slp, ↓reduceIte, reduceCtorEq, jA, jB, jE, Y1, f1, f5, f6, pI, pS, gj, hltj]))
   refine callE (rFind_any _ V r[j] _) ?_
   rcases findVar_spec V r[j] with ⟨h1, h2⟩ | ⟨i, hiV, h1, h2, _⟩
   ·have c3 : decide ((-1 : Int) < 0) = true := rfl
    have hs1 : addV1 V (addV V A (r.take j)) r[j] = addS (addV V A (r.take j)) r[j] := by unfold addV1; rw [if_pos (by rw [h1]; omega)]
    rw [h1]
    refine ⟨rfl, ?_⟩
    simp -implicitDefEqProofs only [↓slp, slb, ↓reduceIte, jI, pI]
    (repeat (first | (first | apply aReg | apply aIf); simp -implicitDefEqProofs only [↓slp, ↓reduceIte, reduceCtorEq, jA, jB, Y1, f3, f5, f6, pI, pS, gj, hltj] | apply hX; clear hX X))
    refine callMS (rAdd_any (addV V A (r.take j)) r[j] m2 (by omega)) (by simp only [List.map_cons, List.map_nil, PV.settle, PV.settles]) ?_
    rintro v mc ⟨rfl, rfl⟩
    simp -implicitDefEqProofs only [↓slp, slb, ↓reduceIte]
    (repeat (first | refine aReg ?_; simp -implicitDefEqProofs only [↓slp, slb, ↓reduceIte, jA, f6, pI, hij] | apply hX; clear hX X))
    rw [hJ]
    exact ⟨⟨j + 1, .no, hltj, f1, by rw [hstp, hs1]; rfl, f4, f5, rfl, rfl⟩, by omega⟩
   ·have c3 : decide (((i : Nat) : Int) < 0) = false := by simp
    have hs1 : addV1 V (addV V A (r.take j)) r[j] = addV V A (r.take j) := by unfold addV1; rw [if_neg (by rw [h1]; omega)]
    rw [h1]
    refine ⟨rfl, ?_⟩
    simp -implicitDefEqProofs only [↓slp, slb, ↓reduceIte, pI, c3]
    (repeat (first | refine aSkip ?_ | (first | apply aReg | apply aIf); simp -implicitDefEqProofs only [↓slp, slb, ↓reduceIte, jA, f6, pI, hij] | apply hX; clear hX X))
    rw [hJ]
    exact ⟨⟨j + 1, o, hltj, f1, by rw [hstp, hs1]; exact f3, f4, f5, rfl, rfl⟩, by omega⟩
  | false =>
   obtain rfl : j = r.length := by simp at c2; omega
   rw [List.take_length] at f3
   (repeat (first | refine aSeq fun X hX => ?_ | refine aExit ?_; try simp only [slx, ↓reduceIte, jA, reduceCtorEq] | (first | apply aReg | apply aIf); simp -implicitDefEqProofs only [↓slp, ↓reduceIte, jA, Y1, f4, hi, f5, f6, pI, c2] | apply hX; clear hX X | clear hX X; apply hX; clear hX X | intro hlen; unfold maxLen at hlen))
   rw [hI]
   exact ⟨⟨k + 1, o, hlt, f1, by rw [hnx]; exact f3, rfl, rfl⟩, by omega⟩
theorem rbdefines_any : ∀ (d : Nat) (V : List Va) (Q : List Qu) (T : List Str), DfB d V Q T → T.length ≤ 100 → DBR (dfF d) V Q
 | 0, V, Q, T, h, hT => rbdefines_step (df := fun _ _ => []) (PD := fun _ _ _ => False) (fun V Q T h _ => h.elim) (fun V Q T h _ => h.elim) V Q T hT h
 | d + 1, V, Q, T, h, hT => rbdefines_step (df := dfF d) (PD := DfB d) (fun V Q T h hT => bdefines_any d V Q T h hT) (fun V Q T h hT => rbdefines_any d V Q T h hT) V Q T hT h
end Go.Proofs.Ytaealemhegdmpaa
