/-
  Texts that belong together: CrB, CrK.
-/
import Derived.Test.YtaealemhegdmpaaDoorCrA
import Derived.Test.YtaealemhegdmpaaDoorCgE
/-
  The reference's graph (layer 11): a block without blocks in it.
-/
set_option linter.unusedVariables false
set_option linter.unusedSimpArgs false
namespace Go.Proofs.YtaealemhegdmpaaDoor
open Nat renaming reduceEqDiff → jA, reduceAdd → jB, reduceMul → jC, reduceLT → jD, reduceLeDiff → jE, reduceBEq → jF, reduceBNe → jG
open Int renaming reduceLE → jH, reduceLT → jI, reduceToNat → jJ, reduceEq → jK
open Go
-- EXX: Qu.settle_pv, Qu.pure_pv, Qu.cells_pv, Qu.cs
set_option maxRecDepth 20000
-- TNAMES: int; uint8; int32; string; bool; []string; []api.Expr; api.Expr; api.Pos; []api.Pos; api.Type; api.On; []api.On; api.Var; []api.Var; api.Equation; []api.Equation; api.Block; api.Arm; []api.Arm; []int; [2]int; [][2]int; []bool; [][]bool; metronomeref11.Graph; *metronomeref11.Graph
set_option linter.defProp false
def tfCrB := And.intro @tfA (And.intro @Ex.settle_pv (And.intro @Ex.pure_pv (And.intro @Ex.cells_pv (And.intro @Ex.cs.eq_1 (And.intro @On.pv.eq_1 (And.intro @Ty.pv.eq_1 (And.intro @Va.settle_pv (And.intro @Va.pure_pv (And.intro @Va.cells_pv (And.intro @Va.cs.eq_1 (And.intro @Qu.settle_pv (And.intro @Qu.pure_pv (And.intro @Qu.cells_pv @Qu.cs.eq_1)))))))))))))

set_option maxHeartbeats 4000000 in
theorem rdef_any (q : Qu) (ha : q.arms = []) (hl : q.lhs.length < 2 ^ 40) (m : M) : ACalls Tryd.prog 42 [q.pv] m (fun v m' => v = .sl .no (q.lhs.map pS) ∧ m' = m) := by
  refine ACalls.enter (mu := []) ok_mix Tryd.func42 rfl (by kernel_rfl) (by kernel_rfl) (by simp only [List.length_cons, List.length_nil, Tryd.ntmps42]; omega) ?_
  (repeat (first | refine aSeq fun X hX => ?_ | refine aBlk ?_ | refine aSkip ?_ | (first | refine aExit ?_ | refine aRet ?_); try simp only [slx, ↓reduceIte, jA, reduceCtorEq] | (first | refine aReg ?_ | refine aIf ?_); simp -implicitDefEqProofs only [forall_eq, ↓slp, slb, ↓reduceIte, reduceCtorEq, jA, jB, jC, jD, jE, jF, jG, jH, jI, jJ, jK, tfCrB]; try simp only [fo] | refine hX _ _ ?_; clear hX X | clear hX X; refine hX _ _ ?_; clear hX X | clear hX X; clear hX X; refine hX _ _ ?_; clear hX X | intro hlen; unfold maxLen at hlen | apply And.intro; focus (first | omega | assumption | (repeat' apply And.intro) <;> first | omega | assumption)))
  obtain ⟨I, hI⟩ : ∃ I : F → M → Prop, ∀ f m', I f m' = (∃ (k : Nat) (o : Own), k ≤ q.lhs.length ∧ f 1 = .ep q.cs ∧ f 3 = .sl o ((q.lhs.take k).map pS) ∧ f 4 = pI k ∧ Toks m m' ∧ Mine m m' o 1) := ⟨_, fun _ _ => rfl⟩
  refine aLoop I (fun f m => q.lhs.length - numOf (f 4)) ?_ ?_
  · rw [hI]; exact ⟨0, .full, by omega, rfl, rfl, rfl, .refl _, .full⟩
  intro f m' hrel
  rw [hI] at hrel
  obtain ⟨k, o, hk, f1, f3, f4, htk, hmi⟩ := hrel
  cases c1 : decide ((k : Int) < (q.lhs.length : Int)) with
  | true =>
    have hlt : k < q.lhs.length := by simpa using c1
    have g0 := getD_map pS q.lhs k hlt
    have hi : IntKind.i64.wrap ((k : Int) + 1) = ((k + 1 : Nat) : Int) := by rw [wrap64 (by omega)]; omega
    have hme : numOf (f 4) = k := by rw [f4]; exact Int.toNat_natCast k
    have hfr := hmi.free
    have h11 := strsQ (q.lhs.take k)
    have hmx : (q.lhs.take k).length + 1 ≤ maxLen := by rw [List.length_take]; unfold maxLen; omega
    have hnx : q.lhs.take (k + 1) = q.lhs.take k ++ [q.lhs[k]] := List.take_succ_eq_append_getElem hlt
    have htl : (q.lhs.take k).length = k := by rw [List.length_take]; omega
    generalize q.lhs.take k = R at *
    generalize q.lhs[k] = s at *
    (repeat (first | refine aSeq fun X hX => ?_ | refine aBlk ?_ | refine aSkip ?_ | (first | refine aExit ?_ | refine aRet ?_); try simp only [slx, ↓reduceIte, jA, reduceCtorEq] | (first | refine aReg ?_ | refine aIf ?_); simp -implicitDefEqProofs only [forall_eq, ↓slp, slb, ↓reduceIte, reduceCtorEq, jA, jB, jC, jD, jE, jF, jG, jH, jI, jJ, jK, tfCrB, f1, f3, f4, pI, pS, c1, g0, hi, hlt]; try simp only [fo] | refine hX _ _ ?_; clear hX X | clear hX X; refine hX _ _ ?_; clear hX X | clear hX X; clear hX X; refine hX _ _ ?_; clear hX X | intro hlen; unfold maxLen at hlen | apply And.intro; focus (first | omega | assumption | (repeat' apply And.intro) <;> first | omega | assumption)))
    rw [hI]
    exact ⟨⟨k + 1, .tok m'.nt, hlt, f1, by rw [hnx, List.map_append]; rfl, rfl, htk.use hmi, Mine.new htk o 1⟩, by omega⟩
  | false =>
    obtain rfl : k = q.lhs.length := by simp at c1; omega
    rw [List.take_length] at f3
    (repeat (first | refine aSeq fun X hX => ?_ | refine aBlk ?_ | refine aSkip ?_ | (first | refine aExit ?_ | refine aRet ?_); try simp only [slx, ↓reduceIte, jA, reduceCtorEq] | (first | refine aReg ?_ | refine aIf ?_); simp -implicitDefEqProofs only [forall_eq, ↓slp, slb, ↓reduceIte, reduceCtorEq, jA, jB, jC, jD, jE, jF, jG, jH, jI, jJ, jK, tfCrB, f1, f3, f4, pI, pS, c1]; try simp only [fo] | refine hX _ _ ?_; clear hX X | clear hX X; refine hX _ _ ?_; clear hX X | clear hX X; clear hX X; refine hX _ _ ?_; clear hX X | intro hlen; unfold maxLen at hlen | apply And.intro; focus (first | omega | assumption | (repeat' apply And.intro) <;> first | omega | assumption)))
    obtain ⟨J, hJ⟩ : ∃ J : F → M → Prop, ∀ f m2, J f m2 = (f 1 = .ep q.cs ∧ f 3 = .sl o (q.lhs.map pS) ∧ f 5 = pI 0 ∧ m2 = m') := ⟨_, fun _ _ => rfl⟩
    refine aLoop J (fun f m => 0) ?_ ?_
    · rw [hJ]; exact ⟨f1, f3, rfl, rfl⟩
    clear f1 f3 f4
    intro f m2 hrel
    rw [hJ] at hrel
    obtain ⟨f1, f3, f5, rfl⟩ := hrel
    have hz0 : decide ((0 : Int) < ((0 : Nat) : Int)) = false := rfl
    (repeat (first | refine aSeq fun X hX => ?_ | refine aBlk ?_ | refine aSkip ?_ | (first | refine aExit ?_ | refine aRet ?_); try simp only [slx, ↓reduceIte, jA, reduceCtorEq] | (first | refine aReg ?_ | refine aIf ?_); simp -implicitDefEqProofs only [forall_eq, ↓slp, slb, ↓reduceIte, reduceCtorEq, jA, jB, jC, jD, jE, jF, jG, jH, jI, jJ, jK, tfCrB, f1, f3, f5, pI, ha, hz0]; try simp only [fo] | refine hX _ _ ?_; clear hX X | clear hX X; refine hX _ _ ?_; clear hX X | clear hX X; clear hX X; refine hX _ _ ?_; clear hX X | intro hlen; unfold maxLen at hlen | apply And.intro; focus (first | omega | assumption | (repeat' apply And.intro) <;> first | omega | assumption)))
    simp only [aPost, Tryd.results42, aRes_n, aRes_t, aRes_c, pack_one, pack_two]
    simp -implicitDefEqProofs only [↓slp, slb, ↓reduceIte, reduceCtorEq, jA, jB, jC, jD, jE, jF, jG, jH, jI, jJ, jK, tfCrB, f3]; try simp only [fo]
    exact leave_toks0 htk rfl ⟨rfl, rfl⟩
/-- The reference's graph, with what a plain graph says. -/
structure RGS (mb : M) (gid : Nat) (g : Gs) (B : Nat) (m : M) : Prop where
  ex : ∃ P, RgM mb gid (nmG g) (g.vs.map fun v => (v.line, v.col)) P m ∧ P.length ≤ B ∧ (∀ a b : Nat, g.E a b ↔ ((a : Int), (b : Int)) ∈ P) ∧ ∀ p ∈ P, (0 ≤ p.1 ∧ p.1 < (g.vs.length : Int)) ∧ 0 ≤ p.2 ∧ p.2 < (g.vs.length : Int)
theorem ndP_mem {i : Int} {l : List Int} {p : Int × Int} : p ∈ ndP i l ↔ p.1 = i ∧ 0 ≤ i ∧ 0 ≤ p.2 ∧ p.2 ∈ l := by
  unfold ndP
  simp only [List.mem_map, List.mem_filter, Bool.and_eq_true, decide_eq_true_eq]
  constructor
  · rintro ⟨k, ⟨h1, h2, h3⟩, rfl⟩
    exact ⟨rfl, h2, h3, h1⟩
  · rintro ⟨h1, h2, h3, h4⟩
    exact ⟨p.2, ⟨h4, h2, h3⟩, by rw [← h1]⟩
theorem ndP_len (i : Int) (l : List Int) : (ndP i l).length ≤ l.length := by
  unfold ndP; rw [List.length_map]; exact List.length_filter_le _ _
/-- One more need. -/
theorem RGS.need {mb m' : M} {gid : Nat} {g : Gs} {B : Nat} {i : Int} {l : List Int} {O : Int → Prop} {P : List (Int × Int)}
    (h1 : P.length ≤ B) (h2 : ∀ a b : Nat, g.E a b ↔ ((a : Int), (b : Int)) ∈ P) (h3 : ∀ p ∈ P, (0 ≤ p.1 ∧ p.1 < (g.vs.length : Int)) ∧ 0 ≤ p.2 ∧ p.2 < (g.vs.length : Int))
    (hr : RgM mb gid (nmG g) (g.vs.map fun v => (v.line, v.col)) (P ++ ndP i l) m') (hi : i < (g.vs.length : Int)) (hl : ∀ k ∈ l, k < (g.vs.length : Int)) (hO : ∀ k : Nat, O (k : Int) ↔ (k : Int) ∈ l) : RGS mb gid (g.need i O) (B + l.length) m' := by
  refine ⟨P ++ ndP i l, hr, by rw [List.length_append]; have := ndP_len i l; omega, fun a b => ?_, fun p hp => ?_⟩
  · rw [List.mem_append, ndP_mem, ← h2]
    show g.E a b ∨ ((a : Int) = i ∧ O (b : Int)) ↔ _
    rw [hO]
    constructor
    · rintro (h | ⟨h, hb⟩)
      · exact .inl h
      · exact .inr ⟨h, by omega, by omega, hb⟩
    · rintro (h | ⟨h, _, _, hb⟩)
      · exact .inl h
      · exact .inr ⟨h, hb⟩
  · rcases List.mem_append.1 hp with hp | hp
    · exact h3 p hp
    · obtain ⟨q1, q2, q3, q4⟩ := ndP_mem.1 hp
      exact ⟨⟨by rw [q1]; exact q2, by rw [q1]; exact hi⟩, q3, hl _ q4⟩
theorem RGS.push {mb m : M} {gid : Nat} {g : Gs} {B : Nat} (h : RGS mb gid g B m) (C : List PV) : RGS mb gid g B (m.push C) := by
  obtain ⟨P, h1, h2, h3, h4⟩ := h.ex
  exact ⟨P, h1.push C, h2, h3, h4⟩
theorem RGS.put {mb m' : M} {gid : Nat} {g : Gs} {B : Nat} {P : List (Int × Int)} {v : Va} (h1 : P.length ≤ B) (h2 : ∀ a b : Nat, g.E a b ↔ ((a : Int), (b : Int)) ∈ P) (h3 : ∀ p ∈ P, (0 ≤ p.1 ∧ p.1 < (g.vs.length : Int)) ∧ 0 ≤ p.2 ∧ p.2 < (g.vs.length : Int))
    (hr : RgM mb gid (nmG g ++ [v.name]) ((g.vs.map fun v => (v.line, v.col)) ++ [(v.line, v.col)]) P m') : RGS mb gid (g.put v) B m' := by
  refine ⟨P, by simpa [Gs.put, nmG] using hr, h1, h2, fun p hp => ?_⟩
  obtain ⟨⟨q1, q2⟩, q3, q4⟩ := h3 p hp
  have : ((g.put v).vs.length : Int) = (g.vs.length : Int) + 1 := by simp [Gs.put]
  omega
/-- A plain equation: one variable, no blocks. -/
structure FlQ (q : Qu) : Prop where
  kind : q.kind = 1
  lhs : ∃ x, q.lhs = [x]
  args : q.args = []
  arms : q.arms = []
  e : CsX q.e
theorem gEq_flat {see : List Nat} {g : Gs} {q : Qu} (h : FlQ q) {x : Str} (hx : q.lhs = [x]) : gEq (fun _ _ => []) (fun g _ _ _ _ => g) see (fun _ => False) g q = g.need (fndN (nmG g) see x) (fun y => False ∨ y ∈ rdL (nmG g) see [q.e]) := by
  have h1 : exQ q = [q.e] := by unfold exQ; rw [if_neg (by rw [h.kind]; decide), if_pos (.inl (by rw [h.kind]; decide)), h.args, List.append_nil]
  have h2 : dfQ (fun _ _ => []) q = [x] := by unfold dfQ; rw [h.arms, hx]; rfl
  unfold gEq
  rw [h1, h2, h.arms]; rfl
end Go.Proofs.YtaealemhegdmpaaDoor

/-
  The reference's graph (layer 11): a block without blocks in it, walked.
-/
set_option linter.unusedVariables false
set_option linter.unusedSimpArgs false
namespace Go.Proofs.YtaealemhegdmpaaDoor
open Nat renaming reduceEqDiff → jA, reduceAdd → jB, reduceMul → jC, reduceLT → jD, reduceLeDiff → jE, reduceBEq → jF, reduceBNe → jG
open Int renaming reduceLE → jH, reduceLT → jI, reduceToNat → jJ, reduceEq → jK
open Go
-- EXX: Qu.settle_pv, Qu.pure_pv, Qu.cells_pv, Qu.cs
set_option maxRecDepth 20000
-- TNAMES: int; uint8; int32; string; bool; []string; []api.Expr; api.Expr; api.Pos; []api.Pos; api.Type; api.On; []api.On; api.Var; []api.Var; api.Equation; []api.Equation; api.Block; api.Arm; []api.Arm; []int; [2]int; [][2]int; []bool; [][]bool; metronomeref11.Graph; *metronomeref11.Graph
set_option linter.defProp false
def tfCrK := tfCrB

theorem sum_zeroR {α : Type} (f : α → Nat) : ∀ (l : List α), (∀ x ∈ l, f x = 0) → (l.map f).sum = 0
  | [], _ => rfl
  | a :: l, h => by
    rw [List.map_cons, List.sum_cons, h a (List.mem_cons_self ..), sum_zeroR f l (fun x hx => h x (List.mem_cons_of_mem _ hx))]
set_option maxHeartbeats 8000000 in
theorem rblk_any (V : List Va) (Q : List Qu) (hV : ∀ v ∈ V, v.clock = []) (hQ : ∀ q ∈ Q, FlQ q) (hVl : V.length ≤ 1000) (hQl : Q.length ≤ 1000) (mb : M) (gid : Nat) (g : Gs) (see : List Nat) (B : Nat) (m : M) (hg : RGS mb gid g B m) (hs : ∀ i ∈ see, i < g.vs.length) (hgl : g.vs.length ≤ 1000000) (hsl : see.length ≤ 1000000) (hBl : B ≤ 2 ^ 30) :
    ACalls Tryd.prog 25 [.bp gid 0, .sl .no (see.map pN), .ag [.sl .no (V.map Va.pv), .sl .no (Q.map Qu.pv)], .sl .no []] m (fun v m' => v = .tp [] ∧ RGS mb gid (gBk 0 g see V Q (fun _ => False)) (B + Q.length * 1000) m' ∧ Stp m m') := by
  refine ACalls.enter (mu := [12]) ok_mix Tryd.func25 rfl (by kernel_rfl) (by kernel_rfl) (by simp only [List.length_cons, List.length_nil, Tryd.ntmps25]; omega) ?_
  (repeat (first | refine aSeq fun X hX => ?_ | refine aBlk ?_ | refine aSkip ?_ | (first | refine aExit ?_ | refine aRet ?_); try simp only [slx, ↓reduceIte, jA, reduceCtorEq] | (first | refine aReg ?_ | refine aIf ?_); simp -implicitDefEqProofs only [forall_eq, ↓slp, slb, ↓reduceIte, reduceCtorEq, jA, jB, jC, jD, jE, jF, jG, jH, jI, jJ, jK, tfCrK]; try simp only [fo] | refine hX _ _ ?_; clear hX X | clear hX X; refine hX _ _ ?_; clear hX X | clear hX X; clear hX X; refine hX _ _ ?_; clear hX X | intro hlen; unfold maxLen at hlen | apply And.intro; focus (first | omega | assumption | (repeat' apply And.intro) <;> first | omega | assumption)))
  obtain ⟨I, hI⟩ : ∃ I : F → M → Prop, ∀ f m', I f m' = (∃ k : Nat, k ≤ V.length ∧ f 0 = .bp gid 0 ∧ f 1 = .sl .no ((gVars (g, see) (V.take k)).2.map pN) ∧ f 3 = .sl .no [] ∧ f 6 = .ep [.sl .no (V.map Va.pv), .sl .no (Q.map Qu.pv)] ∧ f 8 = pI k ∧ RGS mb gid (gVars (g, see) (V.take k)).1 B m' ∧ Stp m m') := ⟨_, fun _ _ => rfl⟩
  refine aLoop I (fun f m => V.length - numOf (f 8)) ?_ ?_
  · rw [hI]; exact ⟨0, by omega, rfl, rfl, rfl, rfl, rfl, hg, Stp.refl m⟩
  intro f m' hrel
  rw [hI] at hrel
  obtain ⟨k, hk, f0, f1, f3, f6, f8, hg1, hst⟩ := hrel
  cases c1 : decide ((k : Int) < (V.length : Int)) with
  | true =>
    have hlt : k < V.length := by simpa using c1
    have g0 := getD_map Va.pv V k hlt
    have hi : IntKind.i64.wrap ((k : Int) + 1) = ((k + 1 : Nat) : Int) := by rw [wrap64 (by omega)]; omega
    have hme : numOf (f 8) = k := by rw [f8]; exact Int.toNat_natCast k
    obtain ⟨hw1, hw2, hw3⟩ := gVars_eq (V.take k) g see
    have hnx := gVars_take (p := (g, see)) hlt
    have hwl1 : (gVars (g, see) (V.take k)).1.vs.length ≤ 1001000 := by rw [hw1]; simp; omega
    have hwl2 : (gVars (g, see) (V.take k)).2.length ≤ 1001000 := by rw [hw3]; simp; omega
    generalize gVars (g, see) (V.take k) = p at *
    obtain ⟨P, q1, q2, q3, q4⟩ := hg1.ex
    have hp := rput_any mb gid (nmG p.1) (p.1.vs.map fun v => (v.line, v.col)) P p.2 V[k] m' q1 (by simp; omega) (by simp) (by omega)
    rw [show (nmG p.1).length = p.1.vs.length by simp] at hp
    (repeat (first | refine aSeq fun X hX => ?_ | refine aBlk ?_ | refine aSkip ?_ | (first | refine aExit ?_ | refine aRet ?_); try simp only [slx, ↓reduceIte, jA, reduceCtorEq] | (first | refine aReg ?_ | refine aIf ?_); simp -implicitDefEqProofs only [forall_eq, ↓slp, slb, ↓reduceIte, reduceCtorEq, jA, jB, jC, jD, jE, jF, jG, jH, jI, jJ, jK, tfCrK, f0, f1, f3, f6, f8, pI, c1, g0]; try simp only [fo] | refine hX _ _ ?_; clear hX X | clear hX X; refine hX _ _ ?_; clear hX X | clear hX X; clear hX X; refine hX _ _ ?_; clear hX X | intro hlen; unfold maxLen at hlen | apply And.intro; focus (first | omega | assumption | (repeat' apply And.intro) <;> first | omega | assumption)))
    refine callMS hp (by simp only [List.map_cons, List.map_nil, PV.settle, PV.settles]; rfl) ?_
    rintro v mc ⟨rfl, r1, r2⟩
    simp -implicitDefEqProofs only [↓slp, slb, ↓reduceIte, reduceCtorEq, jA, jB, jC, jD, jE, jF, jG, jH, jI, jJ, jK, tfCrK]; try simp only [fo]
    (repeat (first | refine aSeq fun X hX => ?_ | refine aBlk ?_ | refine aSkip ?_ | (first | refine aExit ?_ | refine aRet ?_); try simp only [slx, ↓reduceIte, jA, reduceCtorEq] | (first | refine aReg ?_ | refine aIf ?_); simp -implicitDefEqProofs only [forall_eq, ↓slp, slb, ↓reduceIte, reduceCtorEq, jA, jB, jC, jD, jE, jF, jG, jH, jI, jJ, jK, tfCrK, f8, pI, hi]; try simp only [fo] | refine hX _ _ ?_; clear hX X | clear hX X; refine hX _ _ ?_; clear hX X | clear hX X; clear hX X; refine hX _ _ ?_; clear hX X | intro hlen; unfold maxLen at hlen | apply And.intro; focus (first | omega | assumption | (repeat' apply And.intro) <;> first | omega | assumption)))
    rw [hI]
    exact ⟨⟨k + 1, hlt, f0, by rw [hnx]; rfl, f3, f6, rfl, by rw [hnx]; exact RGS.put q2 q3 q4 r1, hst.trans r2⟩, by omega⟩
  | false =>
    obtain rfl : k = V.length := by simp at c1; omega
    rw [List.take_length] at f1 hg1
    obtain ⟨hw1, hw2, hw3⟩ := gVars_eq V g see
    have hwl1 : (gVars (g, see) V).1.vs.length ≤ 1001000 := by rw [hw1]; simp; omega
    have hwl2 : (gVars (g, see) V).2.length ≤ 1001000 := by rw [hw3]; simp; omega
    have hws : ∀ i ∈ (gVars (g, see) V).2, i < (gVars (g, see) V).1.vs.length := fun i hi => by
      rw [hw3] at hi
      rw [hw1, List.length_append, List.length_map]
      rcases List.mem_append.1 hi with hi | hi
      · have := hs i hi; omega
      · obtain ⟨j, hj, rfl⟩ := List.mem_map.1 hi
        rw [List.mem_range] at hj; omega
    have hfin : gBk 0 g see V Q (fun _ => False) = Q.foldl (gEq (fun _ _ => []) (fun g _ _ _ _ => g) (gVars (g, see) V).2 (fun _ => False)) (gVars (g, see) V).1 := by
      have hck : ∀ (V : List Va) (g : Gs) (see : List Nat), (∀ v ∈ V, v.clock = []) → gCk see g V = g := by
        intro V
        induction V with
        | nil => intro g see _; rfl
        | cons v V ih =>
          intro g see h
          show gCk see (gCk1 see v g v.clock) V = g
          rw [h v (List.mem_cons_self ..)]
          exact ih g see (fun w hw => h w (List.mem_cons_of_mem _ hw))
      show gBlk _ _ g see V Q _ = _
      unfold gBlk
      rw [hck V _ _ hV]
    generalize gVars (g, see) V = p at *
    obtain ⟨g1, see1⟩ := p
    simp only [] at f1 hg1 hwl1 hwl2 hws hfin
    (repeat (first | refine aSeq fun X hX => ?_ | refine aBlk ?_ | refine aSkip ?_ | (first | refine aExit ?_ | refine aRet ?_); try simp only [slx, ↓reduceIte, jA, reduceCtorEq] | (first | refine aReg ?_ | refine aIf ?_); simp -implicitDefEqProofs only [forall_eq, ↓slp, slb, ↓reduceIte, reduceCtorEq, jA, jB, jC, jD, jE, jF, jG, jH, jI, jJ, jK, tfCrK, f0, f1, f3, f6, f8, pI, c1]; try simp only [fo] | refine hX _ _ ?_; clear hX X | clear hX X; refine hX _ _ ?_; clear hX X | clear hX X; clear hX X; refine hX _ _ ?_; clear hX X | intro hlen; unfold maxLen at hlen | apply And.intro; focus (first | omega | assumption | (repeat' apply And.intro) <;> first | omega | assumption)))
    obtain ⟨I2, hI2⟩ : ∃ I : F → M → Prop, ∀ f m', I f m' = (∃ k : Nat, k ≤ V.length ∧ f 0 = .bp gid 0 ∧ f 1 = .sl .no (see1.map pN) ∧ f 3 = .sl .no [] ∧ f 6 = .ep [.sl .no (V.map Va.pv), .sl .no (Q.map Qu.pv)] ∧ f 9 = pI k ∧ RGS mb gid g1 B m' ∧ Stp m m') := ⟨_, fun _ _ => rfl⟩
    refine aLoop I2 (fun f m => V.length - numOf (f 9)) ?_ ?_
    · rw [hI2]; exact ⟨0, by omega, f0, f1, f3, f6, rfl, hg1, hst⟩
    clear f0 f1 f3 f6 f8 hI I hg1 hst
    intro f m' hrel
    rw [hI2] at hrel
    obtain ⟨k, hk, f0, f1, f3, f6, f9, hg1, hst⟩ := hrel
    cases c2 : decide ((k : Int) < (V.length : Int)) with
    | true =>
      have hlt : k < V.length := by simpa using c2
      have g0 := getD_map Va.pv V k hlt
      have hi : IntKind.i64.wrap ((k : Int) + 1) = ((k + 1 : Nat) : Int) := by rw [wrap64 (by omega)]; omega
      have hme : numOf (f 9) = k := by rw [f9]; exact Int.toNat_natCast k
      have hck := hV _ (List.getElem_mem hlt)
      have hz0 : decide ((0 : Int) < ((0 : Nat) : Int)) = false := rfl
      (repeat (first | refine aSeq fun X hX => ?_ | refine aBlk ?_ | refine aSkip ?_ | (first | refine aExit ?_ | refine aRet ?_); try simp only [slx, ↓reduceIte, jA, reduceCtorEq] | (first | refine aReg ?_ | refine aIf ?_); simp -implicitDefEqProofs only [forall_eq, ↓slp, slb, ↓reduceIte, reduceCtorEq, jA, jB, jC, jD, jE, jF, jG, jH, jI, jJ, jK, tfCrK, f0, f1, f3, f6, f9, pI, c2]; try simp only [fo] | refine hX _ _ ?_; clear hX X | clear hX X; refine hX _ _ ?_; clear hX X | clear hX X; clear hX X; refine hX _ _ ?_; clear hX X | intro hlen; unfold maxLen at hlen | apply And.intro; focus (first | omega | assumption | (repeat' apply And.intro) <;> first | omega | assumption)))
      obtain ⟨J, hJ⟩ : ∃ J : F → M → Prop, ∀ f m2, J f m2 = (f 0 = .bp gid 0 ∧ f 1 = .sl .no (see1.map pN) ∧ f 3 = .sl .no [] ∧ f 6 = .ep [.sl .no (V.map Va.pv), .sl .no (Q.map Qu.pv)] ∧ f 9 = pI k ∧ f 10 = pI 0 ∧ m2 = m') := ⟨_, fun _ _ => rfl⟩
      refine aLoop J (fun f m => 0) ?_ ?_
      · rw [hJ]; exact ⟨f0, f1, f3, f6, f9, rfl, rfl⟩
      clear f0 f1 f3 f6 f9
      intro f m2 hrel
      rw [hJ] at hrel
      obtain ⟨f0, f1, f3, f6, f9, f10, rfl⟩ := hrel
      (repeat (first | refine aSeq fun X hX => ?_ | refine aBlk ?_ | refine aSkip ?_ | (first | refine aExit ?_ | refine aRet ?_); try simp only [slx, ↓reduceIte, jA, reduceCtorEq] | (first | refine aReg ?_ | refine aIf ?_); simp -implicitDefEqProofs only [forall_eq, ↓slp, slb, ↓reduceIte, reduceCtorEq, jA, jB, jC, jD, jE, jF, jG, jH, jI, jJ, jK, tfCrK, f0, f1, f3, f6, f9, f10, pI, g0, hck, hi, hz0, hlt]; try simp only [fo] | refine hX _ _ ?_; clear hX X | clear hX X; refine hX _ _ ?_; clear hX X | clear hX X; clear hX X; refine hX _ _ ?_; clear hX X | intro hlen; unfold maxLen at hlen | apply And.intro; focus (first | omega | assumption | (repeat' apply And.intro) <;> first | omega | assumption)))
      rw [hI2]
      exact ⟨⟨k + 1, hlt, f0, f1, f3, f6, rfl, hg1, hst⟩, by omega⟩
    | false =>
      (repeat (first | refine aSeq fun X hX => ?_ | refine aBlk ?_ | refine aSkip ?_ | (first | refine aExit ?_ | refine aRet ?_); try simp only [slx, ↓reduceIte, jA, reduceCtorEq] | (first | refine aReg ?_ | refine aIf ?_); simp -implicitDefEqProofs only [forall_eq, ↓slp, slb, ↓reduceIte, reduceCtorEq, jA, jB, jC, jD, jE, jF, jG, jH, jI, jJ, jK, tfCrK, f0, f1, f3, f6, f9, pI, c2]; try simp only [fo] | refine hX _ _ ?_; clear hX X | clear hX X; refine hX _ _ ?_; clear hX X | clear hX X; clear hX X; refine hX _ _ ?_; clear hX X | intro hlen; unfold maxLen at hlen | apply And.intro; focus (first | omega | assumption | (repeat' apply And.intro) <;> first | omega | assumption)))
      obtain ⟨K, hK⟩ : ∃ K : F → M → Prop, ∀ f m', K f m' = (∃ k : Nat, k ≤ Q.length ∧ f 0 = .bp gid 0 ∧ f 1 = .sl .no (see1.map pN) ∧ f 3 = .sl .no [] ∧ f 6 = .ep [.sl .no (V.map Va.pv), .sl .no (Q.map Qu.pv)] ∧ f 11 = pI k ∧ RGS mb gid ((Q.take k).foldl (gEq (fun _ _ => []) (fun g _ _ _ _ => g) see1 (fun _ => False)) g1) (B + k * 1000) m' ∧ Stp m m') := ⟨_, fun _ _ => rfl⟩
      refine aLoop K (fun f m => Q.length - numOf (f 11)) ?_ ?_
      · rw [hK]; exact ⟨0, by omega, f0, f1, f3, f6, rfl, by simpa using hg1, hst⟩
      clear f0 f1 f3 f6 f9 hI2 I2 hg1 hst
      intro f m' hrel
      rw [hK] at hrel
      obtain ⟨k, hk, f0, f1, f3, f6, f11, hg1, hst⟩ := hrel
      cases c3 : decide ((k : Int) < (Q.length : Int)) with
      | false =>
        obtain rfl : k = Q.length := by simp at c3; omega
        rw [List.take_length] at hg1
        (repeat (first | refine aSeq fun X hX => ?_ | refine aBlk ?_ | refine aSkip ?_ | (first | refine aExit ?_ | refine aRet ?_); try simp only [slx, ↓reduceIte, jA, reduceCtorEq] | (first | refine aReg ?_ | refine aIf ?_); simp -implicitDefEqProofs only [forall_eq, ↓slp, slb, ↓reduceIte, reduceCtorEq, jA, jB, jC, jD, jE, jF, jG, jH, jI, jJ, jK, tfCrK, f0, f1, f3, f6, f11, pI, c3]; try simp only [fo] | refine hX _ _ ?_; clear hX X | clear hX X; refine hX _ _ ?_; clear hX X | clear hX X; clear hX X; refine hX _ _ ?_; clear hX X | intro hlen; unfold maxLen at hlen | apply And.intro; focus (first | omega | assumption | (repeat' apply And.intro) <;> first | omega | assumption)))
        simp only [aPost, Tryd.results25, aRes_n, aRes_t, aRes_c, pack_one, pack_two]
        exact leave_stp hst rfl ⟨rfl, by rw [hfin]; exact hg1, hst⟩
      | true =>
        have hlt : k < Q.length := by simpa using c3
        have g0 := getD_map Qu.pv Q k hlt
        have hi : IntKind.i64.wrap ((k : Int) + 1) = ((k + 1 : Nat) : Int) := by rw [wrap64 (by omega)]; omega
        have hme : numOf (f 11) = k := by rw [f11]; exact Int.toNat_natCast k
        have hq := hQ _ (List.getElem_mem hlt)
        obtain ⟨x, hx⟩ := hq.lhs
        have hnx : (Q.take (k + 1)).foldl (gEq (fun _ _ => []) (fun g _ _ _ _ => g) see1 (fun _ => False)) g1 = gEq (fun _ _ => []) (fun g _ _ _ _ => g) see1 (fun _ => False) ((Q.take k).foldl (gEq (fun _ _ => []) (fun g _ _ _ _ => g) see1 (fun _ => False)) g1) Q[k] := by
          rw [List.take_succ_eq_append_getElem hlt, List.foldl_append]; rfl
        rw [gEq_flat hq hx] at hnx
        obtain ⟨ms, hvs, hms⟩ := gEqs_vs (df := fun _ _ => []) (bl := fun g _ _ _ _ => g) (cb := fun _ _ => 0) (fun g see V Q O => ⟨[], by simp, rfl⟩) see1 (fun _ => False) (Q.take k) g1
        have hms0 : ms = [] := List.eq_nil_of_length_eq_zero (by
          rw [hms]
          refine sum_zeroR _ _ (fun q hqm => ?_)
          show (q.arms.map _).sum = 0
          rw [(hQ q (List.mem_of_mem_take hqm)).arms]; rfl)
        rw [hms0, List.append_nil] at hvs
        generalize (Q.take k).foldl (gEq (fun _ _ => []) (fun g _ _ _ _ => g) see1 (fun _ => False)) g1 = g2 at *
        have hqa := hq.arms
        have hqr := hq.args
        have hqk := hq.kind
        have hqe := hq.e
        generalize Q[k] = q at *
        have b4 : (q.kind == 4) = false := by rw [hqk]; rfl
        have b2 : (q.kind == 2) = false := by rw [hqk]; rfl
        have hm1 : m'.ext [some [.v (.int .u8 q.kind), .sl .no (q.lhs.map pS), .v (.string q.name), .sl .no (q.args.map Ex.pv), .v (.bool q.has), .v (.int .u8 q.e.kind), .v (.int .u8 q.e.op), .v (.int .i32 q.e.n), .v (.string q.e.name), .sl .no (q.e.names.map pS), .sl .no (q.e.kids.map Ex.pv), .v (.int .i64 q.e.line), .v (.int .i64 q.e.col), .sl .no (q.arms.map Am.pv), .v (.int .i64 q.line), .v (.int .i64 q.col)]] = m'.push q.cs := rfl
        (repeat (first | refine aSeq fun X hX => ?_ | refine aBlk ?_ | refine aSkip ?_ | (first | refine aExit ?_ | refine aRet ?_); try simp only [slx, ↓reduceIte, jA, reduceCtorEq] | (first | refine aReg ?_ | refine aIf ?_); simp -implicitDefEqProofs only [forall_eq, ↓slp, slb, ↓reduceIte, reduceCtorEq, jA, jB, jC, jD, jE, jF, jG, jH, jI, jJ, jK, tfCrK, f0, f1, f3, f6, f11, pI, c3, g0, b4, b2]; try simp only [fo] | refine hX _ _ ?_; clear hX X | clear hX X; refine hX _ _ ?_; clear hX X | clear hX X; clear hX X; refine hX _ _ ?_; clear hX X | intro hlen; unfold maxLen at hlen | apply And.intro; focus (first | omega | assumption | (repeat' apply And.intro) <;> first | omega | assumption)))
        rw [hm1]
        have r1 := hg1.push q.cs
        have b12 : (m'.push q.cs).get m'.nb = some q.cs := by rw [M.get_push, if_pos rfl]
        have hnbl : m'.nb < (m'.push q.cs).nb := by rw [push_nb]; omega
        have hst1 : Stp m (m'.push q.cs) := hst.trans (Stp.push m' (fun y hy => by
          simp only [Qu.cs, List.mem_cons, List.not_mem_nil, or_false] at hy
          rcases hy with rfl | rfl | rfl | rfl | rfl | rfl | rfl | rfl | rfl | rfl | rfl | rfl | rfl | rfl | rfl | rfl <;> rfl))
        have hgn : m'.nb ≠ gid := by
          obtain ⟨P, q1, _⟩ := hg1.ex
          have := q1.glt; omega
        clear hm1
        generalize m'.push q.cs = m1 at *
        generalize m'.nb = bid at *
        obtain ⟨P, q1, q2, q3, q4⟩ := r1.ex
        obtain ⟨o1, o2, o3, bb, _⟩ := q1.box
        have hvl : g2.vs.length = g1.vs.length := by rw [hvs]
        have hws2 : ∀ i ∈ see1, i < (nmG g2).length := fun i hi => by rw [List.length_map, hvl]; exact hws i hi
        have hrl := reads_len true [] q.e
        have hrd := rreads_any gid o1 o2 o3 (nmG g2) (g2.vs.map fun v => (v.line, v.col)) P [] see1 q.e m1 bb hws2 (by omega) hqe.1 hqe.2 (by simp)
        have hRm : ∀ y : Int, y ∈ rdI (nmG g2) see1 [] (q.e.reads true []) ↔ y ∈ rdL (nmG g2) see1 [q.e] := fun y => by
          rw [rdI_mem]
          simp [rdL]
        have hRl := rdI_len (nmG g2) see1 (q.e.reads true []) []
        simp only [List.length_nil, Nat.zero_add] at hRl hrl
        refine callMS hrd (by simp only [List.map_cons, List.map_nil, PV.settle, PV.settles, Ex.settle_pv]) ?_
        rintro v m1 ⟨rfl, rfl⟩
        generalize rdI (nmG g2) see1 [] (q.e.reads true []) = R at *
        have hRb : ∀ y ∈ R, y < (g2.vs.length : Int) := fun y hy => by
          have := rdL_lt hws2 [q.e] y ((hRm y).1 hy)
          simpa using this
        have hz0 : decide ((0 : Int) < ((0 : Nat) : Int)) = false := rfl
        simp -implicitDefEqProofs only [↓slp, slb, ↓reduceIte, reduceCtorEq, jA, jB, jC, jD, jE, jF, jG, jH, jI, jJ, jK, tfCrK]; try simp only [fo]
        (repeat (first | refine aSeq fun X hX => ?_ | refine aBlk ?_ | refine aSkip ?_ | (first | refine aExit ?_ | refine aRet ?_); try simp only [slx, ↓reduceIte, jA, reduceCtorEq] | (first | refine aReg ?_ | refine aIf ?_); simp -implicitDefEqProofs only [forall_eq, ↓slp, slb, ↓reduceIte, reduceCtorEq, jA, jB, jC, jD, jE, jF, jG, jH, jI, jJ, jK, tfCrK, f1]; try simp only [fo] | refine hX _ _ ?_; clear hX X | clear hX X; refine hX _ _ ?_; clear hX X | clear hX X; clear hX X; refine hX _ _ ?_; clear hX X | intro hlen; unfold maxLen at hlen | apply And.intro; focus (first | omega | assumption | (repeat' apply And.intro) <;> first | omega | assumption)))
        obtain ⟨J, hJ⟩ : ∃ J : F → M → Prop, ∀ f m2, J f m2 = (f 0 = .bp gid 0 ∧ f 1 = .sl .no (see1.map pN) ∧ f 3 = .sl .no [] ∧ f 6 = .ep [.sl .no (V.map Va.pv), .sl .no (Q.map Qu.pv)] ∧ f 11 = pI k ∧ f 12 = .bp bid 0 ∧ f 13 = .sl .no (R.map pI) ∧ f 16 = pI 0 ∧ m2 = m1) := ⟨_, fun _ _ => rfl⟩
        refine aLoop J (fun f m => 0) ?_ ?_
        · rw [hJ]; exact ⟨f0, f1, f3, f6, f11, rfl, rfl, rfl, rfl⟩
        clear f0 f1 f3 f6 f11
        intro f m2 hrel
        rw [hJ] at hrel
        obtain ⟨f0, f1, f3, f6, f11, f12, f13, f16, rfl⟩ := hrel
        have hdef := rdef_any q hqa (by rw [hx]; simp) m2
        rw [Qu.pv_eq] at hdef
        unfold Qu.cs at hdef b12
        (repeat (first | refine aSeq fun X hX => ?_ | refine aBlk ?_ | refine aSkip ?_ | (first | refine aExit ?_ | refine aRet ?_); try simp only [slx, ↓reduceIte, jA, reduceCtorEq] | (first | refine aReg ?_ | refine aIf ?_); simp -implicitDefEqProofs only [forall_eq, ↓slp, slb, ↓reduceIte, reduceCtorEq, jA, jB, jC, jD, jE, jF, jG, jH, jI, jJ, jK, tfCrK, f0, f1, f3, f6, f11, f12, f13, f16, pI, b12, hqr, hz0, Nat.zero_add, gt_iff_lt, List.length_cons]; try simp only [fo] | refine hX _ _ ?_; clear hX X | clear hX X; refine hX _ _ ?_; clear hX X | clear hX X; clear hX X; refine hX _ _ ?_; clear hX X | intro hlen; unfold maxLen at hlen | apply And.intro; focus (first | omega | assumption | (repeat' apply And.intro) <;> first | omega | assumption)))
        rw [hqr] at hdef
        refine callM hdef ?_
        rintro v m2 ⟨rfl, rfl⟩
        rw [hx]
        simp -implicitDefEqProofs only [↓slp, slb, ↓reduceIte, reduceCtorEq, jA, jB, jC, jD, jE, jF, jG, jH, jI, jJ, jK, tfCrK]; try simp only [fo]
        (repeat (first | refine aSeq fun X hX => ?_ | refine aBlk ?_ | refine aSkip ?_ | (first | refine aExit ?_ | refine aRet ?_); try simp only [slx, ↓reduceIte, jA, reduceCtorEq] | (first | refine aReg ?_ | refine aIf ?_); simp -implicitDefEqProofs only [forall_eq, ↓slp, slb, ↓reduceIte, reduceCtorEq, jA, jB, jC, jD, jE, jF, jG, jH, jI, jJ, jK, tfCrK]; try simp only [fo] | refine hX _ _ ?_; clear hX X | clear hX X; refine hX _ _ ?_; clear hX X | clear hX X; clear hX X; refine hX _ _ ?_; clear hX X | intro hlen; unfold maxLen at hlen | apply And.intro; focus (first | omega | assumption | (repeat' apply And.intro) <;> first | omega | assumption)))
        obtain ⟨L, hL⟩ : ∃ L : F → M → Prop, ∀ f m3, L f m3 = (∃ j : Nat, f 0 = .bp gid 0 ∧ f 1 = .sl .no (see1.map pN) ∧ f 3 = .sl .no [] ∧ f 6 = .ep [.sl .no (V.map Va.pv), .sl .no (Q.map Qu.pv)] ∧ f 11 = pI k ∧ f 12 = .bp bid 0 ∧ f 13 = .sl .no (R.map pI) ∧ f 17 = .sl .no [pS x] ∧ f 18 = pI j ∧ ((j = 0 ∧ m3 = m2) ∨ (j = 1 ∧ RGS mb gid (g2.need (fndN (nmG g2) see1 x) (fun y => False ∨ y ∈ rdL (nmG g2) see1 [q.e])) (B + (k + 1) * 1000) m3 ∧ Stp m m3 ∧ m3.get bid = m2.get bid))) := ⟨_, fun _ _ => rfl⟩
        refine aLoop L (fun f m => 1 - numOf (f 18)) ?_ ?_
        · rw [hL]; exact ⟨0, f0, f1, f3, f6, f11, f12, f13, rfl, rfl, .inl ⟨rfl, rfl⟩⟩
        clear f0 f1 f3 f6 f11 f12 f13 f16
        intro f m3 hrel
        rw [hL] at hrel
        obtain ⟨j, f0, f1, f3, f6, f11, f12, f13, f17, f18, hcas⟩ := hrel
        rcases hcas with ⟨rfl, rfl⟩ | ⟨rfl, hr3, hst3, hb3⟩
        · have c5 : decide (((0 : Nat) : Int) < ((1 : Nat) : Int)) = true := rfl
          have hqe2 := hqe.2
          have h01 : IntKind.i64.wrap (((0 : Nat) : Int) + 1) = ((1 : Nat) : Int) := by decide
          have hme18 : numOf (f 18) = 0 := by rw [f18]; rfl
          have hfd := rfind_any gid o1 o2 o3 (nmG g2) (g2.vs.map fun v => (v.line, v.col)) P see1 x m3 bb hws2 (by omega)
          have hnd := rneed_any mb gid (nmG g2) (g2.vs.map fun v => (v.line, v.col)) P (fndN (nmG g2) see1 x) R m3 q1 (by omega)
          have hfl := fndN_lt hws2 x
          rw [List.length_map] at hfl
          (repeat (first | refine aSeq fun X hX => ?_ | refine aBlk ?_ | refine aSkip ?_ | (first | refine aExit ?_ | refine aRet ?_); try simp only [slx, ↓reduceIte, jA, reduceCtorEq] | (first | refine aReg ?_ | refine aIf ?_); simp -implicitDefEqProofs only [forall_eq, ↓slp, slb, ↓reduceIte, reduceCtorEq, jA, jB, jC, jD, jE, jF, jG, jH, jI, jJ, jK, tfCrK, f0, f1, f3, f6, f11, f12, f13, f17, f18, pI, pS, c5]; try simp only [fo] | refine hX _ _ ?_; clear hX X | clear hX X; refine hX _ _ ?_; clear hX X | clear hX X; clear hX X; refine hX _ _ ?_; clear hX X | intro hlen; unfold maxLen at hlen | apply And.intro; focus (first | omega | assumption | (repeat' apply And.intro) <;> first | omega | assumption)))
          refine callE hfd ?_
          simp -implicitDefEqProofs only [↓slp, slb, ↓reduceIte, reduceCtorEq, jA, jB, jC, jD, jE, jF, jG, jH, jI, jJ, jK, tfCrK, f0, f1, f13]; try simp only [fo]
          refine callM hnd ?_
          rintro v m4 ⟨rfl, r3, r4, r5⟩
          simp -implicitDefEqProofs only [↓slp, slb, ↓reduceIte, reduceCtorEq, jA, jB, jC, jD, jE, jF, jG, jH, jI, jJ, jK, tfCrK]; try simp only [fo]
          (repeat (first | refine aSeq fun X hX => ?_ | refine aBlk ?_ | refine aSkip ?_ | (first | refine aExit ?_ | refine aRet ?_); try simp only [slx, ↓reduceIte, jA, reduceCtorEq] | (first | refine aReg ?_ | refine aIf ?_); simp -implicitDefEqProofs only [forall_eq, ↓slp, slb, ↓reduceIte, reduceCtorEq, jA, jB, jC, jD, jE, jF, jG, jH, jI, jJ, jK, tfCrK, f18, pI, h01]; try simp only [fo] | refine hX _ _ ?_; clear hX X | clear hX X; refine hX _ _ ?_; clear hX X | clear hX X; clear hX X; refine hX _ _ ?_; clear hX X | intro hlen; unfold maxLen at hlen | apply And.intro; focus (first | omega | assumption | (repeat' apply And.intro) <;> first | omega | assumption)))
          rw [hL]
          refine ⟨1, f0, f1, f3, f6, f11, f12, f13, f17, rfl, .inr ⟨rfl, ?_, hst1.trans r4, r5 bid hgn hnbl⟩⟩
          obtain ⟨P2, s1, s2, s3, s4⟩ := (RGS.need (O := fun y => False ∨ y ∈ rdL (nmG g2) see1 [q.e]) q2 q3 q4 r3 hfl hRb (fun y => by rw [← hRm]; simp)).ex
          exact ⟨P2, s1, by omega, s3, s4⟩
        · have c5 : decide (((1 : Nat) : Int) < ((1 : Nat) : Int)) = false := rfl
          have b13 := hb3.trans b12
          rw [hqa] at b13
          (repeat (first | refine aSeq fun X hX => ?_ | refine aBlk ?_ | refine aSkip ?_ | (first | refine aExit ?_ | refine aRet ?_); try simp only [slx, ↓reduceIte, jA, reduceCtorEq] | (first | refine aReg ?_ | refine aIf ?_); simp -implicitDefEqProofs only [forall_eq, ↓slp, slb, ↓reduceIte, reduceCtorEq, jA, jB, jC, jD, jE, jF, jG, jH, jI, jJ, jK, tfCrK, f0, f1, f3, f6, f11, f12, f13, f17, f18, pI, pS, c5]; try simp only [fo] | refine hX _ _ ?_; clear hX X | clear hX X; refine hX _ _ ?_; clear hX X | clear hX X; clear hX X; refine hX _ _ ?_; clear hX X | intro hlen; unfold maxLen at hlen | apply And.intro; focus (first | omega | assumption | (repeat' apply And.intro) <;> first | omega | assumption)))
          obtain ⟨J2, hJ2⟩ : ∃ J : F → M → Prop, ∀ f m2, J f m2 = (f 0 = .bp gid 0 ∧ f 1 = .sl .no (see1.map pN) ∧ f 3 = .sl .no [] ∧ f 6 = .ep [.sl .no (V.map Va.pv), .sl .no (Q.map Qu.pv)] ∧ f 11 = pI k ∧ f 12 = .bp bid 0 ∧ f 19 = pI 0 ∧ m2 = m3) := ⟨_, fun _ _ => rfl⟩
          refine aLoop J2 (fun f m => 0) ?_ ?_
          · rw [hJ2]; exact ⟨f0, f1, f3, f6, f11, f12, rfl, rfl⟩
          clear f0 f1 f3 f6 f11 f12 f13 f17 f18
          intro f m4 hrel
          rw [hJ2] at hrel
          obtain ⟨f0, f1, f3, f6, f11, f12, f19, rfl⟩ := hrel
          (repeat (first | refine aSeq fun X hX => ?_ | refine aBlk ?_ | refine aSkip ?_ | (first | refine aExit ?_ | refine aRet ?_); try simp only [slx, ↓reduceIte, jA, reduceCtorEq] | (first | refine aReg ?_ | refine aIf ?_); simp -implicitDefEqProofs only [forall_eq, ↓slp, slb, ↓reduceIte, reduceCtorEq, jA, jB, jC, jD, jE, jF, jG, jH, jI, jJ, jK, tfCrK, f0, f1, f3, f6, f11, f12, f19, pI, b13, hz0, hi, Nat.zero_add, gt_iff_lt, List.length_cons]; try simp only [fo] | refine hX _ _ ?_; clear hX X | clear hX X; refine hX _ _ ?_; clear hX X | clear hX X; clear hX X; refine hX _ _ ?_; clear hX X | intro hlen; unfold maxLen at hlen | apply And.intro; focus (first | omega | assumption | (repeat' apply And.intro) <;> first | omega | assumption)))
          rw [hK]
          exact ⟨⟨k + 1, hlt, f0, f1, f3, f6, rfl, by rw [hnx]; exact hr3, hst3⟩, by omega⟩
end Go.Proofs.YtaealemhegdmpaaDoor
