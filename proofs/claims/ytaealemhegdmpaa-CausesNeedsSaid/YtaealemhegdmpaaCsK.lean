/-
 causes: arms, equations, blocks.
-/
-- halved
import Derived.Test.YtaealemhegdmpaaCgF
set_option linter.unusedVariables false
set_option linter.unusedSimpArgs false
namespace Go.Proofs.Ytaealemhegdmpaa
open Nat renaming reduceEqDiff → jA, reduceAdd → jB, reduceMul → jC, reduceLT → jD, reduceLeDiff → jE, reduceBEq → jF, reduceBNe → jG
open Int renaming reduceLE → jH, reduceLT → jI, reduceToNat → jJ, reduceEq → jK
open Go
-- EXX: Qu.settle_pv, Qu.pure_pv, Qu.cells_pv, Qu.cs, Am.settle_pv, Am.pure_pv, Am.cells_pv, Am.cs, Tr.settle_pv, Tr.pure_pv, Tr.cells_pv, Tr.cs, No.settle_pv, No.pure_pv, No.cells_pv, No.cs, No.pv.eq_1
set_option maxRecDepth 20000
-- TNAMES: int; uint8; int32; string; bool; []string; []api.Expr; api.Expr; api.Pos; api.Type; api.On; []api.On; api.Var; []api.Var; []int; [][]int; api.Equation; []api.Equation; api.Block; api.Trans; []api.Trans; api.Arm; []api.Arm; api.Node; [][]api.Var; causes.graph; []causes.vertex; causes.vertex; causes.scope; *causes.graph
set_option linter.defProp false
def Y2 := And.intro @slb (And.intro @tfA (And.intro @Ex.settle_pv (And.intro @Ex.pure_pv (And.intro @Ex.cells_pv (And.intro @Ex.cs.eq_1 (And.intro @On.pv.eq_1 (And.intro @Ty.pv.eq_1 (And.intro @Va.settle_pv (And.intro @Va.pure_pv (And.intro @Va.cells_pv (And.intro @Va.cs.eq_1 (And.intro @Qu.settle_pv (And.intro @Qu.pure_pv (And.intro @Qu.cells_pv (And.intro @Qu.cs.eq_1 (And.intro @Am.settle_pv (And.intro @Am.pure_pv (And.intro @Am.cells_pv (And.intro @Am.cs.eq_1 (And.intro @Tr.settle_pv (And.intro @Tr.pure_pv (And.intro @Tr.cells_pv (And.intro @Tr.cs.eq_1 (And.intro @No.settle_pv (And.intro @No.pure_pv (And.intro @No.cells_pv (And.intro @No.cs.eq_1 @No.pv.eq_1)))))))))))))))))))))))))))

/-- An expression whose reads can be told. -/
def CsX (e : Ex) : Prop := e.shp = true ∧ e.size ≤ 1000
def CsQ (df : DfT) (PB : List Str → List Va → List Qu → Prop) (PD : List Va → List Qu → List Str → Prop) (S : List Str) (q : Qu) : Prop :=
 (∀ x ∈ dfQ df q, x ∈ S) ∧ (∃ T, T.length ≤ 100 ∧ DfQ PD q T) ∧ q.arms.length ≤ 3 ∧ (∀ a ∈ q.arms, PB S a.vars a.eqs) ∧
 ((q.kind = 1 ∧ (∃ x, q.lhs = [x]) ∧ q.args = [] ∧ q.arms = [] ∧ CsX q.e) ∨
  (q.kind = 2 ∧ q.arms = [] ∧ q.args.length ≤ 3 ∧ (∀ e ∈ q.args, CsX e) ∧ (q.has = true → CsX q.e)) ∨
  ((q.kind = 3 ∨ q.kind = 5) ∧ q.args = [] ∧ CsX q.e) ∨
  (q.kind = 4 ∧ q.args = [] ∧ ∀ a ∈ q.arms, a.unl.length ≤ 3 ∧ ∀ t ∈ a.unl, CsX t.e))
def CsBs (df : DfT) (PB : List Str → List Va → List Qu → Prop) (PD : List Va → List Qu → List Str → Prop) (S : List Str) (V : List Va) (Q : List Qu) : Prop :=
 (∀ v ∈ V, v.clock.length ≤ 10) ∧ ∀ q ∈ Q, CsQ df PB PD (S ++ V.map Va.name) q
def CsB : Nat → List Str → List Va → List Qu → Prop
 | 0 => CsBs (fun _ _ => []) (fun _ _ _ => False) (fun _ _ _ => False)
 | d + 1 => CsBs (dfF d) (CsB d) (DfB d)
def cntQ (cb : List Va → List Qu → Nat) (q : Qu) : Nat := (q.arms.map fun a => cb a.vars a.eqs).sum
def cntBl (cb : List Va → List Qu → Nat) (V : List Va) (Q : List Qu) : Nat := V.length + (Q.map (cntQ cb)).sum
def cntF : Nat → List Va → List Qu → Nat
 | 0 => cntBl (fun _ _ => 0)
 | d + 1 => cntBl (cntF d)
/-- How many vertices a block adds. -/
def BlV (bl : BlT) (cb : List Va → List Qu → Nat) : Prop := ∀ g see V Q O, ∃ ms, (bl g see V Q O).vs = g.vs ++ ms ∧ ms.length = cb V Q
theorem gArms_vs {bl : BlT} {cb : List Va → List Qu → Nat} (hb : BlV bl cb) (see : List Nat) (O : Int → Prop) : ∀ (ar : List Am) (g : Gs), ∃ ms, (gArms bl see O g ar).vs = g.vs ++ ms ∧ ms.length = (ar.map fun a => cb a.vars a.eqs).sum
 | [], g => ⟨[], by simp [gArms], rfl⟩
 | a :: ar, g => by
  obtain ⟨m1, e1, l1⟩ := hb g see a.vars a.eqs O
  obtain ⟨m2, e2, l2⟩ := gArms_vs hb see O ar (bl g see a.vars a.eqs O)
  refine ⟨m1 ++ m2, ?_, by simp [l1, l2]⟩
  show (gArms bl see O (bl g see a.vars a.eqs O) ar).vs = _
  rw [e2, e1, List.append_assoc]
theorem gEq_vs {df : DfT} {bl : BlT} {cb : List Va → List Qu → Nat} (hb : BlV bl cb) (see : List Nat) (O : Int → Prop) (g : Gs) (q : Qu) : ∃ ms, (gEq df bl see O g q).vs = g.vs ++ ms ∧ ms.length = cntQ cb q := by
 unfold gEq
 obtain ⟨ms, h1, h2⟩ := gArms_vs hb see (fun x => O x ∨ x ∈ rdL (nmG g) see (exQ q)) q.arms (gDef see (fun x => O x ∨ x ∈ rdL (nmG g) see (exQ q)) g (dfQ df q))
 exact ⟨ms, by rw [h1, gDef_vs], h2⟩
theorem gEqs_vs {df : DfT} {bl : BlT} {cb : List Va → List Qu → Nat} (hb : BlV bl cb) (see : List Nat) (O : Int → Prop) : ∀ (Q : List Qu) (g : Gs), ∃ ms, (Q.foldl (gEq df bl see O) g).vs = g.vs ++ ms ∧ ms.length = (Q.map (cntQ cb)).sum
 | [], g => ⟨[], by simp, rfl⟩
 | q :: Q, g => by
  obtain ⟨m1, e1, l1⟩ := gEq_vs (df := df) hb see O g q
  obtain ⟨m2, e2, l2⟩ := gEqs_vs hb see O Q (gEq df bl see O g q)
  exact ⟨m1 ++ m2, by rw [List.foldl_cons, e2, e1, List.append_assoc], by simp [l1, l2]⟩
theorem gBlk_vs {df : DfT} {bl : BlT} {cb : List Va → List Qu → Nat} (hb : BlV bl cb) : BlV (gBlk df bl) (cntBl cb) := fun g see V Q O => by
 unfold gBlk
 obtain ⟨ms, h1, h2⟩ := gEqs_vs (df := df) hb (gVars (g, see) V).2 O Q (gCk (gVars (g, see) V).2 (gVars (g, see) V).1 V)
 refine ⟨V.map (fun v => ⟨v.name, v.line, v.col⟩) ++ ms, by rw [h1, gCk_vs, (gVars_eq V g see).1, List.append_assoc], by unfold cntBl; simp [h2]⟩
theorem gBk_vs : ∀ d, BlV (gBk d) (cntF d)
 | 0 => gBlk_vs (bl := fun g _ _ _ _ => g) (cb := fun _ _ => 0) (fun g see V Q O => ⟨[], by simp, rfl⟩)
 | d + 1 => gBlk_vs (gBk_vs d)
theorem sum_take_le (l : List Nat) (k : Nat) : (l.take k).sum ≤ l.sum := by
 conv => rhs; rw [← List.take_append_drop k l, List.sum_append]
 omega
theorem sum_take1 (l : List Nat) (k : Nat) (h : k < l.length) : (l.take k).sum + l[k] ≤ l.sum := by
 have := sum_take_le l (k + 1)
 rw [List.take_succ_eq_append_getElem h, List.sum_append] at this
 simpa using this
/-- What can be seen. -/
structure EnvG (g : Gs) (see : List Nat) (S : List Str) : Prop where
 lt : ∀ i ∈ see, i < g.vs.length
 nm : seeNm (nmG g) see = S
theorem EnvG.ltN {g : Gs} {see : List Nat} {S : List Str} (h : EnvG g see S) : ∀ i ∈ see, i < (nmG g).length := fun i hi => by rw [List.length_map]; exact h.lt i hi
theorem EnvG.ext {g g' : Gs} {see : List Nat} {S : List Str} (h : EnvG g see S) {ms : List Vx} (e : g'.vs = g.vs ++ ms) : EnvG g' see S := by
 refine ⟨fun i hi => by rw [e, List.length_append]; have := h.lt i hi; omega, ?_⟩
 unfold nmG
 rw [e, List.map_append, seeNm_ext _ _ _ h.ltN]
 exact h.nm
theorem EnvG.same {g g' : Gs} {see : List Nat} {S : List Str} (h : EnvG g see S) (e : g'.vs = g.vs) : EnvG g' see S := h.ext (ms := []) (by rw [e, List.append_nil])
theorem EnvG.fnd {g : Gs} {see : List Nat} {S : List Str} (h : EnvG g see S) {s : Str} (hs : s ∈ S) : ∃ i : Nat, i < g.vs.length ∧ fndN (nmG g) see s = (i : Int) := by
 obtain ⟨i, h1, h2, _⟩ := fndN_in h.ltN (by rw [h.nm]; exact hs)
 exact ⟨i, by rwa [List.length_map] at h1, h2⟩
/-- What a block's call does to the graph. -/
def BlC (bl : BlT) (PB : List Str → List Va → List Qu → Prop) (cb : List Va → List Qu → Nat) (K : Nat) : Prop :=
 ∀ (S : List Str) (V : List Va) (Q : List Qu), PB S V Q → ∀ (mb : M) (gid : Nat) (g : Gs) (see : List Nat) (over : List Int) (O : Int → Prop) (m : M), GS mb gid g m → EnvG g see S → g.vs.length + cb V Q < 2 ^ 29 → see.length + cb V Q < 2 ^ 29 → (∀ k ∈ over, k < (g.vs.length : Int)) → (∀ x, O x ↔ x ∈ over) → over.length + K ≤ 2 ^ 28 →
  ACalls Try.prog 24 [.bp gid 0, .sl .no (see.map pN), .ag [.sl .no (V.map Va.pv), .sl .no (Q.map Qu.pv)], .sl .no (over.map pI), .v .nilFunc] m (fun v m' => v = .tp [] ∧ GS mb gid (bl g see V Q O) m' ∧ Stp m m')
section
variable {df : DfT} {bl : BlT} {PB : List Str → List Va → List Qu → Prop} {PD : List Va → List Qu → List Str → Prop} {cb : List Va → List Qu → Nat} {K : Nat}
set_option maxHeartbeats 4000000 in
theorem arms_step (hPD : ∀ V Q T, PD V Q T → T.length ≤ 100 → DBC df V Q T) (hbl : BlC bl PB cb K) (hbv : BlV bl cb) {S : List Str} {q : Qu} (hdS : ∀ x ∈ dfQ df q, x ∈ S) (hT : ∃ T, T.length ≤ 100 ∧ DfQ PD q T) (ha : ∀ a ∈ q.arms, PB S a.vars a.eqs) {mb : M} {gid : Nat} {g : Gs} {see : List Nat} {over : List Int} {O : Int → Prop} {m : M}
    (hg : GS mb gid g m) (he : EnvG g see S) (hn : g.vs.length + cntQ cb q < 2 ^ 29) (hs : see.length + cntQ cb q < 2 ^ 29) (hov : ∀ k ∈ over, k < (g.vs.length : Int)) (hO : ∀ x, O x ↔ x ∈ over) (hK : over.length + K ≤ 2 ^ 28) :
    ACalls Try.prog 59 [.bp gid 0, .sl .no (see.map pN), q.pv, .sl .no (over.map pI)] m (fun v m' => v = .tp [] ∧ GS mb gid (gArms bl see O (gDef see O g (dfQ df q)) q.arms) m' ∧ Stp m m') := by
 obtain ⟨T, hT1, hT2⟩ := hT
 have hdf := (defines_step hPD q T hT1 hT2).2 m
 rw [Qu.pv_eq] at hdf
 have hD : (dfQ df q).length ≤ 200 := by
  have := ((Grow.nil q.lhs T).dfA (df := df) (ar := q.arms) (fun a ha => (hPD _ _ _ (hT2.2.2 a ha) hT1).1.1)).len
  have h2 := hT2.1
  show (dfA df q.lhs q.arms).length ≤ 200
  omega
 generalize dfQ df q = D at *
 refine ACalls.enter (mu := []) ok_mix Try.func59 rfl (by kernel_rfl) (by kernel_rfl) (by simp only [List.length_cons, List.length_nil, Try.ntmps59]; omega) ?_
 (repeat (first | refine aSeq fun X hX => ?_ | refine aReg ?_; simp -implicitDefEqProofs only [forall_eq, ↓slp, ↓reduceIte, reduceCtorEq, jA, jB, jC, jD, jE, jF, jG, jH, jI, jJ, jK, Y2] | apply hX; clear hX X))
 refine callM hdf ?_
 rintro v mc ⟨rfl, rfl⟩
 simp -implicitDefEqProofs only [↓slp, ↓reduceIte, reduceCtorEq, jA, jB, jC, jD, jE, jF, jG, jH, jI, jJ, jK, Y2]
 (repeat (first | refine aBlk ?_ | apply hX; clear hX X | intro hlen; unfold maxLen at hlen))
 obtain ⟨I, hI⟩ : ∃ I : F → M → Prop, ∀ f m', I f m' = (∃ k : Nat, k ≤ D.length ∧ f 0 = .bp gid 0 ∧ f 1 = .sl .no (see.map pN) ∧ f 3 = .sl .no (over.map pI) ∧ f 6 = .ep q.cs ∧ f 13 = .sl .no (D.map pS) ∧ f 14 = pI D.length ∧ f 15 = pI k ∧ GS mb gid (gDef see O g (D.take k)) m' ∧ Stp mc m') := ⟨_, fun _ _ => rfl⟩
 refine aLoop I (fun f m => D.length - numOf (f 15)) ?_ ?_
 ·rw [hI]; exact ⟨0, by omega, rfl, rfl, rfl, rfl, rfl, rfl, rfl, hg, Stp.refl _⟩
 intro f m' hrel
 rw [hI] at hrel
 obtain ⟨k, hk, f0, f1, f3, f6, f13, f14, f15, hg1, hst⟩ := hrel
 cases c1 : decide ((k : Int) < (D.length : Int)) with
 | true =>
  have hlt : k < D.length := by simpa using c1
  have g0 := getD_map pS D k hlt
  have hi : IntKind.i64.wrap ((k : Int) + 1) = ((k + 1 : Nat) : Int) := by rw [wrap64 (by omega)]; omega
  have hme : numOf (f 15) = k := by rw [f15]; exact Int.toNat_natCast k
  have hnx := gDef_take (see := see) (O := O) (g := g) hlt
  have hvs := gDef_vs see O (D.take k) g
  have he1 : EnvG (gDef see O g (D.take k)) see S := he.same hvs
  obtain ⟨i, hi1, hi2⟩ := he.fnd (hdS _ (List.getElem_mem hlt))
  have hfd := find_S hg1 he1.lt (by omega) D[k]
  have e1 : nmG (gDef see O g (D.take k)) = nmG g := by unfold nmG; rw [hvs]
  rw [e1, hi2] at hfd
  have hnd := need_S hg1 (by rw [hvs]; omega) (i := i) (by rw [hvs]; exact hi1) over (by rw [hvs]; exact hov) (by omega) hO
  rw [hi2] at hnx
  (repeat (first | refine aSeq fun X hX => ?_ | refine aSkip ?_ | (first | apply aReg | apply aIf); simp -implicitDefEqProofs only [forall_eq, ↓slp, ↓reduceIte, reduceCtorEq, jA, jB, jC, jD, jE, jF, jG, jH, jI, jJ, jK, Y2, f0, f1, f3, f6, f13, f14, f15, pI, pS, c1, g0] | apply hX; clear hX X | apply And.intro; focus omega))
  refine callM hfd ?_
  rintro v md ⟨rfl, rfl⟩
  simp -implicitDefEqProofs only [↓slp, ↓reduceIte, reduceCtorEq, jA, jB, jC, jD, jE, jF, jG, jH, jI, jJ, jK, Y2, f0, f1, f3, pI]
  refine callM hnd ?_
  rintro v me ⟨rfl, q1, q2⟩
  (repeat (first | refine aReg ?_; simp -implicitDefEqProofs only [forall_eq, ↓slp, ↓reduceIte, reduceCtorEq, jA, jB, jC, jD, jE, jF, jG, jH, jI, jJ, jK, Y2, f15, pI, hi] | apply hX; clear hX X))
  rw [hI]
  exact ⟨⟨k + 1, hlt, f0, f1, f3, f6, f13, f14, rfl, by rw [hnx]; exact q1, hst.trans q2⟩, by omega⟩
 | false =>
  obtain rfl : k = D.length := by simp at c1; omega
  rw [List.take_length] at hg1
  have hvs := gDef_vs see O D g
  have he1 : EnvG (gDef see O g D) see S := he.same hvs
  generalize gDef see O g D = g1 at *
  have cnil : ∀ (k : Nat), k ≤ q.arms.length → ((q.arms.take k).map fun a => cb a.vars a.eqs).sum ≤ cntQ cb q := fun k _ => by
   unfold cntQ; rw [List.map_take]; exact sum_take_le _ _
  (repeat (first | refine aSeq fun X hX => ?_ | refine aBlk ?_ | refine aExit ?_; try simp only [slx, ↓reduceIte, jA, reduceCtorEq] | (first | apply aReg | apply aIf); simp -implicitDefEqProofs only [forall_eq, ↓slp, ↓reduceIte, reduceCtorEq, jA, jB, jC, jD, jE, jF, jG, jH, jI, jJ, jK, Y2, f0, f1, f3, f6, f13, f14, f15, pI, c1] | apply hX; clear hX X | clear hX X; apply hX; clear hX X | intro hlen; unfold maxLen at hlen))
  clear I hI
  obtain ⟨J, hJ⟩ : ∃ J : F → M → Prop, ∀ f m', J f m' = (∃ k : Nat, k ≤ q.arms.length ∧ f 0 = .bp gid 0 ∧ f 1 = .sl .no (see.map pN) ∧ f 3 = .sl .no (over.map pI) ∧ f 28 = .sl .no (q.arms.map Am.pv) ∧ f 29 = pI q.arms.length ∧ f 30 = pI k ∧ GS mb gid (gArms bl see O g1 (q.arms.take k)) m' ∧ Stp mc m') := ⟨_, fun _ _ => rfl⟩
  refine aLoop J (fun f m => q.arms.length - numOf (f 30)) ?_ ?_
  ·rw [hJ]; exact ⟨0, by omega, f0, f1, f3, rfl, rfl, rfl, hg1, hst⟩
  clear f0 f1 f3 f6 f13 f14 f15 hg1 hst
  intro f m' hrel
  rw [hJ] at hrel
  obtain ⟨k, hk, f0, f1, f3, f28, f29, f30, hg1, hst⟩ := hrel
  cases c2 : decide ((k : Int) < (q.arms.length : Int)) with
  | true =>
   have hlt : k < q.arms.length := by simpa using c2
   have g0 := getD_map Am.pv q.arms k hlt
   have hi : IntKind.i64.wrap ((k : Int) + 1) = ((k + 1 : Nat) : Int) := by rw [wrap64 (by omega)]; omega
   have hme : numOf (f 30) = k := by rw [f30]; exact Int.toNat_natCast k
   have hnx := gArms_take (bl := bl) (see := see) (O := O) (g := g1) hlt
   obtain ⟨ms, hms, hml⟩ := gArms_vs hbv see O (q.arms.take k) g1
   have hs1 := sum_take1 (q.arms.map fun a => cb a.vars a.eqs) k (by simpa using hlt)
   rw [← List.map_take, List.getElem_map] at hs1
   have hcq : (q.arms.map fun a => cb a.vars a.eqs).sum = cntQ cb q := rfl
   have hvl : (gArms bl see O g1 (q.arms.take k)).vs.length = g.vs.length + ms.length := by rw [hms, List.length_append, hvs]
   have hbk := hbl S q.arms[k].vars q.arms[k].eqs (ha _ (List.getElem_mem hlt)) mb gid _ see over O m' hg1 (he1.ext hms) (by rw [hvl]; omega) (by omega) (fun x hx => by rw [hvl]; have := hov x hx; omega) hO hK
   (repeat (first | refine aSeq fun X hX => ?_ | refine aSkip ?_ | (first | apply aReg | apply aIf); simp -implicitDefEqProofs only [forall_eq, ↓slp, ↓reduceIte, reduceCtorEq, jA, jB, jC, jD, jE, jF, jG, jH, jI, jJ, jK, Y2, f0, f1, f3, f28, f29, f30, pI, c2, g0] | apply hX; clear hX X | apply And.intro; focus omega))
   refine callM hbk ?_
   rintro v me ⟨rfl, q1, q2⟩
   (repeat (first | refine aReg ?_; simp -implicitDefEqProofs only [forall_eq, ↓slp, ↓reduceIte, reduceCtorEq, jA, jB, jC, jD, jE, jF, jG, jH, jI, jJ, jK, Y2, f30, pI, hi] | apply hX; clear hX X))
   rw [hJ]
   exact ⟨⟨k + 1, hlt, f0, f1, f3, f28, f29, rfl, by rw [hnx]; exact q1, hst.trans q2⟩, by omega⟩
  | false =>
   obtain rfl : k = q.arms.length := by simp at c2; omega
   rw [List.take_length] at hg1
   (repeat (first | refine aSeq fun X hX => ?_ | refine aExit ?_; try simp only [slx, ↓reduceIte, jA, reduceCtorEq] | (first | apply aReg | apply aIf); simp -implicitDefEqProofs only [forall_eq, ↓slp, ↓reduceIte, reduceCtorEq, jA, jB, jC, jD, jE, jF, jG, jH, jI, jJ, jK, Y2, f28, f29, f30, pI, c2] | apply hX; clear hX X))
   simp only [aPost, Try.results59, aRes_n, aRes_t, aRes_c, pack_one, pack_two]
   exact leave_stp hst rfl ⟨rfl, hg1, hst⟩
theorem flat2 (a b : List Int) : [a, b].flatten = a ++ b := by simp
theorem rdL_one (ns : List Str) (see : List Nat) (e : Ex) : (rdL ns see [e]).length ≤ e.size := by
 have := rdL_len ns see [e]
 simpa [Ex.sizes] using this
set_option maxHeartbeats 4000000 in
theorem eqDef_step {S : List Str} {q : Qu} (hq : CsQ df PB PD S q) (hk : q.kind = 1 ∧ (∃ x, q.lhs = [x]) ∧ q.args = [] ∧ q.arms = [] ∧ CsX q.e) {mb : M} {gid : Nat} {g : Gs} {see : List Nat} {over : List Int} {O : Int → Prop} {m : M}
    (hg : GS mb gid g m) (he : EnvG g see S) (hn : g.vs.length < 2 ^ 29) (hs : see.length < 2 ^ 29) (hov : ∀ k ∈ over, k < (g.vs.length : Int)) (hO : ∀ x, O x ↔ x ∈ over) (hK : over.length + 10000 ≤ 2 ^ 28) :
    ACalls Try.prog 45 [.bp gid 0, .sl .no (see.map pN), q.pv, .sl .no (over.map pI)] m (fun v m' => v = .tp [] ∧ GS mb gid (gEq df bl see O g q) m' ∧ Stp m m') := by
 obtain ⟨k1, ⟨x, hx⟩, k3, k4, k5⟩ := hk
 have hdq : dfQ df q = [x] := by unfold dfQ dfA; rw [k4, hx]; rfl
 have hex : exQ q = [q.e] := by unfold exQ; rw [k1, k3]; simp
 obtain ⟨i, hi1, hi2⟩ := he.fnd (hq.1 x (by rw [hdq]; simp))
 have hgq : gEq df bl see O g q = g.need (i : Int) (fun y => O y ∨ y ∈ rdL (nmG g) see [q.e]) := by
  unfold gEq; rw [hdq, k4, hex, ← hi2]; rfl
 rw [hgq]
 have hfd := find_S hg he.lt (by omega) x
 rw [hi2] at hfd
 have hr1 := rdL_one (nmG g) see q.e
 have hr2 := rdL_lt he.ltN [q.e]
 rw [List.length_map] at hr2
 have hrd := reads_S hg he.lt (by omega) .full [q.e] (fun e he => by rw [List.mem_singleton] at he; subst he; exact shp_okr _ k5.1) (by have := k5.2; simp [Ex.sizes]; omega)
 have hc := fun m => concatN [over, rdL (nmG g) see [q.e]] m .full (by rw [flat2, List.length_append]; have := k5.2; omega)
 rw [flat2] at hc
 have hnd := need_S hg (by omega) hi1 (over ++ rdL (nmG g) see [q.e]) (fun k hk => by
  rcases List.mem_append.1 hk with h | h
  ·exact hov k h
  ·exact hr2 k h) (by rw [List.length_append]; have := k5.2; omega) (O := fun y => O y ∨ y ∈ rdL (nmG g) see [q.e]) (fun y => by rw [hO, List.mem_append])
 have hxl : q.lhs.map pS = [pS x] := by rw [hx]; rfl
 generalize rdL (nmG g) see [q.e] = r at *
 refine ACalls.enter (mu := []) ok_mix Try.func45 rfl (by kernel_rfl) (by kernel_rfl) (by simp only [List.length_cons, List.length_nil, Try.ntmps45]; omega) ?_
 (repeat (first | refine aSeq fun X hX => ?_ | (first | apply aReg | apply aIf); simp -implicitDefEqProofs only [forall_eq, ↓slp, ↓reduceIte, reduceCtorEq, jA, jB, jC, jD, jE, jF, jG, jH, jI, jJ, jK, Y2, hxl, k1] | apply hX; clear hX X))
 refine aDrw (fun _ => True) (by kernel_rfl) trivial ?_; simp -implicitDefEqProofs only [forall_eq, eq_self, ↓slp, ↓reduceIte, reduceCtorEq, jA, jB, jC, jD, jE, jF, jG, jH, jI, jJ, jK, Y2, hxl]
 refine callM hfd ?_
 rintro v mc ⟨rfl, rfl⟩
 simp -implicitDefEqProofs only [↓slp, ↓reduceIte, reduceCtorEq, jA, jB, jC, jD, jE, jF, jG, jH, jI, jJ, jK, Y2, forall_const]; try simp only [fo]
 refine callM hrd ?_
 rintro v mc ⟨rfl, rfl⟩
 simp -implicitDefEqProofs only [↓slp, ↓reduceIte, reduceCtorEq, jA, jB, jC, jD, jE, jF, jG, jH, jI, jJ, jK, Y2, forall_const]
 refine callM (hc _) ?_
 rintro v mc ⟨rfl, rfl⟩
 simp -implicitDefEqProofs only [↓slp, ↓reduceIte, reduceCtorEq, jA, jB, jC, jD, jE, jF, jG, jH, jI, jJ, jK, Y2, forall_const]
 refine callM hnd ?_
 rintro v mc ⟨rfl, q1, q2⟩
 refine ⟨trivial, ?_⟩
 (repeat (first | refine aSeq fun X hX => ?_ | apply aBlk | refine aSkip ?_ | (first | refine aExit ?_ | refine aRet ?_); try simp only [slx, ↓reduceIte, jA, reduceCtorEq] | (first | apply aReg | apply aIf); simp -implicitDefEqProofs only [forall_eq, ↓slp, ↓reduceIte, reduceCtorEq, jA, jB, jC, jD, jE, jF, jG, jH, jI, jJ, jK, Y2]; try simp only [fo] | apply hX; clear hX X | clear hX X; apply hX; clear hX X | clear hX X; clear hX X; apply hX; clear hX X | intro hlen; unfold maxLen at hlen | apply And.intro; · first | assumption | and_intros <;> first | omega | assumption))
 simp only [aPost, Try.results45, aRes_n, aRes_t, aRes_c, pack_one, pack_two]
 exact leave_stp q2 rfl ⟨rfl, q1, q2⟩
set_option maxHeartbeats 4000000 in
theorem eqArms_step (hPD : ∀ V Q T, PD V Q T → T.length ≤ 100 → DBC df V Q T) (hbl : BlC bl PB cb K) (hbv : BlV bl cb) {S : List Str} {q : Qu} (hq : CsQ df PB PD S q) (hk : (q.kind = 3 ∨ q.kind = 5) ∧ q.args = [] ∧ CsX q.e) {mb : M} {gid : Nat} {g : Gs} {see : List Nat} {over : List Int} {O : Int → Prop} {m : M}
    (hg : GS mb gid g m) (he : EnvG g see S) (hn : g.vs.length + cntQ cb q < 2 ^ 29) (hs : see.length + cntQ cb q < 2 ^ 29) (hov : ∀ k ∈ over, k < (g.vs.length : Int)) (hO : ∀ x, O x ↔ x ∈ over) (hK : over.length + 10000 + K ≤ 2 ^ 28) :
    ACalls Try.prog 45 [.bp gid 0, .sl .no (see.map pN), q.pv, .sl .no (over.map pI)] m (fun v m' => v = .tp [] ∧ GS mb gid (gEq df bl see O g q) m' ∧ Stp m m') := by
 obtain ⟨k1, k3, k5⟩ := hk
 have hex : exQ q = [q.e] := by
  unfold exQ
  rw [k3, if_neg (by rcases k1 with h | h <;> rw [h] <;> decide), if_pos (.inl (by rcases k1 with h | h <;> rw [h] <;> decide))]
  rfl
 have hr1 := rdL_one (nmG g) see q.e
 have hr2 := rdL_lt he.ltN [q.e]
 rw [List.length_map] at hr2
 have hrd := reads_S hg he.lt (by omega) .full [q.e] (fun e he => by rw [List.mem_singleton] at he; subst he; exact shp_okr _ k5.1) (by have := k5.2; simp [Ex.sizes]; omega)
 have hc := fun m => concatN [over, rdL (nmG g) see [q.e]] m .full (by rw [flat2, List.length_append]; have := k5.2; omega)
 rw [flat2] at hc
 have har := arms_step (K := K) hPD hbl hbv (q := q) hq.1 hq.2.1 hq.2.2.2.1 hg he hn hs (over := over ++ rdL (nmG g) see [q.e]) (O := fun y => O y ∨ y ∈ rdL (nmG g) see [q.e]) (fun k hk => by
  rcases List.mem_append.1 hk with h | h
  ·exact hov k h
  ·exact hr2 k h) (fun y => by rw [hO, List.mem_append]) (by rw [List.length_append]; have := k5.2; omega)
 unfold gEq
 rw [hex]
 rw [Qu.pv_eq] at har
 generalize rdL (nmG g) see [q.e] = r at *
 have c1 : (q.kind == 1) = false := by rcases k1 with h | h <;> rw [h] <;> decide
 have c2 : (q.kind == 2) = false := by rcases k1 with h | h <;> rw [h] <;> decide
 have fin : True := trivial
 refine ACalls.enter (mu := []) ok_mix Try.func45 rfl (by kernel_rfl) (by kernel_rfl) (by simp only [List.length_cons, List.length_nil, Try.ntmps45]; omega) ?_
 rcases k1 with k1 | k1
 all_goals
  first
   | have c5 : (q.kind == 5) = true := by rw [k1]; decide
     (repeat (first | refine aSeq fun X hX => ?_ | refine aSkip ?_ | (first | apply aReg | apply aIf); simp -implicitDefEqProofs only [forall_eq, ↓slp, ↓reduceIte, reduceCtorEq, jA, jB, jC, jD, jE, jF, jG, jH, jI, jJ, jK, Y2, c1, c2, c5] | apply hX; clear hX X))
   | have c5 : (q.kind == 5) = false := by rw [k1]; decide
     have c3 : (q.kind == 3) = true := by rw [k1]; decide
     (repeat (first | refine aSeq fun X hX => ?_ | (first | apply aReg | apply aIf); simp -implicitDefEqProofs only [forall_eq, ↓slp, ↓reduceIte, reduceCtorEq, jA, jB, jC, jD, jE, jF, jG, jH, jI, jJ, jK, Y2, c1, c2, c5, c3] | apply hX; clear hX X))
  refine aDrw (fun _ => True) (by kernel_rfl) trivial ?_; simp -implicitDefEqProofs only [forall_eq, eq_self, ↓slp, ↓reduceIte, reduceCtorEq, jA, jB, jC, jD, jE, jF, jG, jH, jI, jJ, jK, Y2]; try simp only [fo]
  refine callM hrd ?_
  rintro v mc ⟨rfl, rfl⟩
  simp -implicitDefEqProofs only [↓slp, ↓reduceIte, reduceCtorEq, jA, jB, jC, jD, jE, jF, jG, jH, jI, jJ, jK, Y2, forall_const]
  refine callM (hc _) ?_
  rintro v mc ⟨rfl, rfl⟩
  simp -implicitDefEqProofs only [↓slp, ↓reduceIte, reduceCtorEq, jA, jB, jC, jD, jE, jF, jG, jH, jI, jJ, jK, Y2, forall_const]
  refine callM har ?_
  rintro v mc ⟨rfl, q1, q2⟩
  refine ⟨trivial, ?_⟩
  (repeat (first | refine aSeq fun X hX => ?_ | apply aBlk | refine aSkip ?_ | (first | refine aExit ?_ | refine aRet ?_); try simp only [slx, ↓reduceIte, jA, reduceCtorEq] | (first | apply aReg | apply aIf); simp -implicitDefEqProofs only [forall_eq, ↓slp, ↓reduceIte, reduceCtorEq, jA, jB, jC, jD, jE, jF, jG, jH, jI, jJ, jK, Y2]; try simp only [fo] | apply hX; clear hX X | clear hX X; apply hX; clear hX X | clear hX X; clear hX X; apply hX; clear hX X | intro hlen; unfold maxLen at hlen | apply And.intro; · first | assumption | and_intros <;> first | omega | assumption))
  simp only [aPost, Try.results45, aRes_n, aRes_t, aRes_c, pack_one, pack_two]
  exact leave_stp q2 rfl ⟨rfl, q1, q2⟩
theorem rdL_app (ns : List Str) (see : List Nat) (a b : List Ex) : rdL ns see (a ++ b) = rdL ns see a ++ rdL ns see b := by unfold rdL; rw [List.flatMap_append]
theorem sizes_le : ∀ (es : List Ex) (b : Nat), (∀ e ∈ es, e.size ≤ b) → Ex.sizes es ≤ es.length * b
 | [], b, _ => by simp [Ex.sizes]
 | e :: es, b, h => by
  have h1 := h e (List.mem_cons_self ..)
  have h2 := sizes_le es b (fun e he => h e (List.mem_cons_of_mem _ he))
  simp only [Ex.sizes, List.length_cons, Nat.add_mul]
  omega
set_option maxHeartbeats 4000000 in
theorem eqCall_step {S : List Str} {q : Qu} (hq : CsQ df PB PD S q) (hk : q.kind = 2 ∧ q.arms = [] ∧ q.args.length ≤ 3 ∧ (∀ e ∈ q.args, CsX e) ∧ (q.has = true → CsX q.e)) {mb : M} {gid : Nat} {g : Gs} {see : List Nat} {over : List Int} {O : Int → Prop} {m : M}
    (hg : GS mb gid g m) (he : EnvG g see S) (hn : g.vs.length < 2 ^ 29) (hs : see.length < 2 ^ 29) (hov : ∀ k ∈ over, k < (g.vs.length : Int)) (hO : ∀ x, O x ↔ x ∈ over) (hK : over.length + 10000 ≤ 2 ^ 28) :
    ACalls Try.prog 45 [.bp gid 0, .sl .no (see.map pN), q.pv, .sl .no (over.map pI)] m (fun v m' => v = .tp [] ∧ GS mb gid (gEq df bl see O g q) m' ∧ Stp m m') := by
 obtain ⟨k1, k2, k3, k4, k5⟩ := hk
 have hdq : dfQ df q = q.lhs := by unfold dfQ dfA; rw [k2]; rfl
 have hdS := hq.1
 have hll : q.lhs.length ≤ 100 := by obtain ⟨T, _, h⟩ := hq.2.1; exact h.1
 rw [hdq] at hdS
 have hex : ∀ x, x ∈ rdL (nmG g) see (exQ q) ↔ x ∈ rdL (nmG g) see q.args ∨ (q.has = true ∧ x ∈ rdL (nmG g) see [q.e]) := fun x => by
  unfold exQ
  rw [if_neg (by rw [k1]; decide), rdL_app, List.mem_append]
  cases hh : q.has with
  | true => simp; exact or_comm
  | false => simp [k1, rdL]
 have hgq : gEq df bl see O g q = gDef see (fun y => O y ∨ y ∈ rdL (nmG g) see (exQ q)) g q.lhs := by
  unfold gEq; rw [hdq, k2]; rfl
 rw [hgq]
 have hal := sizes_le q.args 1000 (fun e he => (k4 e he).2)
 have hal2 : Ex.sizes q.args ≤ 3000 := by omega
 have hra := rdL_len (nmG g) see q.args
 have hra2 := rdL_lt he.ltN q.args
 have hr1 := rdL_one (nmG g) see q.e
 have hr2 := rdL_lt he.ltN [q.e]
 rw [List.length_map] at hr2 hra2
 have hrd := reads_S hg he.lt (by omega) .no q.args (fun e he => shp_okr _ (k4 e he).1) (by omega)
 have hc := fun m => concatJ_any .full [over, rdL (nmG g) see q.args] m (by rw [flat2, List.length_append]; omega)
 rw [flat2] at hc
 have hre : q.has = true → ∀ {m' : M}, GS mb gid g m' → ACalls Try.prog 58 [.bp gid 0, .sl .no (see.map pN), .sl .full ([q.e].map Ex.pv)] m' (fun v m2 => v = .sl .no ((rdL (nmG g) see [q.e]).map pI) ∧ m2 = m') := fun hh m' h' => reads_S h' he.lt (by omega) .full [q.e] (fun e he => by rw [List.mem_singleton] at he; subst he; exact shp_okr _ (k5 hh).1) (by have := (k5 hh).2; simp [Ex.sizes]; omega)
 have hrel : q.has = true → (rdL (nmG g) see [q.e]).length ≤ 1000 := fun hh => Nat.le_trans hr1 (k5 hh).2
 have c1 : (q.kind == 1) = false := by rw [k1]; decide
 have c2 : (q.kind == 2) = true := by rw [k1]; decide
 generalize hA : rdL (nmG g) see q.args = A at *
 generalize hB : rdL (nmG g) see [q.e] = B at *
 refine ACalls.enter (mu := []) ok_mix Try.func45 rfl (by kernel_rfl) (by kernel_rfl) (by simp only [List.length_cons, List.length_nil, Try.ntmps45]; omega) ?_
 (repeat (first | refine aSeq fun X hX => ?_ | (first | apply aReg | apply aIf); simp -implicitDefEqProofs only [forall_eq, ↓slp, ↓reduceIte, reduceCtorEq, jA, jB, jC, jD, jE, jF, jG, jH, jI, jJ, jK, Y2, c1, c2] | apply hX; clear hX X))
 refine callM hrd ?_
 rintro v mc ⟨rfl, rfl⟩
 simp -implicitDefEqProofs only [↓slp, ↓reduceIte, reduceCtorEq, jA, jB, jC, jD, jE, jF, jG, jH, jI, jJ, jK, Y2]
 refine callM (hc _) ?_
 rintro v md ⟨rfl, rfl⟩
 simp -implicitDefEqProofs only [↓slp, ↓reduceIte, reduceCtorEq, jA, jB, jC, jD, jE, jF, jG, jH, jI, jJ, jK, Y2]
 (repeat (first | refine aSeq fun X hX => ?_ | (first | apply aReg | apply aIf); simp -implicitDefEqProofs only [forall_eq, ↓slp, ↓reduceIte, reduceCtorEq, jA, jB, jC, jD, jE, jF, jG, jH, jI, jJ, jK, Y2] | apply hX; clear hX X))
 have join : ∀ (f : F) (m2 : M) (o : Own) (L : List Int), f 0 = .bp gid 0 → f 1 = .sl .no (see.map pN) → f 6 = .ep q.cs → f 8 = .sl o (L.map pI) → GS mb gid g m2 → Stp mc m2 → (∀ k ∈ L, k < (g.vs.length : Int)) → L.length < 2 ^ 40 → (∀ x, (O x ∨ x ∈ rdL (nmG g) see (exQ q)) ↔ x ∈ L) → X f m2 := by
  intro f m2 o L f0 f1 f6 f8 hg2 hst hL1 hL2 hL3
  refine hX _ _ ?_
  clear hX X
  have hL3' : ∀ x, (fun y => O y ∨ y ∈ rdL (nmG g) see (exQ q)) x ↔ x ∈ L := hL3
  generalize (fun y => O y ∨ y ∈ rdL (nmG g) see (exQ q)) = O1 at *
  (repeat (first | refine aSeq fun X hX => ?_ | refine aBlk ?_ | refine aReg ?_; simp -implicitDefEqProofs only [forall_eq, ↓slp, ↓reduceIte, reduceCtorEq, jA, jB, jC, jD, jE, jF, jG, jH, jI, jJ, jK, Y2, f0, f1, f6, f8] | apply hX; clear hX X | intro hlen; unfold maxLen at hlen))
  obtain ⟨I, hI⟩ : ∃ I : F → M → Prop, ∀ f m', I f m' = (∃ k : Nat, k ≤ q.lhs.length ∧ f 0 = .bp gid 0 ∧ f 1 = .sl .no (see.map pN) ∧ f 8 = .sl o (L.map pI) ∧ f 58 = .sl .no (q.lhs.map pS) ∧ f 59 = pI q.lhs.length ∧ f 60 = pI k ∧ GS mb gid (gDef see O1 g (q.lhs.take k)) m' ∧ Stp mc m') := ⟨_, fun _ _ => rfl⟩
  refine aLoop I (fun f m => q.lhs.length - numOf (f 60)) ?_ ?_
  ·rw [hI]; exact ⟨0, by omega, f0, f1, f8, rfl, rfl, rfl, hg2, hst⟩
  clear f0 f1 f6 f8 hg2 hst
  intro f m' hrel
  rw [hI] at hrel
  obtain ⟨k, hk, f0, f1, f8, f58, f59, f60, hg1, hst⟩ := hrel
  cases d1 : decide ((k : Int) < (q.lhs.length : Int)) with
  | true =>
   have hlt : k < q.lhs.length := by simpa using d1
   have g0 := getD_map pS q.lhs k hlt
   have hi : IntKind.i64.wrap ((k : Int) + 1) = ((k + 1 : Nat) : Int) := by rw [wrap64 (by omega)]; omega
   have hme : numOf (f 60) = k := by rw [f60]; exact Int.toNat_natCast k
   have hnx := gDef_take (see := see) (O := O1) (g := g) hlt
   have hvs := gDef_vs see O1 (q.lhs.take k) g
   have he1 : EnvG (gDef see O1 g (q.lhs.take k)) see S := he.same hvs
   obtain ⟨i, hi1, hi2⟩ := he.fnd (hdS _ (List.getElem_mem hlt))
   have hfd := find_S hg1 he1.lt (by omega) q.lhs[k]
   have e1 : nmG (gDef see O1 g (q.lhs.take k)) = nmG g := by unfold nmG; rw [hvs]
   rw [e1, hi2] at hfd
   have hnd := need_S hg1 (by rw [hvs]; omega) (i := i) (by rw [hvs]; exact hi1) L (by rw [hvs]; exact hL1) hL2 (O := O1) hL3'
   rw [hi2] at hnx
   (repeat (first | refine aSeq fun X hX => ?_ | refine aSkip ?_ | (first | apply aReg | apply aIf); simp -implicitDefEqProofs only [forall_eq, ↓slp, ↓reduceIte, reduceCtorEq, jA, jB, jC, jD, jE, jF, jG, jH, jI, jJ, jK, Y2, f0, f1, f8, f58, f59, f60, pI, pS, d1, g0] | apply hX; clear hX X | apply And.intro; focus omega))
   refine callM hfd ?_
   rintro v md ⟨rfl, rfl⟩
   simp -implicitDefEqProofs only [↓slp, ↓reduceIte, reduceCtorEq, jA, jB, jC, jD, jE, jF, jG, jH, jI, jJ, jK, Y2, f0, f1, f8, pI]
   refine callMS hnd (by simp only [List.map_cons, List.map_nil, PV.settle]) ?_
   rintro v me ⟨rfl, q1, q2⟩
   (repeat (first | refine aReg ?_; simp -implicitDefEqProofs only [forall_eq, ↓slp, ↓reduceIte, reduceCtorEq, jA, jB, jC, jD, jE, jF, jG, jH, jI, jJ, jK, Y2, f60, pI, hi] | apply hX; clear hX X))
   rw [hI]
   exact ⟨⟨k + 1, hlt, f0, f1, f8, f58, f59, rfl, by rw [hnx]; exact q1, hst.trans q2⟩, by omega⟩
  | false =>
   obtain rfl : k = q.lhs.length := by simp at d1; omega
   rw [List.take_length] at hg1
   (repeat (first | refine aSeq fun X hX => ?_ | refine aExit ?_; try simp only [slx, ↓reduceIte, jA, reduceCtorEq] | (first | apply aReg | apply aIf); simp -implicitDefEqProofs only [forall_eq, ↓slp, ↓reduceIte, reduceCtorEq, jA, jB, jC, jD, jE, jF, jG, jH, jI, jJ, jK, Y2, f58, f59, f60, pI, d1] | apply hX; clear hX X))
   simp only [aPost, Try.results45, aRes_n, aRes_t, aRes_c, pack_one, pack_two]
   exact leave_stp hst rfl ⟨rfl, hg1, hst⟩
 have hoA : ∀ x, x ∈ over ++ A ↔ O x ∨ x ∈ A := fun x => by rw [List.mem_append, hO]
 refine ⟨fun hh => ?_, fun hh => ?_⟩
 ·have hBl := hrel hh
  have h11 := ints_one (over ++ A)
  have h12 := ints_one B
  have hlen1 : (over ++ A).length = over.length + A.length := List.length_append
  have hmx : (over ++ A).length + B.length ≤ maxLen := by unfold maxLen; omega
  have hal' : (mc.fresh 1).alive mc.nt 1 := by simp [M.alive, M.fresh, M.nt]
  have q3 := (Stp.use mc .full 1).trans (Stp.use (mc.fresh 1) (.tok mc.nt) 1)
  generalize hAA : over ++ A = AA at *
  (repeat (refine aReg ?_; simp -implicitDefEqProofs only [forall_eq, ↓slp, ↓reduceIte, reduceCtorEq, jA, jB, jC, jD, jE, jF, jG, jH, jI, jJ, jK, Y2]; try simp only [fo]))
  refine callM (hre hh (hg.fresh 1)) ?_
  rintro v md ⟨rfl, rfl⟩
  simp -implicitDefEqProofs only [↓slp, ↓reduceIte, reduceCtorEq, jA, jB, jC, jD, jE, jF, jG, jH, jI, jJ, jK, Y2]; try simp only [fo]
  refine ⟨⟨hal', h11, h12, hmx, by omega⟩, ?_⟩
  refine join _ _ (.tok (mc.fresh 1).nt) (AA ++ B) rfl rfl rfl (by rw [List.map_append]; rfl) (hg.use 1 1) q3 (fun k hk => ?_) (by rw [List.length_append]; omega) (fun x => ?_)
  ·rcases List.mem_append.1 hk with h | h
   ·rw [← hAA] at h
    rcases List.mem_append.1 h with h | h
    ·exact hov k h
    ·exact hra2 k h
   ·exact hr2 k h
  ·rw [hex, List.mem_append, hoA, hh]
   simp [or_assoc]
 ·(repeat refine aSkip ?_)
  refine join _ _ (.tok mc.nt) (over ++ A) rfl rfl rfl rfl (hg.fresh 1) (Stp.use mc .full 1) (fun k hk => ?_) (by rw [List.length_append]; omega) (fun x => ?_)
  ·rcases List.mem_append.1 hk with h | h
   ·exact hov k h
   ·exact hra2 k h
  ·rw [hex, hoA, hh]
   simp
set_option maxHeartbeats 4000000 in
theorem eqAuto_step (hPD : ∀ V Q T, PD V Q T → T.length ≤ 100 → DBC df V Q T) (hbl : BlC bl PB cb K) (hbv : BlV bl cb) {S : List Str} {q : Qu} (hq : CsQ df PB PD S q) (hk : q.kind = 4 ∧ q.args = [] ∧ ∀ a ∈ q.arms, a.unl.length ≤ 3 ∧ ∀ t ∈ a.unl, CsX t.e) {mb : M} {gid : Nat} {g : Gs} {see : List Nat} {over : List Int} {O : Int → Prop} {m : M}
    (hg : GS mb gid g m) (he : EnvG g see S) (hn : g.vs.length + cntQ cb q < 2 ^ 29) (hs : see.length + cntQ cb q < 2 ^ 29) (hov : ∀ k ∈ over, k < (g.vs.length : Int)) (hO : ∀ x, O x ↔ x ∈ over) (hK : over.length + 10000 + K ≤ 2 ^ 28) :
    ACalls Try.prog 45 [.bp gid 0, .sl .no (see.map pN), q.pv, .sl .no (over.map pI)] m (fun v m' => v = .tp [] ∧ GS mb gid (gEq df bl see O g q) m' ∧ Stp m m') := by
 obtain ⟨k1, k3, k5⟩ := hk
 have ha3 := hq.2.2.1
 have hex : exQ q = q.arms.flatMap fun a => a.unl.map Tr.e := by
  unfold exQ
  rw [k3, if_pos k1, List.append_nil]
 have hrl := fun es => rdL_lt he.ltN es
 simp only [List.length_map] at hrl
 have hrd := fun (t : Tr) (ht : CsX t.e) => reads_S hg he.lt (by omega) .full [t.e] (fun e he => by rw [List.mem_singleton] at he; subst he; exact shp_okr _ ht.1) (by have := ht.2; simp [Ex.sizes]; omega)
 have hc := fun (l : List Int) (t : Tr) (ht : CsX t.e) (hl : l.length < 2 ^ 29) => concatN [l, rdL (nmG g) see [t.e]] m .full (by rw [flat2, List.length_append]; have := ht.2; have := rdL_one (nmG g) see t.e; omega)
 simp only [flat2] at hc
 have har := fun (l : List Int) (h1 : ∀ k ∈ l, k < (g.vs.length : Int)) (h2 : ∀ y, (O y ∨ y ∈ rdL (nmG g) see (exQ q)) ↔ y ∈ l) (h3 : l.length + K ≤ 2 ^ 28) => arms_step (K := K) hPD hbl hbv (q := q) hq.1 hq.2.1 hq.2.2.2.1 hg he hn hs (over := l) (O := fun y => O y ∨ y ∈ rdL (nmG g) see (exQ q)) h1 h2 h3
 unfold gEq
 rw [Qu.pv_eq] at har
 rw [hex] at har ⊢
 have c1 : (q.kind == 1) = false := by rw [k1]; decide
 have c2 : (q.kind == 2) = false := by rw [k1]; decide
 have c3 : (q.kind == 3) = false := by rw [k1]; decide
 have c5 : (q.kind == 5) = false := by rw [k1]; decide
 have c4 : (q.kind == 4) = true := by rw [k1]; decide
 have hone : ∀ t : Tr, CsX t.e → (rdL (nmG g) see [t.e]).length ≤ 1000 := fun t ht => Nat.le_trans (rdL_one _ _ _) ht.2
 generalize hF : rdL (nmG g) see = RF at *
 have hFa : ∀ a b, RF (a ++ b) = RF a ++ RF b := fun a b => by rw [← hF]; exact rdL_app _ _ _ _
 have hF0 : RF [] = [] := by rw [← hF]; rfl
 refine ACalls.enter (mu := []) ok_mix Try.func45 rfl (by kernel_rfl) (by kernel_rfl) (by simp only [List.length_cons, List.length_nil, Try.ntmps45]; omega) ?_
 (repeat (first | refine aSeq fun X hX => ?_ | refine aBlk ?_ | (first | apply aReg | apply aIf); simp -implicitDefEqProofs only [forall_eq, ↓slp, ↓reduceIte, reduceCtorEq, jA, jB, jC, jD, jE, jF, jG, jH, jI, jJ, jK, Y2, c1, c2, c3, c5, c4] | apply hX; clear hX X | intro hlen; unfold maxLen at hlen))
 obtain ⟨I, hI⟩ : ∃ I : F → M → Prop, ∀ f m', I f m' = (∃ k : Nat, k ≤ q.arms.length ∧ f 0 = .bp gid 0 ∧ f 1 = .sl .no (see.map pN) ∧ f 3 = .sl .no ((over ++ RF ((q.arms.take k).flatMap fun a => a.unl.map Tr.e)).map pI) ∧ (RF ((q.arms.take k).flatMap fun a => a.unl.map Tr.e)).length ≤ k * 3000 ∧ f 6 = .ep q.cs ∧ f 91 = .sl .no (q.arms.map Am.pv) ∧ f 92 = pI q.arms.length ∧ f 93 = pI k ∧ m = m') := ⟨_, fun _ _ => rfl⟩
 refine aLoop I (fun f m => q.arms.length - numOf (f 93)) ?_ ?_
 ·rw [hI]; exact ⟨0, by omega, rfl, rfl, by rw [List.take_zero, List.flatMap_nil, hF0, List.append_nil]; rfl, by rw [List.take_zero, List.flatMap_nil, hF0]; simp, rfl, rfl, rfl, rfl, rfl⟩
 intro f m' hrel
 rw [hI] at hrel
 obtain ⟨k, hk, f0, f1, f3, hlk, f6, f91, f92, f93, rfl⟩ := hrel
 cases d1 : decide ((k : Int) < (q.arms.length : Int)) with
 | false =>
  obtain rfl : k = q.arms.length := by simp at d1; omega
  rw [List.take_length] at f3 hlk
  have hcall := har (over ++ RF (q.arms.flatMap fun a => a.unl.map Tr.e)) (fun k hk => by
   rcases List.mem_append.1 hk with h | h
   ·exact hov k h
   ·exact hrl _ k h) (fun y => by rw [List.mem_append, hO]) (by rw [List.length_append]; omega)
  (repeat (first | refine aSeq fun X hX => ?_ | refine aExit ?_; try simp only [slx, ↓reduceIte, jA, reduceCtorEq] | (first | apply aReg | apply aIf); simp -implicitDefEqProofs only [forall_eq, ↓slp, ↓reduceIte, reduceCtorEq, jA, jB, jC, jD, jE, jF, jG, jH, jI, jJ, jK, Y2, f0, f1, f3, f6, f91, f92, f93, pI, d1] | apply hX; clear hX X | clear hX X; apply hX; clear hX X))
  refine callM hcall ?_
  rintro v mc ⟨rfl, q1, q2⟩
  (repeat (first | refine aSeq fun X hX => ?_ | apply aBlk | refine aSkip ?_ | (first | refine aExit ?_ | refine aRet ?_); try simp only [slx, ↓reduceIte, jA, reduceCtorEq] | (first | apply aReg | apply aIf); simp -implicitDefEqProofs only [forall_eq, ↓slp, ↓reduceIte, reduceCtorEq, jA, jB, jC, jD, jE, jF, jG, jH, jI, jJ, jK, Y2]; try simp only [fo] | apply hX; clear hX X | clear hX X; apply hX; clear hX X | clear hX X; clear hX X; apply hX; clear hX X | intro hlen; unfold maxLen at hlen | apply And.intro; · first | assumption | and_intros <;> first | omega | assumption))
  simp only [aPost, Try.results45, aRes_n, aRes_t, aRes_c, pack_one, pack_two]
  exact leave_stp q2 rfl ⟨rfl, q1, q2⟩
 | true =>
  have hlt : k < q.arms.length := by simpa using d1
  have g0 := getD_map Am.pv q.arms k hlt
  have hi : IntKind.i64.wrap ((k : Int) + 1) = ((k + 1 : Nat) : Int) := by rw [wrap64 (by omega)]; omega
  have hme : numOf (f 93) = k := by rw [f93]; exact Int.toNat_natCast k
  obtain ⟨hu3, hux⟩ := k5 _ (List.getElem_mem hlt)
  have hnx : ((q.arms.take (k + 1)).flatMap fun a => a.unl.map Tr.e) = ((q.arms.take k).flatMap fun a => a.unl.map Tr.e) ++ q.arms[k].unl.map Tr.e := by
   rw [List.take_succ_eq_append_getElem hlt, List.flatMap_append]; simp
  generalize hB : ((q.arms.take k).flatMap fun a => a.unl.map Tr.e) = B at *
  generalize q.arms[k] = a at *
  (repeat (first | refine aSeq fun X hX => ?_ | refine aBlk ?_ | refine aSkip ?_ | (first | apply aReg | apply aIf); simp -implicitDefEqProofs only [forall_eq, ↓slp, ↓reduceIte, reduceCtorEq, jA, jB, jC, jD, jE, jF, jG, jH, jI, jJ, jK, Y2, f0, f1, f3, f6, f91, f92, f93, pI, d1, g0] | apply hX; clear hX X | intro hlen; unfold maxLen at hlen | apply And.intro; focus omega))
  obtain ⟨J, hJ⟩ : ∃ J : F → M → Prop, ∀ f m', J f m' = (∃ j : Nat, j ≤ a.unl.length ∧ f 0 = .bp gid 0 ∧ f 1 = .sl .no (see.map pN) ∧ f 3 = .sl .no ((over ++ RF (B ++ (a.unl.take j).map Tr.e)).map pI) ∧ (RF (B ++ (a.unl.take j).map Tr.e)).length ≤ k * 3000 + j * 1000 ∧ f 6 = .ep q.cs ∧ f 91 = .sl .no (q.arms.map Am.pv) ∧ f 92 = pI q.arms.length ∧ f 93 = pI k ∧ f 98 = .sl .no (a.unl.map Tr.pv) ∧ f 99 = pI a.unl.length ∧ f 100 = pI j ∧ m = m') := ⟨_, fun _ _ => rfl⟩
  refine aLoop J (fun f m => a.unl.length - numOf (f 100)) ?_ ?_
  ·rw [hJ]; exact ⟨0, by omega, f0, f1, by rw [List.take_zero, List.map_nil, List.append_nil]; exact f3, by rw [List.take_zero, List.map_nil, List.append_nil]; omega, f6, f91, f92, f93, rfl, rfl, rfl, rfl⟩
  clear f0 f1 f3 f6 f91 f92 f93
  intro f m' hrel
  rw [hJ] at hrel
  obtain ⟨j, hj, f0, f1, f3, hlj, f6, f91, f92, f93, f98, f99, f100, rfl⟩ := hrel
  cases d2 : decide ((j : Int) < (a.unl.length : Int)) with
  | true =>
   have hltj : j < a.unl.length := by simpa using d2
   have gj := getD_map Tr.pv a.unl j hltj
   have hij : IntKind.i64.wrap ((j : Int) + 1) = ((j + 1 : Nat) : Int) := by rw [wrap64 (by omega)]; omega
   have hmej : numOf (f 100) = j := by rw [f100]; exact Int.toNat_natCast j
   have hx := hux _ (List.getElem_mem hltj)
   have hnj : (a.unl.take (j + 1)).map Tr.e = (a.unl.take j).map Tr.e ++ [a.unl[j].e] := by rw [List.take_succ_eq_append_getElem hltj, List.map_append]; rfl
   have hrj := hrd a.unl[j] hx
   have hcj := hc (over ++ RF (B ++ (a.unl.take j).map Tr.e)) a.unl[j] hx (by rw [List.length_append]; omega)
   have hoj := hone a.unl[j] hx
   generalize a.unl[j] = t at *
   (repeat (first | refine aSeq fun X hX => ?_ | refine aSkip ?_ | (first | apply aReg | apply aIf); simp -implicitDefEqProofs only [forall_eq, ↓slp, ↓reduceIte, reduceCtorEq, jA, jB, jC, jD, jE, jF, jG, jH, jI, jJ, jK, Y2, f0, f1, f3, f6, f98, f99, f100, pI, d2, gj]; try simp only [fo] | apply hX; clear hX X | apply And.intro; focus omega))
   refine callM hrj ?_
   rintro v mc ⟨rfl, rfl⟩
   simp -implicitDefEqProofs only [↓slp, ↓reduceIte, reduceCtorEq, jA, jB, jC, jD, jE, jF, jG, jH, jI, jJ, jK, Y2, f3]
   refine callM hcj ?_
   rintro v mc ⟨rfl, rfl⟩
   simp -implicitDefEqProofs only [↓slp, ↓reduceIte, reduceCtorEq, jA, jB, jC, jD, jE, jF, jG, jH, jI, jJ, jK, Y2]; try simp only [fo]
   (repeat (first | refine aReg ?_; simp -implicitDefEqProofs only [forall_eq, ↓slp, ↓reduceIte, reduceCtorEq, jA, jB, jC, jD, jE, jF, jG, jH, jI, jJ, jK, Y2, f100, pI, hij] | apply hX; clear hX X))
   rw [hJ]
   have e1 : over ++ RF (B ++ (a.unl.take (j + 1)).map Tr.e) = over ++ RF (B ++ (a.unl.take j).map Tr.e) ++ RF [t.e] := by rw [hnj, ← List.append_assoc, hFa (B ++ _), List.append_assoc]
   exact ⟨⟨j + 1, hltj, f0, f1, by rw [e1]; rfl, by rw [hnj, ← List.append_assoc, hFa (B ++ _), List.length_append]; omega, f6, f91, f92, f93, f98, f99, rfl, rfl⟩, by omega⟩
  | false =>
   obtain rfl : j = a.unl.length := by simp at d2; omega
   rw [List.take_length, ← hnx] at f3 hlj
   (repeat (first | refine aSeq fun X hX => ?_ | refine aExit ?_; try simp only [slx, ↓reduceIte, jA, reduceCtorEq] | (first | apply aReg | apply aIf); simp -implicitDefEqProofs only [forall_eq, ↓slp, ↓reduceIte, reduceCtorEq, jA, jB, jC, jD, jE, jF, jG, jH, jI, jJ, jK, Y2, f93, hi, f98, f99, f100, pI, d2] | apply hX; clear hX X | clear hX X; apply hX; clear hX X))
   rw [hI]
   exact ⟨⟨k + 1, hlt, f0, f1, f3, by omega, f6, f91, f92, rfl, rfl⟩, by omega⟩
theorem eq_step (hPD : ∀ V Q T, PD V Q T → T.length ≤ 100 → DBC df V Q T) (hbl : BlC bl PB cb K) (hbv : BlV bl cb) {S : List Str} {q : Qu} (hq : CsQ df PB PD S q) {mb : M} {gid : Nat} {g : Gs} {see : List Nat} {over : List Int} {O : Int → Prop} {m : M}
    (hg : GS mb gid g m) (he : EnvG g see S) (hn : g.vs.length + cntQ cb q < 2 ^ 29) (hs : see.length + cntQ cb q < 2 ^ 29) (hov : ∀ k ∈ over, k < (g.vs.length : Int)) (hO : ∀ x, O x ↔ x ∈ over) (hK : over.length + 10000 + K ≤ 2 ^ 28) :
    ACalls Try.prog 45 [.bp gid 0, .sl .no (see.map pN), q.pv, .sl .no (over.map pI)] m (fun v m' => v = .tp [] ∧ GS mb gid (gEq df bl see O g q) m' ∧ Stp m m') := by
 rcases hq.2.2.2.2 with h | h | h | h
 ·exact eqDef_step hq h hg he (by omega) (by omega) hov hO (by omega)
 ·exact eqCall_step hq h hg he (by omega) (by omega) hov hO (by omega)
 ·exact eqArms_step hPD hbl hbv hq h hg he hn hs hov hO hK
 ·exact eqAuto_step hPD hbl hbv hq h hg he hn hs hov hO hK
theorem gEqs_take {Q : List Qu} {see : List Nat} {O : Int → Prop} {g : Gs} {k : Nat} (h : k < Q.length) : (Q.take (k + 1)).foldl (gEq df bl see O) g = gEq df bl see O ((Q.take k).foldl (gEq df bl see O) g) Q[k] := by
 rw [List.take_succ_eq_append_getElem h, List.foldl_append]; rfl
theorem gCk_take {V : List Va} {see : List Nat} {g : Gs} {k : Nat} (h : k < V.length) : gCk see g (V.take (k + 1)) = gCk1 see V[k] (gCk see g (V.take k)) V[k].clock := by
 unfold gCk; rw [List.take_succ_eq_append_getElem h, List.foldl_append]; rfl
theorem gCk1_take {l : List On} {see : List Nat} {v : Va} {g : Gs} {k : Nat} (h : k < l.length) : gCk1 see v g (l.take (k + 1)) = (gCk1 see v g (l.take k)).need (fndN (nmG g) see v.name) (fun x => x = fndN (nmG g) see l[k].var) := by
 have e : nmG (gCk1 see v g (l.take k)) = nmG g := by unfold nmG; rw [gCk1_vs]
 rw [← e]
 unfold gCk1
 rw [List.take_succ_eq_append_getElem h, List.foldl_append]; rfl
set_option maxHeartbeats 4000000 in
theorem csblock_step (hPD : ∀ V Q T, PD V Q T → T.length ≤ 100 → DBC df V Q T) (hbl : BlC bl PB cb K) (hbv : BlV bl cb) : BlC (gBlk df bl) (CsBs df PB PD) (cntBl cb) (K + 10000) := by
 intro S V Q hB mb gid g see over O m hg he hn hs hov hO hK
 obtain ⟨hck, hqs⟩ := hB
 obtain ⟨hv1, hv2, hv3⟩ := gVars_eq V g see
 have hcV : V.length ≤ cntBl cb V Q := by unfold cntBl; omega
 unfold gBlk
 refine ACalls.enter (mu := []) ok_mix Try.func24 rfl (by kernel_rfl) (by kernel_rfl) (by simp only [List.length_cons, List.length_nil, Try.ntmps24]; omega) ?_
 (repeat (first | refine aSeq fun X hX => ?_ | refine aBlk ?_ | refine aReg ?_; simp -implicitDefEqProofs only [forall_eq, ↓slp, ↓reduceIte, reduceCtorEq, jA, jB, jC, jD, jE, jF, jG, jH, jI, jJ, jK, Y2] | apply hX; clear hX X | intro hlen; unfold maxLen at hlen))
 obtain ⟨I, hI⟩ : ∃ I : F → M → Prop, ∀ f m', I f m' = (∃ k : Nat, k ≤ V.length ∧ f 0 = .bp gid 0 ∧ f 1 = .sl .no ((gVars (g, see) (V.take k)).2.map pN) ∧ f 3 = .sl .no (over.map pI) ∧ f 4 = .v .nilFunc ∧ f 7 = .ep [.sl .no (V.map Va.pv), .sl .no (Q.map Qu.pv)] ∧ f 20 = .sl .no (V.map Va.pv) ∧ f 21 = pI V.length ∧ f 22 = pI k ∧ GS mb gid (gVars (g, see) (V.take k)).1 m' ∧ Stp m m') := ⟨_, fun _ _ => rfl⟩
 refine aLoop I (fun f m => V.length - numOf (f 22)) ?_ ?_
 ·rw [hI]; exact ⟨0, by omega, rfl, rfl, rfl, rfl, rfl, rfl, rfl, rfl, hg, Stp.refl _⟩
 intro f m' hrel
 rw [hI] at hrel
 obtain ⟨k, hk, f0, f1, f3, f4, f7, f20, f21, f22, hg1, hst⟩ := hrel
 cases c1 : decide ((k : Int) < (V.length : Int)) with
 | true =>
  have hlt : k < V.length := by simpa using c1
  have g0 := getD_map Va.pv V k hlt
  have hi : IntKind.i64.wrap ((k : Int) + 1) = ((k + 1 : Nat) : Int) := by rw [wrap64 (by omega)]; omega
  have hme : numOf (f 22) = k := by rw [f22]; exact Int.toNat_natCast k
  obtain ⟨hw1, hw2, hw3⟩ := gVars_eq (V.take k) g see
  have hnx := gVars_take (p := (g, see)) hlt
  have hp := put_S hg1 (by rw [hw1]; simp; omega) (see := (gVars (g, see) (V.take k)).2) (by rw [hw3]; simp; omega) V[k]
  (repeat (first | refine aSeq fun X hX => ?_ | refine aSkip ?_ | (first | apply aReg | apply aIf); simp -implicitDefEqProofs only [forall_eq, ↓slp, ↓reduceIte, reduceCtorEq, jA, jB, jC, jD, jE, jF, jG, jH, jI, jJ, jK, Y2, f0, f1, f3, f4, f7, f20, f21, f22, pI, c1, g0] | apply hX; clear hX X | apply And.intro; focus omega))
  refine callM hp ?_
  rintro v mc ⟨rfl, q1, q2⟩
  simp -implicitDefEqProofs only [↓slp, ↓reduceIte, reduceCtorEq, jA, jB, jC, jD, jE, jF, jG, jH, jI, jJ, jK, Y2]
  (repeat (first | refine aReg ?_; simp -implicitDefEqProofs only [forall_eq, ↓slp, ↓reduceIte, reduceCtorEq, jA, jB, jC, jD, jE, jF, jG, jH, jI, jJ, jK, Y2, f22, pI, hi] | apply hX; clear hX X))
  rw [hI]
  exact ⟨⟨k + 1, hlt, f0, by rw [hnx]; rfl, f3, f4, f7, f20, f21, rfl, by rw [hnx]; exact q1, hst.trans q2⟩, by omega⟩
 | false =>
  obtain rfl : k = V.length := by simp at c1; omega
  rw [List.take_length] at f1 hg1
  obtain ⟨g1, hg1'⟩ : ∃ g1, (gVars (g, see) V).1 = g1 := ⟨_, rfl⟩
  obtain ⟨see1, hs1'⟩ : ∃ see1, (gVars (g, see) V).2 = see1 := ⟨_, rfl⟩
  rw [hg1'] at hv1 hg1
  rw [hs1'] at hv3 f1
  rw [hg1', hs1']
  have he1 : EnvG g1 see1 (S ++ V.map Va.name) := by
   refine ⟨fun i hi => ?_, ?_⟩
   ·rw [hv3] at hi
    rw [hv1, List.length_append, List.length_map]
    rcases List.mem_append.1 hi with hi | hi
    ·have := he.lt i hi; omega
    ·obtain ⟨j, hj, rfl⟩ := List.mem_map.1 hi
     have := List.mem_range.1 hj
     omega
   ·have e0 : nmG g1 = nmG g ++ V.map Va.name := by unfold nmG; rw [hv1, List.map_append, List.map_map]; rfl
    rw [e0, hv3]
    unfold seeNm
    rw [List.map_append]
    have h1 := seeNm_ext (nmG g) (V.map Va.name) see he.ltN
    unfold seeNm at h1
    rw [h1]
    have h2 := he.nm
    unfold seeNm at h2
    rw [h2]
    congr 1
    refine List.ext_getElem (by simp) fun j h3 h4 => ?_
    simp only [List.getElem_map, List.getElem_range]
    have h5 : (nmG g).length = g.vs.length := List.length_map _
    rw [List.getD, List.getElem?_append_right (by omega), h5, Nat.add_sub_cancel_left]
    have h6 : j < V.length := by simpa using h3
    simp [h6]
  have hl1 : g1.vs.length = g.vs.length + V.length := by rw [hv1]; simp
  have hl2 : see1.length = see.length + V.length := by rw [hv3]; simp
  have hgd1 := fun s => fndN_lt he1.ltN s
  simp only [List.length_map] at hgd1
  (repeat (first | refine aSeq fun X hX => ?_ | refine aBlk ?_ | refine aExit ?_; try simp only [slx, ↓reduceIte, jA, reduceCtorEq] | (first | apply aReg | apply aIf); simp -implicitDefEqProofs only [forall_eq, ↓slp, ↓reduceIte, reduceCtorEq, jA, jB, jC, jD, jE, jF, jG, jH, jI, jJ, jK, Y2, f0, f1, f3, f4, f7, f20, f21, f22, pI, c1] | apply hX; clear hX X | clear hX X; apply hX; clear hX X | intro hlen; unfold maxLen at hlen))
  clear I hI
  obtain ⟨J, hJ⟩ : ∃ J : F → M → Prop, ∀ f m', J f m' = (∃ k : Nat, k ≤ V.length ∧ f 0 = .bp gid 0 ∧ f 1 = .sl .no (see1.map pN) ∧ f 3 = .sl .no (over.map pI) ∧ f 4 = .v .nilFunc ∧ f 7 = .ep [.sl .no (V.map Va.pv), .sl .no (Q.map Qu.pv)] ∧ f 32 = .sl .no (V.map Va.pv) ∧ f 33 = pI V.length ∧ f 34 = pI k ∧ GS mb gid (gCk see1 g1 (V.take k)) m' ∧ Stp m m') := ⟨_, fun _ _ => rfl⟩
  refine aLoop J (fun f m => V.length - numOf (f 34)) ?_ ?_
  ·rw [hJ]; exact ⟨0, by omega, f0, f1, f3, f4, f7, rfl, rfl, rfl, hg1, hst⟩
  clear f0 f1 f3 f4 f7 f20 f21 f22 hg1 hst
  intro f m' hrel
  rw [hJ] at hrel
  obtain ⟨k, hk, f0, f1, f3, f4, f7, f32, f33, f34, hg2, hst⟩ := hrel
  cases c2 : decide ((k : Int) < (V.length : Int)) with
  | true =>
   have hlt : k < V.length := by simpa using c2
   have g0 := getD_map Va.pv V k hlt
   have hi : IntKind.i64.wrap ((k : Int) + 1) = ((k + 1 : Nat) : Int) := by rw [wrap64 (by omega)]; omega
   have hme : numOf (f 34) = k := by rw [f34]; exact Int.toNat_natCast k
   have hnx := gCk_take (see := see1) (g := g1) hlt
   have hvs := gCk_vs see1 (V.take k) g1
   obtain ⟨i, hi1, hi2⟩ := he1.fnd (s := V[k].name) (List.mem_append_right _ (List.mem_map_of_mem (List.getElem_mem hlt)))
   have hckl := hck _ (List.getElem_mem hlt)
   have he2 : EnvG (gCk see1 g1 (V.take k)) see1 (S ++ V.map Va.name) := he1.same hvs
   have e2 : nmG (gCk see1 g1 (V.take k)) = nmG g1 := by unfold nmG; rw [hvs]
   generalize hgk : gCk see1 g1 (V.take k) = g2 at *
   generalize V[k] = v at *
   have hfd := fun s => find_S hg2 he2.lt (by omega) s
   have hfd0 := hfd v.name
   rw [e2, hi2] at hfd0
   (repeat (first | refine aSeq fun X hX => ?_ | refine aSkip ?_ | (first | apply aReg | apply aIf); simp -implicitDefEqProofs only [forall_eq, ↓slp, ↓reduceIte, reduceCtorEq, jA, jB, jC, jD, jE, jF, jG, jH, jI, jJ, jK, Y2, f0, f1, f3, f4, f7, f32, f33, f34, pI, c2, g0] | apply hX; clear hX X | apply And.intro; focus omega))
   refine callM hfd0 ?_
   rintro w mc ⟨rfl, rfl⟩
   simp -implicitDefEqProofs only [↓slp, ↓reduceIte, reduceCtorEq, jA, jB, jC, jD, jE, jF, jG, jH, jI, jJ, jK, Y2]
   (repeat (first | refine aSeq fun X hX => ?_ | refine aBlk ?_ | refine aReg ?_; simp -implicitDefEqProofs only [forall_eq, ↓slp, ↓reduceIte, reduceCtorEq, jA, jB, jC, jD, jE, jF, jG, jH, jI, jJ, jK, Y2] | apply hX; clear hX X | intro hlen; unfold maxLen at hlen))
   obtain ⟨J2, hJ2⟩ : ∃ J2 : F → M → Prop, ∀ f m', J2 f m' = (∃ j : Nat, j ≤ v.clock.length ∧ f 0 = .bp gid 0 ∧ f 1 = .sl .no (see1.map pN) ∧ f 3 = .sl .no (over.map pI) ∧ f 4 = .v .nilFunc ∧ f 7 = .ep [.sl .no (V.map Va.pv), .sl .no (Q.map Qu.pv)] ∧ f 14 = pN i ∧ f 32 = .sl .no (V.map Va.pv) ∧ f 33 = pI V.length ∧ f 34 = pI k ∧ f 44 = .sl .no (v.clock.map On.pv) ∧ f 45 = pI v.clock.length ∧ f 46 = pI j ∧ GS mb gid (gCk1 see1 v g2 (v.clock.take j)) m' ∧ Stp m m') := ⟨_, fun _ _ => rfl⟩
   refine aLoop J2 (fun f m => v.clock.length - numOf (f 46)) ?_ ?_
   ·rw [hJ2]; exact ⟨0, by omega, f0, f1, f3, f4, f7, rfl, f32, f33, f34, rfl, rfl, rfl, hg2, hst⟩
   clear f0 f1 f3 f4 f7 f32 f33 f34 hg2 hst hfd hfd0
   intro f m' hrel
   rw [hJ2] at hrel
   obtain ⟨j, hj, f0, f1, f3, f4, f7, f14, f32, f33, f34, f44, f45, f46, hg3, hst⟩ := hrel
   cases c3 : decide ((j : Int) < (v.clock.length : Int)) with
   | true =>
    have hltj : j < v.clock.length := by simpa using c3
    have gj := getD_map On.pv v.clock j hltj
    have hij : IntKind.i64.wrap ((j : Int) + 1) = ((j + 1 : Nat) : Int) := by rw [wrap64 (by omega)]; omega
    have hmej : numOf (f 46) = j := by rw [f46]; exact Int.toNat_natCast j
    have hnj := gCk1_take (see := see1) (v := v) (g := g2) hltj
    have hvj := gCk1_vs see1 v (v.clock.take j) g2
    rw [e2, hi2] at hnj
    have he3 : EnvG (gCk1 see1 v g2 (v.clock.take j)) see1 (S ++ V.map Va.name) := he2.same hvj
    have e3 : nmG (gCk1 see1 v g2 (v.clock.take j)) = nmG g1 := by unfold nmG at e2 ⊢; rw [hvj, e2]
    have hl3 : (gCk1 see1 v g2 (v.clock.take j)).vs.length = g1.vs.length := by rw [hvj, hvs]
    have hfd := find_S hg3 he3.lt (by omega) v.clock[j].var
    rw [e3] at hfd
    have hnd := need_S hg3 (by omega) (i := i) (by omega) [fndN (nmG g1) see1 v.clock[j].var] (fun k hk => by rw [List.mem_singleton] at hk; subst hk; rw [hl3]; exact hgd1 _) (by simp) (O := fun x => x = fndN (nmG g1) see1 v.clock[j].var) (fun x => by rw [List.mem_singleton])
    (repeat (first | refine aSeq fun X hX => ?_ | refine aSkip ?_ | (first | apply aReg | apply aIf); simp -implicitDefEqProofs only [forall_eq, ↓slp, ↓reduceIte, reduceCtorEq, jA, jB, jC, jD, jE, jF, jG, jH, jI, jJ, jK, Y2, f0, f1, f3, f4, f7, f14, f32, f33, f34, f44, f45, f46, pI, pN, pS, c3, gj, On.pv] | apply hX; clear hX X | apply And.intro; focus omega))
    refine callM hfd ?_
    rintro w mc ⟨rfl, rfl⟩
    simp -implicitDefEqProofs only [↓slp, ↓reduceIte, reduceCtorEq, jA, jB, jC, jD, jE, jF, jG, jH, jI, jJ, jK, Y2, f0, f14, pN, pI]
    refine callMS hnd (by simp only [List.map_cons, List.map_nil, PV.settle]) ?_
    rintro w me ⟨rfl, q1, q2⟩
    (repeat (first | refine aReg ?_; simp -implicitDefEqProofs only [forall_eq, ↓slp, ↓reduceIte, reduceCtorEq, jA, jB, jC, jD, jE, jF, jG, jH, jI, jJ, jK, Y2, f46, pI, hij] | apply hX; clear hX X))
    rw [hJ2]
    exact ⟨⟨j + 1, hltj, f0, f1, f3, f4, f7, f14, f32, f33, f34, f44, f45, rfl, by rw [hnj]; exact q1, hst.trans q2⟩, by omega⟩
   | false =>
    obtain rfl : j = v.clock.length := by simp at c3; omega
    rw [List.take_length, ← hnx] at hg3
    (repeat (first | refine aSeq fun X hX => ?_ | refine aExit ?_; try simp only [slx, ↓reduceIte, jA, reduceCtorEq] | (first | apply aReg | apply aIf); simp -implicitDefEqProofs only [forall_eq, ↓slp, ↓reduceIte, reduceCtorEq, jA, jB, jC, jD, jE, jF, jG, jH, jI, jJ, jK, Y2, f34, hi, f44, f45, f46, pI, c3] | apply hX; clear hX X | clear hX X; apply hX; clear hX X))
    rw [hJ]
    exact ⟨⟨k + 1, hlt, f0, f1, f3, f4, f7, f32, f33, rfl, hg3, hst⟩, by omega⟩
  | false =>
   obtain rfl : k = V.length := by simp at c2; omega
   rw [List.take_length] at hg2
   have hvs := gCk_vs see1 V g1
   have he2 : EnvG (gCk see1 g1 V) see1 (S ++ V.map Va.name) := he1.same hvs
   generalize hgf : gCk see1 g1 V = g2 at *
   have hcQ : cntBl cb V Q = V.length + (Q.map (cntQ cb)).sum := rfl
   (repeat (first | refine aSeq fun X hX => ?_ | refine aBlk ?_ | refine aExit ?_; try simp only [slx, ↓reduceIte, jA, reduceCtorEq] | (first | apply aReg | apply aIf); simp -implicitDefEqProofs only [forall_eq, ↓slp, ↓reduceIte, reduceCtorEq, jA, jB, jC, jD, jE, jF, jG, jH, jI, jJ, jK, Y2, f0, f1, f3, f4, f7, f32, f33, f34, pI, c2] | apply hX; clear hX X | clear hX X; apply hX; clear hX X | intro hlen; unfold maxLen at hlen))
   clear J hJ
   obtain ⟨J, hJ⟩ : ∃ J : F → M → Prop, ∀ f m', J f m' = (∃ k : Nat, k ≤ Q.length ∧ f 0 = .bp gid 0 ∧ f 1 = .sl .no (see1.map pN) ∧ f 3 = .sl .no (over.map pI) ∧ f 4 = .v .nilFunc ∧ f 62 = .sl .no (Q.map Qu.pv) ∧ f 63 = pI Q.length ∧ f 64 = pI k ∧ GS mb gid ((Q.take k).foldl (gEq df bl see1 O) g2) m' ∧ Stp m m') := ⟨_, fun _ _ => rfl⟩
   refine aLoop J (fun f m => Q.length - numOf (f 64)) ?_ ?_
   ·rw [hJ]; exact ⟨0, by omega, f0, f1, f3, f4, rfl, rfl, rfl, hg2, hst⟩
   clear f0 f1 f3 f4 f7 f32 f33 f34 hg2 hst
   intro f m' hrel
   rw [hJ] at hrel
   obtain ⟨k, hk, f0, f1, f3, f4, f62, f63, f64, hg3, hst⟩ := hrel
   cases c3 : decide ((k : Int) < (Q.length : Int)) with
   | true =>
    have hlt : k < Q.length := by simpa using c3
    have g0 := getD_map Qu.pv Q k hlt
    have hi : IntKind.i64.wrap ((k : Int) + 1) = ((k + 1 : Nat) : Int) := by rw [wrap64 (by omega)]; omega
    have hme : numOf (f 64) = k := by rw [f64]; exact Int.toNat_natCast k
    have hnx := gEqs_take (df := df) (bl := bl) (see := see1) (O := O) (g := g2) hlt
    obtain ⟨ms, hms, hml⟩ := gEqs_vs (df := df) hbv see1 O (Q.take k) g2
    have hs1 := sum_take1 (Q.map (cntQ cb)) k (by simpa using hlt)
    rw [← List.map_take, List.getElem_map] at hs1
    have hvl : ((Q.take k).foldl (gEq df bl see1 O) g2).vs.length = g1.vs.length + ms.length := by rw [hms, List.length_append, hvs]
    have hq := eq_step (K := K) hPD hbl hbv (hqs _ (List.getElem_mem hlt)) hg3 (he2.ext hms) (by omega) (by omega) (fun x hx => by rw [hvl]; have := hov x hx; omega) hO (by omega)
    rw [Qu.pv_eq] at hq
    (repeat (first | refine aSeq fun X hX => ?_ | refine aSkip ?_ | (first | apply aReg | apply aIf); simp -implicitDefEqProofs only [forall_eq, ↓slp, ↓reduceIte, reduceCtorEq, jA, jB, jC, jD, jE, jF, jG, jH, jI, jJ, jK, Y2, f0, f1, f3, f4, f62, f63, f64, pI, c3, g0] | apply hX; clear hX X | apply And.intro; focus omega))
    refine callM hq ?_
    rintro w me ⟨rfl, q1, q2⟩
    (repeat (first | refine aReg ?_; simp -implicitDefEqProofs only [forall_eq, ↓slp, ↓reduceIte, reduceCtorEq, jA, jB, jC, jD, jE, jF, jG, jH, jI, jJ, jK, Y2, f64, pI, hi] | apply hX; clear hX X))
    rw [hJ]
    exact ⟨⟨k + 1, hlt, f0, f1, f3, f4, f62, f63, rfl, by rw [hnx]; exact q1, hst.trans q2⟩, by omega⟩
   | false =>
    obtain rfl : k = Q.length := by simp at c3; omega
    rw [List.take_length] at hg3
    have hnf : ofV Value.nilFunc = .v .nilFunc := rfl
    (repeat (first | refine aSeq fun X hX => ?_ | refine aSkip ?_ | refine aExit ?_; try simp only [slx, ↓reduceIte, jA, reduceCtorEq] | (first | apply aReg | apply aIf); simp -implicitDefEqProofs only [forall_eq, ↓slp, ↓reduceIte, reduceCtorEq, jA, jB, jC, jD, jE, jF, jG, jH, jI, jJ, jK, Y2, f4, f62, f63, f64, pI, c3, hnf, decide_true] | apply hX; clear hX X | clear hX X; apply hX; clear hX X))
    simp only [aPost, Try.results24, aRes_n, aRes_t, aRes_c, pack_one, pack_two]
    exact leave_stp hst rfl ⟨rfl, by rw [hg1', hs1', hgf]; exact hg3, hst⟩
theorem csblock_any : ∀ d : Nat, BlC (gBk d) (CsB d) (cntF d) ((d + 1) * 10000)
 | 0 => csblock_step (K := 0) (df := fun _ _ => []) (bl := fun g _ _ _ _ => g) (PB := fun _ _ _ => False) (PD := fun _ _ _ => False) (cb := fun _ _ => 0) (fun V Q T h _ => h.elim) (fun S V Q h => h.elim) (fun g see V Q O => ⟨[], by simp, rfl⟩)
 | d + 1 => by
  have := csblock_step (K := (d + 1) * 10000) (fun V Q T h hT => bdefines_any d V Q T h hT) (csblock_any d) (gBk_vs d)
  rwa [show (d + 1) * 10000 + 10000 = (d + 1 + 1) * 10000 by omega] at this
end
end Go.Proofs.Ytaealemhegdmpaa
