/-
  The other look: Check of a program of enumerations, by the law's own reference.
-/
import Derived.Test.YteiaedmipkcfeaaDoorNeC
import Derived.Test.YteiaedmipkcfeaaDoorNmI
set_option linter.unusedVariables false
set_option linter.unusedSimpArgs false
namespace Go.Proofs.YteiaedmipkcfeaaDoor
open Nat renaming reduceEqDiff → jA, reduceAdd → jB, reduceMul → jC, reduceLT → jD, reduceLeDiff → jE, reduceBEq → jF, reduceBNe → jG
open Int renaming reduceLE → jH, reduceLT → jI, reduceToNat → jJ, reduceEq → jK
open Go
-- EXX: En.settle_pv, En.pure_pv, En.cells_pv, En.cs.eq_1
set_option maxRecDepth 20000
-- TNAMES: int; uint8; int32; string; bool; []string; api.Pos; api.Node; []api.Node; api.Enum; []api.Enum; api.Program; api.Kind; metronomeref07.look; *metronomeref07.look
set_option linter.defProp false
def tfNeR := And.intro @tfA (And.intro @Ex.settle_pv (And.intro @Ex.pure_pv (And.intro @Ex.cells_pv (And.intro @Ex.cs.eq_1 (And.intro @On.pv.eq_1 (And.intro @Ty.pv.eq_1 (And.intro @Va.settle_pv (And.intro @Va.pure_pv (And.intro @Va.cells_pv (And.intro @Va.cs.eq_1 (And.intro @En.settle_pv (And.intro @En.pure_pv (And.intro @En.cells_pv @En.cs.eq_1)))))))))))))

set_option maxRecDepth 20000 in
set_option maxHeartbeats 400000 in
theorem rHas_any (o : Own) (l : List Str) (s : Str) (m : M) : ACalls Tryd.prog 20 [.sl o (l.map pS), pS s] m (fun v m' => v = pB (hasS l s) ∧ m' = m) := by
  refine ACalls.enter (mu := []) ok_mix Tryd.func20 rfl (by kernel_rfl) (by kernel_rfl) (by simp only [List.length_cons, List.length_nil, Tryd.ntmps20]; omega) ?_
  (repeat (first | refine aSeq fun X hX => ?_ | refine aBlk ?_ | refine aSkip ?_ | (first | refine aExit ?_ | refine aRet ?_); try simp only [slx, ↓reduceIte, Nat.reduceEqDiff, reduceCtorEq] | (first | refine aReg ?_ | refine aDrE ?_); simp -implicitDefEqProofs only [forall_eq, ↓slp, slb, ↓reduceIte, reduceCtorEq, jA, jB, jC, jD, jE, jF, jG, jH, jI, jJ, jK, tfNeR]; try simp only [Ex.fold, Ex.foldcs, ← Va.pv.eq_1] | refine hX _ _ ?_; clear hX X | clear hX X; refine hX _ _ ?_; clear hX X | clear hX X; clear hX X; refine hX _ _ ?_; clear hX X | intro hlen; unfold maxLen at hlen | apply And.intro; focus (first | omega | assumption | (repeat' apply And.intro) <;> first | omega | assumption)))
  obtain ⟨I, hI⟩ : ∃ I : F → M → Prop, ∀ f m', I f m' = (∃ k : Nat, k ≤ l.length ∧ f 0 = .sl o (l.map pS) ∧ f 1 = pS s ∧ f 5 = pI k ∧ hasS l s = hasS (l.drop k) s ∧ m' = m) := ⟨_, fun _ _ => rfl⟩
  refine aLoop I (fun f m => l.length - numOf (f 5)) ?_ ?_
  · rw [hI]; exact ⟨0, by omega, rfl, rfl, rfl, rfl, rfl⟩
  intro f m' hrel
  rw [hI] at hrel
  obtain ⟨k, hk, h0, h1, h5, hs, rfl⟩ := hrel
  (repeat (first | refine aSeq fun X hX => ?_ | refine aBlk ?_ | refine aSkip ?_ | (first | refine aExit ?_ | refine aRet ?_); try simp only [slx, ↓reduceIte, Nat.reduceEqDiff, reduceCtorEq] | (first | refine aReg ?_ | refine aDrE ?_); simp -implicitDefEqProofs only [forall_eq, ↓slp, slb, ↓reduceIte, reduceCtorEq, jA, jB, jC, jD, jE, jF, jG, jH, jI, jJ, jK, tfNeR, h0, h5, pI]; try simp only [Ex.fold, Ex.foldcs, ← Va.pv.eq_1] | refine hX _ _ ?_; clear hX X | clear hX X; refine hX _ _ ?_; clear hX X | clear hX X; clear hX X; refine hX _ _ ?_; clear hX X | intro hlen; unfold maxLen at hlen | apply And.intro; focus (first | omega | assumption | (repeat' apply And.intro) <;> first | omega | assumption)))
  refine aIf ?_; simp -implicitDefEqProofs only [↓slp, slb, ↓reduceIte, reduceCtorEq, jA, jB, jC, jD, jE, jF, jG, jH, jI, jJ, jK]; refine ⟨fun hb => ?_, fun hb => ?_⟩
  · have hlt : k < l.length := by simpa using hb
    have g0 := getD_map pS l k hlt
    have hi : IntKind.i64.wrap ((k : Int) + 1) = ((k + 1 : Nat) : Int) := by rw [wrap64 (by omega)]; omega
    have hd := hasS_drop l s k hlt
    cases c1 : (l[k].toList == s.toList) with
    | true =>
      have c2 : eqS l[k] s = true := c1
      (repeat (first | refine aSeq fun X hX => ?_ | refine aBlk ?_ | refine aSkip ?_ | (first | refine aExit ?_ | refine aRet ?_); try simp only [slx, ↓reduceIte, Nat.reduceEqDiff, reduceCtorEq] | (first | refine aReg ?_ | refine aDrE ?_ | refine aIf ?_); simp -implicitDefEqProofs only [forall_eq, ↓slp, slb, ↓reduceIte, reduceCtorEq, jA, jB, jC, jD, jE, jF, jG, jH, jI, jJ, jK, tfNeR, h0, h1, h5, pI, pS, g0, c1]; try simp only [Ex.fold, Ex.foldcs, ← Va.pv.eq_1] | refine hX _ _ ?_; clear hX X | clear hX X; refine hX _ _ ?_; clear hX X | clear hX X; clear hX X; refine hX _ _ ?_; clear hX X | intro hlen; unfold maxLen at hlen | apply And.intro; focus (first | omega | assumption | (repeat' apply And.intro) <;> first | omega | assumption)))
      simp only [aPost, Tryd.results20, aRes_n, aRes_t, aRes_c, pack_one, pack_two]
      have hv : hasS l s = true := by rw [hs, hd, c2]; rfl
      exact leave_same rfl ⟨by rw [hv]; rfl, rfl⟩
    | false =>
      have c2 : eqS l[k] s = false := c1
      (repeat (first | refine aSeq fun X hX => ?_ | refine aBlk ?_ | refine aSkip ?_ | (first | refine aExit ?_ | refine aRet ?_); try simp only [slx, ↓reduceIte, Nat.reduceEqDiff, reduceCtorEq] | (first | refine aReg ?_ | refine aDrE ?_ | refine aIf ?_); simp -implicitDefEqProofs only [forall_eq, ↓slp, slb, ↓reduceIte, reduceCtorEq, jA, jB, jC, jD, jE, jF, jG, jH, jI, jJ, jK, tfNeR, h0, h1, h5, pI, pS, g0, c1, hi]; try simp only [Ex.fold, Ex.foldcs, ← Va.pv.eq_1] | refine hX _ _ ?_; clear hX X | clear hX X; refine hX _ _ ?_; clear hX X | clear hX X; clear hX X; refine hX _ _ ?_; clear hX X | intro hlen; unfold maxLen at hlen | apply And.intro; focus (first | omega | assumption | (repeat' apply And.intro) <;> first | omega | assumption)))
      rw [hI]
      exact ⟨⟨k + 1, hlt, h0, h1, rfl, by rw [hs, hd, c2]; rfl, rfl⟩, by omega⟩
  · have hlt : k = l.length := by simp at hb; omega
    subst hlt
    (repeat (first | refine aSeq fun X hX => ?_ | refine aBlk ?_ | refine aSkip ?_ | (first | refine aExit ?_ | refine aRet ?_); try simp only [slx, ↓reduceIte, Nat.reduceEqDiff, reduceCtorEq] | (first | refine aReg ?_ | refine aDrE ?_ | refine aIf ?_); simp -implicitDefEqProofs only [forall_eq, ↓slp, slb, ↓reduceIte, reduceCtorEq, jA, jB, jC, jD, jE, jF, jG, jH, jI, jJ, jK, tfNeR]; try simp only [Ex.fold, Ex.foldcs, ← Va.pv.eq_1] | refine hX _ _ ?_; clear hX X | clear hX X; refine hX _ _ ?_; clear hX X | clear hX X; clear hX X; refine hX _ _ ?_; clear hX X | intro hlen; unfold maxLen at hlen | apply And.intro; focus (first | omega | assumption | (repeat' apply And.intro) <;> first | omega | assumption)))
    simp only [aPost, Tryd.results20, aRes_n, aRes_t, aRes_c, pack_one, pack_two]
    have hv : hasS l s = false := by rw [hs, List.drop_length]; exact hasS_nil s
    exact leave_same rfl ⟨by rw [hv]; rfl, rfl⟩

theorem get_updS {m : M} {id : Nat} {c : List PV} (h : id < m.nb) : (m.upd id c).get id = some c := by rw [M.get_upd, if_pos ⟨rfl, h⟩]
theorem upd_updS (m : M) (id : Nat) (c c' : List PV) : (m.upd id c).upd id c' = m.upd id c' := by
  unfold M.upd; simp only [List.set_set]
theorem leave_upd {m : M} {id : Nat} {c c' : List PV} {v : PV} {R : PV → M → Prop} (hc : PV.pures c' = true) (hv : v.settle.pure = true) (hR : R v.settle (m.upd id c')) : ∃ v' m', Leave (m.upd id c) (m.upd id c') v v' m' ∧ R v' m' := by
  refine ⟨_, _, .upd v (m.upd id c') (by simp [M.upd, M.nb]) (by simp only [M.upd, M.nb, List.set_set, List.length_set]; rw [List.take_of_length_le (by simp)]) (by simp [M.upd, M.nt]) (by simp [M.upd, M.nt]) (fun k d hk => ?_) hv, hR⟩
  rw [M.get_upd] at hk
  split at hk
  · exact .inr (by cases hk; exact hc)
  · rename_i h
    exact .inl (by rw [M.get_upd, if_neg h]; exact hk)
/-- What the look holds: a program of enumerations, and the first fault. -/
def lkC (es : List En) (k l c : Int) : List PV := [.sl .no (es.map En.pv), .sl .no [], .v (.int .i64 k), .v (.int .i64 l), .v (.int .i64 c)]
def lkF (es : List En) : Option (Int × Int) → List PV
  | none => lkC es 0 0 0
  | some (l, c) => lkC es 4 l c
def orF (F : Option (Int × Int)) (p : Int × Int) : Option (Int × Int) := match F with | none => some p | some q => some q
set_option maxHeartbeats 1000000 in
theorem rfail_any (es : List En) (F : Option (Int × Int)) (l c : Int) (m : M) (a : Nat) (ha : a < m.nb) : ACalls Tryd.prog 32 [.bp a 0, pI 4, pP l c] (m.upd a (lkF es F)) (fun v m' => v = .tp [] ∧ m' = m.upd a (lkF es (orF F (l, c)))) := by
  have hp : ∀ k l c, PV.pures (lkC es k l c) = true := fun k l c => rfl
  have z0 : ((0 : Int) == 0) = true := rfl
  have z4 : ((4 : Int) == 0) = false := rfl
  cases F with
  | none =>
    refine ACalls.enter (mu := []) ok_mix Tryd.func32 rfl (by kernel_rfl) (by kernel_rfl) (by simp only [List.length_cons, List.length_nil, Tryd.ntmps32]; omega) ?_
    (repeat (first | refine aSeq fun X hX => ?_ | refine aBlk ?_ | refine aSkip ?_ | (first | refine aExit ?_ | refine aRet ?_); try simp only [slx, ↓reduceIte, Nat.reduceEqDiff, reduceCtorEq] | (first | refine aReg ?_ | refine aIf ?_); simp -implicitDefEqProofs only [forall_eq, ↓slp, slb, ↓reduceIte, reduceCtorEq, jA, jB, jC, jD, jE, jF, jG, jH, jI, jJ, jK, tfNeR, lkF, lkC, get_updS, upd_updS, ha, z0, z4, pI]; try simp only [Ex.fold, Ex.foldcs, ← Va.pv.eq_1] | refine hX _ _ ?_; clear hX X | clear hX X; refine hX _ _ ?_; clear hX X | clear hX X; clear hX X; refine hX _ _ ?_; clear hX X | intro hlen; unfold maxLen at hlen | apply And.intro; focus (first | omega | assumption | (repeat' apply And.intro) <;> first | omega | assumption)))
    (repeat (first | refine aSeq fun X hX => ?_ | refine aBlk ?_ | refine aSkip ?_ | (first | refine aExit ?_ | refine aRet ?_); try simp only [slx, ↓reduceIte, Nat.reduceEqDiff, reduceCtorEq] | (first | refine aReg ?_ | refine aDrE ?_ | refine aIf ?_); simp -implicitDefEqProofs only [forall_eq, ↓slp, slb, ↓reduceIte, reduceCtorEq, jA, jB, jC, jD, jE, jF, jG, jH, jI, jJ, jK, tfNeR, lkF, lkC, get_updS, upd_updS, ha, z0, z4, pI]; try simp only [Ex.fold, Ex.foldcs, ← Va.pv.eq_1] | refine hX _ _ ?_; clear hX X | clear hX X; refine hX _ _ ?_; clear hX X | clear hX X; clear hX X; refine hX _ _ ?_; clear hX X | intro hlen; unfold maxLen at hlen | apply And.intro; focus (first | omega | assumption | (repeat' apply And.intro) <;> first | omega | assumption)))
    simp only [aPost, Tryd.results32, aRes_n, aRes_t, aRes_c, pack_one, pack_two]
    exact leave_upd (hp _ _ _) rfl ⟨rfl, rfl⟩
  | some q =>
    obtain ⟨l0, c0⟩ := q
    refine ACalls.enter (mu := []) ok_mix Tryd.func32 rfl (by kernel_rfl) (by kernel_rfl) (by simp only [List.length_cons, List.length_nil, Tryd.ntmps32]; omega) ?_
    (repeat (first | refine aSeq fun X hX => ?_ | refine aBlk ?_ | refine aSkip ?_ | (first | refine aExit ?_ | refine aRet ?_); try simp only [slx, ↓reduceIte, Nat.reduceEqDiff, reduceCtorEq] | (first | refine aReg ?_ | refine aIf ?_); simp -implicitDefEqProofs only [forall_eq, ↓slp, slb, ↓reduceIte, reduceCtorEq, jA, jB, jC, jD, jE, jF, jG, jH, jI, jJ, jK, tfNeR, lkF, lkC, get_updS, upd_updS, ha, z0, z4, pI]; try simp only [Ex.fold, Ex.foldcs, ← Va.pv.eq_1] | refine hX _ _ ?_; clear hX X | clear hX X; refine hX _ _ ?_; clear hX X | clear hX X; clear hX X; refine hX _ _ ?_; clear hX X | intro hlen; unfold maxLen at hlen | apply And.intro; focus (first | omega | assumption | (repeat' apply And.intro) <;> first | omega | assumption)))
    simp only [aPost, Tryd.results32, aRes_n, aRes_t, aRes_c, pack_one, pack_two]
    exact leave_upd (hp _ _ _) rfl ⟨rfl, rfl⟩
/-- As rfail_any, in the states of the look. -/
theorem rfail_in (es : List En) (F : Option (Int × Int)) (l c : Int) (mm : M) (a : Nat) (b0 : Option (List PV)) (ha : mm.nb + 1 = a) : ACalls Tryd.prog 32 [.bp a 0, pI 4, pP l c] (mm.ext [b0, some (lkF es F)]) (fun v m' => v = .tp [] ∧ m' = mm.ext [b0, some (lkF es (orF F (l, c)))]) := by
  have e : ∀ X, (mm.ext [b0, some (lkF es F)]).upd a X = mm.ext [b0, some X] := fun X => by subst ha; rw [ext_upd (i := 1) rfl]; rfl
  have h := rfail_any es F l c (mm.ext [b0, some (lkF es F)]) a (by rw [ext_nb]; simp; omega)
  rw [e, e] at h
  exact h
theorem findEnum_lt {es : List En} {s : Str} {k i : Nat} (hk : k < es.length) (hki : k < i) (h : eqS es[k].name s = true) : decide (findEnum es s < (i : Int)) = true := by
  unfold findEnum
  rcases idxF_at (p := fun e : En => eqS e.name s) es 0 with ⟨_, h2⟩ | ⟨j, hj, h1, h2, h3⟩
  · have := h2 es[k] (List.getElem_mem hk)
    rw [h] at this; cases this
  · rw [h1]
    have : j ≤ k := by
      rcases Nat.lt_or_ge k j with hlt | hge
      · have := h3 k hlt
        rw [h] at this; cases this
      · exact hge
    exact decide_eq_true (by omega)
theorem findEnum_ge {es : List En} {s : Str} {i : Nat} (hi : i < es.length) (he : es[i].name = s) (h : ∀ j (hj : j < i) (hj2 : j < es.length), eqS es[j].name s = false) : decide (findEnum es s < (i : Int)) = false := by
  unfold findEnum
  rcases idxF_at (p := fun e : En => eqS e.name s) es 0 with ⟨_, h2⟩ | ⟨j, hj, h1, h2, h3⟩
  · have := h2 es[i] (List.getElem_mem hi)
    rw [he] at this
    simp [eqS] at this
  · rw [h1]
    rcases Nat.lt_or_ge j i with hlt | hge
    · have := h j hlt hj
      rw [this] at h2; cases h2
    · exact decide_eq_false (by omega)
/-- What is still to come at an enumeration; at its constructors. -/
def restC (es : List En) (i : Nat) (C cs : List Str) (e : En) : Option (Int × Int) := match ctorsE C cs with
  | none => some (e.line, e.col)
  | some T => faultE es (i + 1) T (es.drop (i + 1))
def restE (es : List En) (i : Nat) (C : List Str) (e : En) : Option (Int × Int) := if decide (findEnum es e.name < (i : Int)) then some (e.line, e.col) else restC es i C e.ctors e
def kE : Option (Int × Int) → Int
  | none => 0
  | some _ => 4
def wE : Option (Int × Int) → PV
  | none => pP 0 0
  | some (l, c) => pP l c
set_option maxHeartbeats 16000000 in
theorem rcheckE_any (es : List En) (hl : es.length ≤ 1000000) (hc : (es.flatMap En.ctors).length ≤ 1000000) (m : M) :
    ACalls Tryd.prog 11 [.ag [.sl .no (es.map En.pv), .sl .no []]] m (fun v m' => v = .tp [pI (kE (faultE es 0 [] es)), wE (faultE es 0 [] es)] ∧ m' = m) := by
  have hrh := fun (o : Own) (l : List Str) (s : Str) (m : M) => rHas_any o l s m
  have hrf := fun (Ft : Option (Int × Int)) (l c : Int) (mm : M) (h : mm.nb = m.nb) => rfail_in es Ft l c mm (m.nb + 1) (some [.v (.int .i64 0), .v (.int .i64 0)]) (by rw [h])
  obtain ⟨T, hT⟩ : ∃ T, faultE es 0 [] es = T := ⟨_, rfl⟩
  rw [hT]
  refine ACalls.enter (mu := [3, 14]) ok_mix Tryd.func11 rfl (by kernel_rfl) (by kernel_rfl) (by simp only [List.length_cons, List.length_nil, Tryd.ntmps11]; omega) ?_
  (repeat (first | refine aSeq fun X hX => ?_ | refine aBlk ?_ | refine aSkip ?_ | (first | refine aExit ?_ | refine aRet ?_); try simp only [slx, ↓reduceIte, Nat.reduceEqDiff, reduceCtorEq] | (first | refine aReg ?_ | refine aIf ?_); simp -implicitDefEqProofs only [forall_eq, ↓slp, slb, ↓reduceIte, reduceCtorEq, jA, jB, jC, jD, jE, jF, jG, jH, jI, jJ, jK, tfNeR]; try simp only [Ex.fold, Ex.foldcs, ← Va.pv.eq_1] | refine hX _ _ ?_; clear hX X | clear hX X; refine hX _ _ ?_; clear hX X | clear hX X; clear hX X; refine hX _ _ ?_; clear hX X | intro hlen; unfold maxLen at hlen | apply And.intro; focus (first | omega | assumption | (repeat' apply And.intro) <;> first | omega | assumption)))
  obtain ⟨I, hI⟩ : ∃ I : F → M → Prop, ∀ f m', I f m' = (∃ (i : Nat) (Ft : Option (Int × Int)) (C : List Str) (o : Own) (mm : M), i ≤ es.length ∧ ((Ft = none ∧ T = faultE es i C (es.drop i)) ∨ (∃ p, Ft = some p ∧ T = some p)) ∧ C.length + ((es.drop i).flatMap En.ctors).length ≤ 1000000 ∧ f 1 = .ep [.sl .no (es.map En.pv), .sl .no []] ∧ f 3 = .bp m.nb 0 ∧ f 4 = .bp (m.nb + 1) 0 ∧ f 5 = .sl o (C.map pS) ∧ f 6 = pI i ∧ Toks m mm ∧ Mine m mm o 1 ∧ mm.ext [some [.v (.int .i64 0), .v (.int .i64 0)], some (lkF es Ft)] = m') := ⟨_, fun _ _ => rfl⟩
  refine aLoop I (fun f m => es.length - numOf (f 6)) ?_ ?_
  · rw [hI]; exact ⟨0, none, [], .full, m, by omega, .inl ⟨rfl, hT.symm⟩, by simpa using hc, rfl, rfl, rfl, rfl, rfl, .refl _, .full, rfl⟩
  intro f m' hrel
  rw [hI] at hrel
  obtain ⟨i, Ft, C, o, mm, hi, hF, hCl, f1, f3, f4, f5, f6, htk, hmi, rfl⟩ := hrel
  have hnb := htk.nb
  cases c1 : decide ((i : Int) < (es.length : Int)) with
  | false =>
    have hii : i = es.length := by simp at c1; omega
    subst hii
    rw [List.drop_length] at hF
    have hFT : Ft = T := by
      rcases hF with ⟨h1, h2⟩ | ⟨p, h1, h2⟩
      · rw [h1, h2]; rfl
      · rw [h1, h2]
    subst hFT
    have z1 : decide ((0 : Int) < ((0 : Nat) : Int)) = false := rfl
    have z2 : decide ((0 : Int) < 0) = false := rfl
    have hg : (mm.ext [some [.v (.int .i64 0), .v (.int .i64 0)], some (lkF es Ft)]).get (m.nb + 1) = some (lkF es Ft) := by rw [← hnb]; exact ext_get (i := 1) rfl
    (repeat (first | refine aSeq fun X hX => ?_ | refine aBlk ?_ | refine aSkip ?_ | (first | refine aExit ?_ | refine aRet ?_); try simp only [slx, ↓reduceIte, Nat.reduceEqDiff, reduceCtorEq] | (first | refine aReg ?_ | refine aIf ?_); simp -implicitDefEqProofs only [forall_eq, ↓slp, slb, ↓reduceIte, reduceCtorEq, jA, jB, jC, jD, jE, jF, jG, jH, jI, jJ, jK, tfNeR, f1, f3, f4, f5, f6, c1, pI]; try simp only [Ex.fold, Ex.foldcs, ← Va.pv.eq_1] | refine hX _ _ ?_; clear hX X | clear hX X; refine hX _ _ ?_; clear hX X | clear hX X; clear hX X; refine hX _ _ ?_; clear hX X | intro hlen; unfold maxLen at hlen | apply And.intro; focus (first | omega | assumption | (repeat' apply And.intro) <;> first | omega | assumption)))
    obtain ⟨L1, hL1⟩ : ∃ L1 : F → M → Prop, ∀ f m', L1 f m' = (f 1 = .ep [.sl .no (es.map En.pv), .sl .no []] ∧ f 3 = .bp m.nb 0 ∧ f 4 = .bp (m.nb + 1) 0 ∧ f 9 = pI 0 ∧ mm.ext [some [.v (.int .i64 0), .v (.int .i64 0)], some (lkF es Ft)] = m') := ⟨_, fun _ _ => rfl⟩
    refine aLoop L1 (fun f m => 0) ?_ ?_
    · rw [hL1]; exact ⟨f1, f3, f4, rfl, rfl⟩
    clear f1 f3 f4
    intro f m' hrel
    rw [hL1] at hrel
    obtain ⟨f1, f3, f4, g1, rfl⟩ := hrel
    (repeat (first | refine aSeq fun X hX => ?_ | refine aBlk ?_ | refine aSkip ?_ | (first | refine aExit ?_ | refine aRet ?_); try simp only [slx, ↓reduceIte, Nat.reduceEqDiff, reduceCtorEq] | (first | refine aReg ?_ | refine aIf ?_); simp -implicitDefEqProofs only [forall_eq, ↓slp, slb, ↓reduceIte, reduceCtorEq, jA, jB, jC, jD, jE, jF, jG, jH, jI, jJ, jK, tfNeR, f1, f3, f4, g1, pI, z1, z2, hnb, hg]; try simp only [Ex.fold, Ex.foldcs, ← Va.pv.eq_1] | refine hX _ _ ?_; clear hX X | clear hX X; refine hX _ _ ?_; clear hX X | clear hX X; clear hX X; refine hX _ _ ?_; clear hX X | intro hlen; unfold maxLen at hlen | apply And.intro; focus (first | omega | assumption | (repeat' apply And.intro) <;> first | omega | assumption)))
    obtain ⟨L2, hL2⟩ : ∃ L2 : F → M → Prop, ∀ f m', L2 f m' = (f 1 = .ep [.sl .no (es.map En.pv), .sl .no []] ∧ f 3 = .bp m.nb 0 ∧ f 4 = .bp (m.nb + 1) 0 ∧ f 10 = pI 0 ∧ mm.ext [some [.v (.int .i64 0), .v (.int .i64 0)], some (lkF es Ft)] = m') := ⟨_, fun _ _ => rfl⟩
    refine aLoop L2 (fun f m => 0) ?_ ?_
    · rw [hL2]; exact ⟨f1, f3, f4, rfl, rfl⟩
    clear f1 f3 f4
    intro f m' hrel
    rw [hL2] at hrel
    obtain ⟨f1, f3, f4, g1, rfl⟩ := hrel
    (repeat (first | refine aSeq fun X hX => ?_ | refine aBlk ?_ | refine aSkip ?_ | (first | refine aExit ?_ | refine aRet ?_); try simp only [slx, ↓reduceIte, Nat.reduceEqDiff, reduceCtorEq] | (first | refine aReg ?_ | refine aIf ?_); simp -implicitDefEqProofs only [forall_eq, ↓slp, slb, ↓reduceIte, reduceCtorEq, jA, jB, jC, jD, jE, jF, jG, jH, jI, jJ, jK, tfNeR, f1, f3, f4, g1, pI, z1, z2, hnb, hg]; try simp only [Ex.fold, Ex.foldcs, ← Va.pv.eq_1] | refine hX _ _ ?_; clear hX X | clear hX X; refine hX _ _ ?_; clear hX X | clear hX X; clear hX X; refine hX _ _ ?_; clear hX X | intro hlen; unfold maxLen at hlen | apply And.intro; focus (first | omega | assumption | (repeat' apply And.intro) <;> first | omega | assumption)))
    obtain ⟨L3, hL3⟩ : ∃ L3 : F → M → Prop, ∀ f m', L3 f m' = (f 1 = .ep [.sl .no (es.map En.pv), .sl .no []] ∧ f 3 = .bp m.nb 0 ∧ f 4 = .bp (m.nb + 1) 0 ∧ f 11 = pI 0 ∧ mm.ext [some [.v (.int .i64 0), .v (.int .i64 0)], some (lkF es Ft)] = m') := ⟨_, fun _ _ => rfl⟩
    refine aLoop L3 (fun f m => 0) ?_ ?_
    · rw [hL3]; exact ⟨f1, f3, f4, rfl, rfl⟩
    clear f1 f3 f4
    intro f m' hrel
    rw [hL3] at hrel
    obtain ⟨f1, f3, f4, g1, rfl⟩ := hrel
    (repeat (first | refine aSeq fun X hX => ?_ | refine aBlk ?_ | refine aSkip ?_ | (first | refine aExit ?_ | refine aRet ?_); try simp only [slx, ↓reduceIte, Nat.reduceEqDiff, reduceCtorEq] | (first | refine aReg ?_ | refine aIf ?_); simp -implicitDefEqProofs only [forall_eq, ↓slp, slb, ↓reduceIte, reduceCtorEq, jA, jB, jC, jD, jE, jF, jG, jH, jI, jJ, jK, tfNeR, f1, f3, f4, g1, pI, z1, z2, hnb, hg]; try simp only [Ex.fold, Ex.foldcs, ← Va.pv.eq_1] | refine hX _ _ ?_; clear hX X | clear hX X; refine hX _ _ ?_; clear hX X | clear hX X; clear hX X; refine hX _ _ ?_; clear hX X | intro hlen; unfold maxLen at hlen | apply And.intro; focus (first | omega | assumption | (repeat' apply And.intro) <;> first | omega | assumption)))
    cases Ft with
    | none =>
      try simp only [lkF, lkC] at hg
      try simp only [lkF, lkC]
      (repeat (first | refine aSeq fun X hX => ?_ | refine aBlk ?_ | refine aSkip ?_ | (first | refine aExit ?_ | refine aRet ?_); try simp only [slx, ↓reduceIte, Nat.reduceEqDiff, reduceCtorEq] | (first | refine aReg ?_ | refine aDrE ?_ | refine aIf ?_); simp -implicitDefEqProofs only [forall_eq, ↓slp, slb, ↓reduceIte, reduceCtorEq, jA, jB, jC, jD, jE, jF, jG, jH, jI, jJ, jK, tfNeR, f1, f3, f4, hg, hnb, pI, List.set_cons_succ, List.set_cons_zero, List.getElem?_cons_succ, List.getElem?_cons_zero]; try simp only [Ex.fold, Ex.foldcs, ← Va.pv.eq_1] | refine hX _ _ ?_; clear hX X | clear hX X; refine hX _ _ ?_; clear hX X | clear hX X; clear hX X; refine hX _ _ ?_; clear hX X | intro hlen; unfold maxLen at hlen | apply And.intro; focus (first | omega | assumption | (repeat' apply And.intro) <;> first | omega | assumption)))
      simp only [aPost, Tryd.results11, aRes_n, aRes_t, aRes_c, pack_one, pack_two]
      simp -implicitDefEqProofs only [↓slp, slb, ↓reduceIte, reduceCtorEq, jA, jB, jC, jD, jE, jF, jG, jH, jI, jJ, jK, tfNeR, hnb, f3, List.set_cons_succ, List.set_cons_zero, List.getElem?_cons_succ, List.getElem?_cons_zero]; try simp only [Ex.fold, Ex.foldcs, ← Va.pv.eq_1]
      exact leave_toks htk rfl ⟨rfl, rfl⟩
    | some q =>
      obtain ⟨l0, c0⟩ := q
      simp only [lkF, lkC]
      have hA : ∀ ts, (⟨mm.boxes, ts⟩ : M).nb = m.nb := fun ts => hnb
      refine aDrwE (isB mm [some [.v (.int .i64 0), .v (.int .i64 0)], some (lkC es 4 l0 c0)]) (hne := List.cons_ne_nil _ _) rfl (by kernel_rfl) (by kernel_rfl) ⟨mm.toks, rfl⟩ ?_
      simp -implicitDefEqProofs only [↓slp, slb, ↓reduceIte, reduceCtorEq, jA, jB, jC, jD, jE, jF, jG, jH, jI, jJ, jK, tfNeR, f1, f3, f4, lkC, hnb, pI, hA, isB_all, forall_const, List.dropLast_cons_cons, List.dropLast_singleton, List.getLast_cons_cons, List.getLast_singleton, List.set_cons_succ, List.set_cons_zero, List.getElem?_cons_succ, List.getElem?_cons_zero]; try simp only [Ex.fold, Ex.foldcs, ← Va.pv.eq_1]
      (repeat (first | refine aSeq fun X hX => ?_ | refine aBlk ?_ | refine aSkip ?_ | (first | refine aExit ?_ | refine aRet ?_); try simp only [slx, ↓reduceIte, Nat.reduceEqDiff, reduceCtorEq] | (first | refine aReg ?_ | refine aIf ?_); simp -implicitDefEqProofs only [forall_eq, ↓slp, slb, ↓reduceIte, reduceCtorEq, jA, jB, jC, jD, jE, jF, jG, jH, jI, jJ, jK, tfNeR, hnb, List.set_cons_succ, List.set_cons_zero]; try simp only [Ex.fold, Ex.foldcs, ← Va.pv.eq_1] | refine hX _ _ ?_; clear hX X | clear hX X; refine hX _ _ ?_; clear hX X | clear hX X; clear hX X; refine hX _ _ ?_; clear hX X | intro hlen; unfold maxLen at hlen | apply And.intro; focus (first | omega | assumption | (repeat' apply And.intro) <;> first | omega | assumption)))
      simp only [aPost, Tryd.results11, aRes_n, aRes_t, aRes_c, pack_one, pack_two]
      simp -implicitDefEqProofs only [↓slp, slb, ↓reduceIte, reduceCtorEq, jA, jB, jC, jD, jE, jF, jG, jH, jI, jJ, jK, tfNeR, hnb, f3, List.set_cons_succ, List.set_cons_zero, List.getElem?_cons_succ, List.getElem?_cons_zero]; try simp only [Ex.fold, Ex.foldcs, ← Va.pv.eq_1]
      exact leave_toks htk rfl ⟨rfl, rfl⟩
  | true =>
    have hlt : i < es.length := by simpa using c1
    have g0 := getD_map En.pv es i hlt
    have hii : IntKind.i64.wrap ((i : Int) + 1) = ((i + 1 : Nat) : Int) := by rw [wrap64 (by omega)]; omega
    have hme : numOf (f 6) = i := by rw [f6]; exact Int.toNat_natCast i
    rw [List.drop_eq_getElem_cons hlt] at hF hCl
    rw [List.flatMap_cons, List.length_append] at hCl
    have hun : faultE es i C (es[i] :: es.drop (i + 1)) = restE es i C es[i] := rfl
    rw [hun] at hF
    clear hun
    obtain ⟨e, hee⟩ : ∃ e, es[i] = e := ⟨_, rfl⟩
    rw [hee] at hF hCl g0
    (repeat (first | refine aSeq fun X hX => ?_ | refine aBlk ?_ | refine aSkip ?_ | (first | refine aExit ?_ | refine aRet ?_); try simp only [slx, ↓reduceIte, Nat.reduceEqDiff, reduceCtorEq] | (first | refine aReg ?_ | refine aIf ?_); simp -implicitDefEqProofs only [forall_eq, ↓slp, slb, ↓reduceIte, reduceCtorEq, jA, jB, jC, jD, jE, jF, jG, jH, jI, jJ, jK, tfNeR, f1, f3, f4, f5, f6, c1, pI]; try simp only [Ex.fold, Ex.foldcs, ← Va.pv.eq_1] | refine hX _ _ ?_; clear hX X | clear hX X; refine hX _ _ ?_; clear hX X | clear hX X; clear hX X; refine hX _ _ ?_; clear hX X | intro hlen; unfold maxLen at hlen | apply And.intro; focus (first | omega | assumption | (repeat' apply And.intro) <;> first | omega | assumption)))
    obtain ⟨J, hJ⟩ : ∃ J : F → M → Prop, ∀ f m', J f m' = (∃ (k : Nat) (Ft : Option (Int × Int)), k ≤ i ∧ ((Ft = none ∧ T = restE es i C e ∧ ∀ j (hj : j < k) (hj2 : j < es.length), eqS es[j].name e.name = false) ∨ (∃ p, Ft = some p ∧ T = some p)) ∧ f 1 = .ep [.sl .no (es.map En.pv), .sl .no []] ∧ f 3 = .bp m.nb 0 ∧ f 4 = .bp (m.nb + 1) 0 ∧ f 5 = .sl o (C.map pS) ∧ f 6 = pI i ∧ f 7 = pI k ∧ mm.ext [some [.v (.int .i64 0), .v (.int .i64 0)], some (lkF es Ft)] = m') := ⟨_, fun _ _ => rfl⟩
    refine aLoop J (fun f m => i - numOf (f 7)) ?_ ?_
    · rw [hJ]
      refine ⟨0, Ft, by omega, ?_, f1, f3, f4, f5, f6, rfl, rfl⟩
      rcases hF with ⟨h1, h2⟩ | h
      · exact .inl ⟨h1, h2, fun j hj => by omega⟩
      · exact .inr h
    clear f1 f3 f4 f5 f6 hF
    intro f m' hrel
    rw [hJ] at hrel
    obtain ⟨k, Ft, hk, hF, f1, f3, f4, f5, f6, f7, rfl⟩ := hrel
    cases c2 : decide ((k : Int) < (i : Int)) with
    | true =>
      have hki : k < i := by simpa using c2
      have hkl : k < es.length := by omega
      have gk := getD_map En.pv es k hkl
      have hkk : IntKind.i64.wrap ((k : Int) + 1) = ((k + 1 : Nat) : Int) := by rw [wrap64 (by omega)]; omega
      have hmek : numOf (f 7) = k := by rw [f7]; exact Int.toNat_natCast k
      (repeat (first | refine aSeq fun X hX => ?_ | refine aBlk ?_ | refine aSkip ?_ | (first | refine aExit ?_ | refine aRet ?_); try simp only [slx, ↓reduceIte, Nat.reduceEqDiff, reduceCtorEq] | (first | refine aReg ?_ | refine aIf ?_); simp -implicitDefEqProofs only [forall_eq, ↓slp, slb, ↓reduceIte, reduceCtorEq, jA, jB, jC, jD, jE, jF, jG, jH, jI, jJ, jK, tfNeR, f1, f3, f4, f5, f6, f7, c2, pI, g0, gk]; try simp only [Ex.fold, Ex.foldcs, ← Va.pv.eq_1] | refine hX _ _ ?_; clear hX X | clear hX X; refine hX _ _ ?_; clear hX X | clear hX X; clear hX X; refine hX _ _ ?_; clear hX X | intro hlen; unfold maxLen at hlen | apply And.intro; focus (first | omega | assumption | (repeat' apply And.intro) <;> first | omega | assumption)))
      (repeat (first | refine aSeq fun X hX => ?_ | refine aBlk ?_ | refine aSkip ?_ | (first | refine aExit ?_ | refine aRet ?_); try simp only [slx, ↓reduceIte, Nat.reduceEqDiff, reduceCtorEq] | (first | refine aReg ?_ | refine aDrE ?_ | refine aIf ?_); simp -implicitDefEqProofs only [forall_eq, ↓slp, slb, ↓reduceIte, reduceCtorEq, jA, jB, jC, jD, jE, jF, jG, jH, jI, jJ, jK, tfNeR, f1, f3, f4, f5, f6, f7, c2, pI, g0, gk]; try simp only [Ex.fold, Ex.foldcs, ← Va.pv.eq_1] | refine hX _ _ ?_; clear hX X | clear hX X; refine hX _ _ ?_; clear hX X | clear hX X; clear hX X; refine hX _ _ ?_; clear hX X | intro hlen; unfold maxLen at hlen | apply And.intro; focus (first | omega | assumption | (repeat' apply And.intro) <;> first | omega | assumption)))
      cases c3 : (es[k].name.toList == e.name.toList) with
      | true =>
        have hq : eqS es[k].name e.name = true := c3
        simp -implicitDefEqProofs only [↓slp, slb, ↓reduceIte, reduceCtorEq, jA, jB, jC, jD, jE, jF, jG, jH, jI, jJ, jK, tfNeR, c3]; try simp only [Ex.fold, Ex.foldcs, ← Va.pv.eq_1]
        (repeat (first | refine aSeq fun X hX => ?_ | refine aBlk ?_ | refine aSkip ?_ | (first | refine aExit ?_ | refine aRet ?_); try simp only [slx, ↓reduceIte, Nat.reduceEqDiff, reduceCtorEq] | (first | refine aReg ?_ | refine aIf ?_); simp -implicitDefEqProofs only [forall_eq, ↓slp, slb, ↓reduceIte, reduceCtorEq, jA, jB, jC, jD, jE, jF, jG, jH, jI, jJ, jK, tfNeR, f1, f4, f6, c3, pI, g0]; try simp only [Ex.fold, Ex.foldcs, ← Va.pv.eq_1] | refine hX _ _ ?_; clear hX X | clear hX X; refine hX _ _ ?_; clear hX X | clear hX X; clear hX X; refine hX _ _ ?_; clear hX X | intro hlen; unfold maxLen at hlen | apply And.intro; focus (first | omega | assumption | (repeat' apply And.intro) <;> first | omega | assumption)))
        refine callE (hrf Ft _ _ mm hnb) ?_
        simp -implicitDefEqProofs only [↓slp, slb, ↓reduceIte, reduceCtorEq, jA, jB, jC, jD, jE, jF, jG, jH, jI, jJ, jK, tfNeR]; try simp only [Ex.fold, Ex.foldcs, ← Va.pv.eq_1]
        (repeat (first | refine aSeq fun X hX => ?_ | refine aBlk ?_ | refine aSkip ?_ | (first | refine aExit ?_ | refine aRet ?_); try simp only [slx, ↓reduceIte, Nat.reduceEqDiff, reduceCtorEq] | (first | refine aReg ?_ | refine aIf ?_); simp -implicitDefEqProofs only [forall_eq, ↓slp, slb, ↓reduceIte, reduceCtorEq, jA, jB, jC, jD, jE, jF, jG, jH, jI, jJ, jK, tfNeR, f7, pI, hkk]; try simp only [Ex.fold, Ex.foldcs, ← Va.pv.eq_1] | refine hX _ _ ?_; clear hX X | clear hX X; refine hX _ _ ?_; clear hX X | clear hX X; clear hX X; refine hX _ _ ?_; clear hX X | intro hlen; unfold maxLen at hlen | apply And.intro; focus (first | omega | assumption | (repeat' apply And.intro) <;> first | omega | assumption)))
        rw [hJ]
        refine ⟨⟨k + 1, orF Ft (e.line, e.col), hki, .inr ?_, f1, f3, f4, f5, f6, rfl, rfl⟩, by omega⟩
        rcases hF with ⟨h1, h2, _⟩ | ⟨p, h1, h2⟩
        · refine ⟨(e.line, e.col), by rw [h1]; rfl, ?_⟩
          rw [h2]
          unfold restE
          rw [if_pos (findEnum_lt hkl hki hq)]
        · exact ⟨p, by rw [h1]; rfl, h2⟩
      | false =>
        have hq : eqS es[k].name e.name = false := c3
        simp -implicitDefEqProofs only [↓slp, slb, ↓reduceIte, reduceCtorEq, jA, jB, jC, jD, jE, jF, jG, jH, jI, jJ, jK, tfNeR, c3]; try simp only [Ex.fold, Ex.foldcs, ← Va.pv.eq_1]
        (repeat (first | refine aSeq fun X hX => ?_ | refine aBlk ?_ | refine aSkip ?_ | (first | refine aExit ?_ | refine aRet ?_); try simp only [slx, ↓reduceIte, Nat.reduceEqDiff, reduceCtorEq] | (first | refine aReg ?_ | refine aIf ?_); simp -implicitDefEqProofs only [forall_eq, ↓slp, slb, ↓reduceIte, reduceCtorEq, jA, jB, jC, jD, jE, jF, jG, jH, jI, jJ, jK, tfNeR, f7, c3, pI, hkk]; try simp only [Ex.fold, Ex.foldcs, ← Va.pv.eq_1] | refine hX _ _ ?_; clear hX X | clear hX X; refine hX _ _ ?_; clear hX X | clear hX X; clear hX X; refine hX _ _ ?_; clear hX X | intro hlen; unfold maxLen at hlen | apply And.intro; focus (first | omega | assumption | (repeat' apply And.intro) <;> first | omega | assumption)))
        rw [hJ]
        refine ⟨⟨k + 1, Ft, hki, ?_, f1, f3, f4, f5, f6, rfl, rfl⟩, by omega⟩
        rcases hF with ⟨h1, h2, h3⟩ | h
        · refine .inl ⟨h1, h2, fun j hj hj2 => ?_⟩
          rcases Nat.lt_or_ge j k with h | h
          · exact h3 j h hj2
          · obtain rfl : j = k := by omega
            exact hq
        · exact .inr h
    | false =>
      have hki : k = i := by simp at c2; omega
      subst hki
      have hF2 : (Ft = none ∧ T = restC es k C e.ctors e) ∨ (∃ p, Ft = some p ∧ T = some p) := by
        rcases hF with ⟨h1, h2, h3⟩ | h
        · refine .inl ⟨h1, ?_⟩
          rw [h2]
          unfold restE
          rw [if_neg (by rw [findEnum_ge hlt (by rw [hee]) h3]; simp)]
        · exact .inr h
      (repeat (first | refine aSeq fun X hX => ?_ | refine aBlk ?_ | refine aSkip ?_ | (first | refine aExit ?_ | refine aRet ?_); try simp only [slx, ↓reduceIte, Nat.reduceEqDiff, reduceCtorEq] | (first | refine aReg ?_ | refine aIf ?_); simp -implicitDefEqProofs only [forall_eq, ↓slp, slb, ↓reduceIte, reduceCtorEq, jA, jB, jC, jD, jE, jF, jG, jH, jI, jJ, jK, tfNeR, f1, f3, f4, f5, f6, f7, c2, pI]; try simp only [Ex.fold, Ex.foldcs, ← Va.pv.eq_1] | refine hX _ _ ?_; clear hX X | clear hX X; refine hX _ _ ?_; clear hX X | clear hX X; clear hX X; refine hX _ _ ?_; clear hX X | intro hlen; unfold maxLen at hlen | apply And.intro; focus (first | omega | assumption | (repeat' apply And.intro) <;> first | omega | assumption)))
      obtain ⟨K, hK⟩ : ∃ K : F → M → Prop, ∀ f m', K f m' = (∃ (j : Nat) (Ft : Option (Int × Int)) (o : Own) (mm : M), j ≤ e.ctors.length ∧ ((Ft = none ∧ T = restC es k (C ++ e.ctors.take j) (e.ctors.drop j) e) ∨ (∃ p, Ft = some p ∧ T = some p)) ∧ f 1 = .ep [.sl .no (es.map En.pv), .sl .no []] ∧ f 3 = .bp m.nb 0 ∧ f 4 = .bp (m.nb + 1) 0 ∧ f 5 = .sl o ((C ++ e.ctors.take j).map pS) ∧ f 6 = pI k ∧ f 8 = pI j ∧ Toks m mm ∧ Mine m mm o 1 ∧ mm.ext [some [.v (.int .i64 0), .v (.int .i64 0)], some (lkF es Ft)] = m') := ⟨_, fun _ _ => rfl⟩
      refine aLoop K (fun f m => e.ctors.length - numOf (f 8)) ?_ ?_
      · rw [hK]
        exact ⟨0, Ft, o, mm, by omega, by rw [List.take_zero, List.append_nil, List.drop_zero]; exact hF2, f1, f3, f4, by rw [List.take_zero, List.append_nil]; exact f5, f6, rfl, htk, hmi, rfl⟩
      clear f1 f3 f4 f5 f6 f7 hF hF2 htk hmi hnb
      intro f m' hrel
      rw [hK] at hrel
      obtain ⟨j, Ft, o, mm, hj, hF, f1, f3, f4, f5, f6, f8, htk, hmi, rfl⟩ := hrel
      have hnb := htk.nb
      cases c3 : decide ((j : Int) < (e.ctors.length : Int)) with
      | false =>
        have hjj : j = e.ctors.length := by simp at c3; omega
        subst hjj
        rw [List.take_length] at f5
        rw [List.take_length, List.drop_length] at hF
        (repeat (first | refine aSeq fun X hX => ?_ | refine aBlk ?_ | refine aSkip ?_ | (first | refine aExit ?_ | refine aRet ?_); try simp only [slx, ↓reduceIte, Nat.reduceEqDiff, reduceCtorEq] | (first | refine aReg ?_ | refine aIf ?_); simp -implicitDefEqProofs only [forall_eq, ↓slp, slb, ↓reduceIte, reduceCtorEq, jA, jB, jC, jD, jE, jF, jG, jH, jI, jJ, jK, tfNeR, f1, f3, f4, f5, f6, f8, c3, pI, g0, hii]; try simp only [Ex.fold, Ex.foldcs, ← Va.pv.eq_1] | refine hX _ _ ?_; clear hX X | clear hX X; refine hX _ _ ?_; clear hX X | clear hX X; clear hX X; refine hX _ _ ?_; clear hX X | intro hlen; unfold maxLen at hlen | apply And.intro; focus (first | omega | assumption | (repeat' apply And.intro) <;> first | omega | assumption)))
        rw [hI]
        exact ⟨⟨k + 1, Ft, C ++ e.ctors, o, mm, hlt, hF, by rw [List.length_append]; omega, f1, f3, f4, f5, rfl, htk, hmi, rfl⟩, by omega⟩
      | true =>
        have hltj : j < e.ctors.length := by simpa using c3
        have gj := getD_map pS e.ctors j hltj
        have hjj : IntKind.i64.wrap ((j : Int) + 1) = ((j + 1 : Nat) : Int) := by rw [wrap64 (by omega)]; omega
        have hmej : numOf (f 8) = j := by rw [f8]; exact Int.toNat_natCast j
        have hst : C ++ e.ctors.take (j + 1) = (C ++ e.ctors.take j) ++ [e.ctors[j]] := by rw [List.take_succ_eq_append_getElem hltj, List.append_assoc]
        rw [List.drop_eq_getElem_cons hltj] at hF
        have hAl : (C ++ e.ctors.take j).length ≤ 1000000 := by rw [List.length_append, List.length_take]; omega
        generalize C ++ e.ctors.take j = A at *
        have hrx := hrh o A e.ctors[j]
        obtain ⟨cc, hcc⟩ : ∃ cc, e.ctors[j] = cc := ⟨_, rfl⟩
        rw [hcc] at hrx hF gj hst
        have hfr := hmi.free
        have hLa := strE_one A
        have h1c : ∀ y ∈ [pS cc], y.cells.length = 1 := strE_one [cc]
        have hmx2 : A.length + 1 ≤ maxLen := by unfold maxLen; omega
        (repeat (first | refine aSeq fun X hX => ?_ | refine aBlk ?_ | refine aSkip ?_ | (first | refine aExit ?_ | refine aRet ?_); try simp only [slx, ↓reduceIte, Nat.reduceEqDiff, reduceCtorEq] | (first | refine aReg ?_ | refine aIf ?_); simp -implicitDefEqProofs only [forall_eq, ↓slp, slb, ↓reduceIte, reduceCtorEq, jA, jB, jC, jD, jE, jF, jG, jH, jI, jJ, jK, tfNeR, f1, f3, f4, f5, f6, f8, c3, pI, g0, gj]; try simp only [Ex.fold, Ex.foldcs, ← Va.pv.eq_1] | refine hX _ _ ?_; clear hX X | clear hX X; refine hX _ _ ?_; clear hX X | clear hX X; clear hX X; refine hX _ _ ?_; clear hX X | intro hlen; unfold maxLen at hlen | apply And.intro; focus (first | omega | assumption | (repeat' apply And.intro) <;> first | omega | assumption)))
        (repeat (first | refine aSeq fun X hX => ?_ | refine aBlk ?_ | refine aSkip ?_ | (first | refine aExit ?_ | refine aRet ?_); try simp only [slx, ↓reduceIte, Nat.reduceEqDiff, reduceCtorEq] | (first | refine aReg ?_ | refine aDrE ?_ | refine aIf ?_); simp -implicitDefEqProofs only [forall_eq, ↓slp, slb, ↓reduceIte, reduceCtorEq, jA, jB, jC, jD, jE, jF, jG, jH, jI, jJ, jK, tfNeR, f1, f3, f4, f5, f6, f8, c3, pI, g0, gj]; try simp only [Ex.fold, Ex.foldcs, ← Va.pv.eq_1] | refine hX _ _ ?_; clear hX X | clear hX X; refine hX _ _ ?_; clear hX X | clear hX X; clear hX X; refine hX _ _ ?_; clear hX X | intro hlen; unfold maxLen at hlen | apply And.intro; focus (first | omega | assumption | (repeat' apply And.intro) <;> first | omega | assumption)))
        refine callE (hrx _) ?_
        cases hh : hasS A cc with
        | true =>
          simp -implicitDefEqProofs only [↓slp, slb, ↓reduceIte, reduceCtorEq, jA, jB, jC, jD, jE, jF, jG, jH, jI, jJ, jK, tfNeR, pB, hh]; try simp only [Ex.fold, Ex.foldcs, ← Va.pv.eq_1]
          (repeat (first | refine aSeq fun X hX => ?_ | refine aBlk ?_ | refine aSkip ?_ | (first | refine aExit ?_ | refine aRet ?_); try simp only [slx, ↓reduceIte, Nat.reduceEqDiff, reduceCtorEq] | (first | refine aReg ?_ | refine aIf ?_); simp -implicitDefEqProofs only [forall_eq, ↓slp, slb, ↓reduceIte, reduceCtorEq, jA, jB, jC, jD, jE, jF, jG, jH, jI, jJ, jK, tfNeR, f1, f4, f6, hh, pI, g0]; try simp only [Ex.fold, Ex.foldcs, ← Va.pv.eq_1] | refine hX _ _ ?_; clear hX X | clear hX X; refine hX _ _ ?_; clear hX X | clear hX X; clear hX X; refine hX _ _ ?_; clear hX X | intro hlen; unfold maxLen at hlen | apply And.intro; focus (first | omega | assumption | (repeat' apply And.intro) <;> first | omega | assumption)))
          refine callE (hrf Ft _ _ mm hnb) ?_
          simp -implicitDefEqProofs only [↓slp, slb, ↓reduceIte, reduceCtorEq, jA, jB, jC, jD, jE, jF, jG, jH, jI, jJ, jK, tfNeR]; try simp only [Ex.fold, Ex.foldcs, ← Va.pv.eq_1]
          (repeat (first | refine aSeq fun X hX => ?_ | refine aBlk ?_ | refine aSkip ?_ | (first | refine aExit ?_ | refine aRet ?_); try simp only [slx, ↓reduceIte, Nat.reduceEqDiff, reduceCtorEq] | (first | refine aReg ?_ | refine aIf ?_); simp -implicitDefEqProofs only [forall_eq, ↓slp, slb, ↓reduceIte, reduceCtorEq, jA, jB, jC, jD, jE, jF, jG, jH, jI, jJ, jK, tfNeR, f1, f5, f6, f8, pI, g0, gj, hjj]; try simp only [Ex.fold, Ex.foldcs, ← Va.pv.eq_1] | refine hX _ _ ?_; clear hX X | clear hX X; refine hX _ _ ?_; clear hX X | clear hX X; clear hX X; refine hX _ _ ?_; clear hX X | intro hlen; unfold maxLen at hlen | apply And.intro; focus (first | omega | assumption | (repeat' apply And.intro) <;> first | omega | assumption)))
          (repeat (first | refine aSeq fun X hX => ?_ | refine aBlk ?_ | refine aSkip ?_ | (first | refine aExit ?_ | refine aRet ?_); try simp only [slx, ↓reduceIte, Nat.reduceEqDiff, reduceCtorEq] | (first | refine aReg ?_ | refine aDrE ?_ | refine aIf ?_); simp -implicitDefEqProofs only [forall_eq, ↓slp, slb, ↓reduceIte, reduceCtorEq, jA, jB, jC, jD, jE, jF, jG, jH, jI, jJ, jK, tfNeR, f1, f5, f6, f8, pI, g0, gj, hjj]; try simp only [Ex.fold, Ex.foldcs, ← Va.pv.eq_1] | refine hX _ _ ?_; clear hX X | clear hX X; refine hX _ _ ?_; clear hX X | clear hX X; clear hX X; refine hX _ _ ?_; clear hX X | intro hlen; unfold maxLen at hlen | apply And.intro; focus (first | omega | assumption | (repeat' apply And.intro) <;> first | omega | assumption)))
          rw [hK]
          refine ⟨⟨j + 1, orF Ft (e.line, e.col), .tok mm.nt, (o.use mm).fresh 1, hltj, .inr ?_, f1, f3, f4, by rw [hst, List.map_append]; rfl, f6, rfl, htk.use hmi, Mine.new htk o 1, rfl⟩, by omega⟩
          rcases hF with ⟨h1, h2⟩ | ⟨p, h1, h2⟩
          · refine ⟨(e.line, e.col), by rw [h1]; rfl, ?_⟩
            rw [h2]
            unfold restC ctorsE
            rw [hh]; rfl
          · exact ⟨p, by rw [h1]; rfl, h2⟩
        | false =>
          simp -implicitDefEqProofs only [↓slp, slb, ↓reduceIte, reduceCtorEq, jA, jB, jC, jD, jE, jF, jG, jH, jI, jJ, jK, tfNeR, pB, hh]; try simp only [Ex.fold, Ex.foldcs, ← Va.pv.eq_1]
          (repeat (first | refine aSeq fun X hX => ?_ | refine aBlk ?_ | refine aSkip ?_ | (first | refine aExit ?_ | refine aRet ?_); try simp only [slx, ↓reduceIte, Nat.reduceEqDiff, reduceCtorEq] | (first | refine aReg ?_ | refine aIf ?_); simp -implicitDefEqProofs only [forall_eq, ↓slp, slb, ↓reduceIte, reduceCtorEq, jA, jB, jC, jD, jE, jF, jG, jH, jI, jJ, jK, tfNeR, f1, f5, f6, f8, hh, pI, g0, gj, hjj]; try simp only [Ex.fold, Ex.foldcs, ← Va.pv.eq_1] | refine hX _ _ ?_; clear hX X | clear hX X; refine hX _ _ ?_; clear hX X | clear hX X; clear hX X; refine hX _ _ ?_; clear hX X | intro hlen; unfold maxLen at hlen | apply And.intro; focus (first | omega | assumption | (repeat' apply And.intro) <;> first | omega | assumption)))
          (repeat (first | refine aSeq fun X hX => ?_ | refine aBlk ?_ | refine aSkip ?_ | (first | refine aExit ?_ | refine aRet ?_); try simp only [slx, ↓reduceIte, Nat.reduceEqDiff, reduceCtorEq] | (first | refine aReg ?_ | refine aDrE ?_ | refine aIf ?_); simp -implicitDefEqProofs only [forall_eq, ↓slp, slb, ↓reduceIte, reduceCtorEq, jA, jB, jC, jD, jE, jF, jG, jH, jI, jJ, jK, tfNeR, f1, f5, f6, f8, pI, g0, gj, hjj]; try simp only [Ex.fold, Ex.foldcs, ← Va.pv.eq_1] | refine hX _ _ ?_; clear hX X | clear hX X; refine hX _ _ ?_; clear hX X | clear hX X; clear hX X; refine hX _ _ ?_; clear hX X | intro hlen; unfold maxLen at hlen | apply And.intro; focus (first | omega | assumption | (repeat' apply And.intro) <;> first | omega | assumption)))
          rw [hK]
          refine ⟨⟨j + 1, Ft, .tok mm.nt, (o.use mm).fresh 1, hltj, ?_, f1, f3, f4, by rw [hst, List.map_append]; rfl, f6, rfl, htk.use hmi, Mine.new htk o 1, rfl⟩, by omega⟩
          rcases hF with ⟨h1, h2⟩ | h
          · refine .inl ⟨h1, ?_⟩
            rw [h2, hst]
            unfold restC
            rw [show ctorsE A (cc :: e.ctors.drop (j + 1)) = ctorsE (A ++ [cc]) (e.ctors.drop (j + 1)) from by
              rw [ctorsE]; rw [hh]; rfl]
          · exact .inr h
end Go.Proofs.YteiaedmipkcfeaaDoor
