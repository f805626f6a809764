/-
  The nodes of the law: made and placed.
-/
import Derived.Test.YteiaedmipkcfeaaDoorNdP
import Derived.Test.YteiaedmipkcfeaaDoorNmI
import Derived.Test.YteiaedmipkcfeaaDoorAbTail
set_option linter.unusedVariables false
set_option linter.unusedSimpArgs false
namespace Go.Proofs.YteiaedmipkcfeaaDoor
open Nat renaming reduceEqDiff → jA, reduceAdd → jB, reduceMul → jC, reduceLT → jD, reduceLeDiff → jE, reduceBEq → jF, reduceBNe → jG
open Int renaming reduceLE → jH, reduceLT → jI, reduceToNat → jJ, reduceEq → jK
open Go
-- EXX: Qu.settle_pv, Qu.pure_pv, Qu.cells_pv, Qu.cs, No.settle_pv, No.pure_pv, No.cells_pv, No.cs, No.pv.eq_1
set_option maxRecDepth 20000
-- TNAMES: int; uint8; int32; string; bool; []uint8; []string; []api.Expr; api.Expr; api.Pos; api.Type; api.On; []api.On; api.Var; []api.Var; api.Equation; []api.Equation; api.Block; api.Trans; []api.Trans; api.Arm; []api.Arm; api.Node; []api.Node; api.Enum; []api.Enum; api.Program
set_option linter.defProp false
def tfNdC := And.intro @tfA (And.intro @Ex.settle_pv (And.intro @Ex.pure_pv (And.intro @Ex.cells_pv (And.intro @Ex.cs.eq_1 (And.intro @On.pv.eq_1 (And.intro @Ty.pv.eq_1 (And.intro @Va.settle_pv (And.intro @Va.pure_pv (And.intro @Va.cells_pv (And.intro @Va.cs.eq_1 (And.intro @Qu.settle_pv (And.intro @Qu.pure_pv (And.intro @Qu.cells_pv (And.intro @Qu.cs.eq_1 (And.intro @No.settle_pv (And.intro @No.pure_pv (And.intro @No.cells_pv (And.intro @No.cs.eq_1 @No.pv.eq_1))))))))))))))))))

theorem raw_flat {k i : Nat} {n : No} (h : RawN k i n) : n.flat := by
  obtain ⟨_, h2, h3, h4, h6, h5⟩ := h
  refine ⟨by rw [h2]; exact ⟨by simp, by simp⟩, by rw [h3]; exact ⟨by simp, by simp⟩, by rw [h4]; exact ⟨by simp, by simp⟩, by omega, fun q hq => ?_⟩
  obtain ⟨j, _, rfl⟩ := h5 q hq
  exact ⟨⟨by simp, trivial⟩, ⟨by show (0 : Nat) ≤ 1000000; omega, trivial⟩, rfl⟩
theorem get_1 {mm : M} {z y : Option (List PV)} {r : List (Option (List PV))} (h : mm.nb = 0) : (mm.ext (z :: y :: r)).get 1 = y := by
  have e := ext_get (m := mm) (bs := z :: y :: r) (i := 1) h
  rw [Nat.zero_add] at e
  rw [e]; cases y <;> rfl
theorem upd_1 {mm : M} {z : Option (List PV)} {y c : List PV} {r : List (Option (List PV))} (h : mm.nb = 0) : (mm.ext (z :: some y :: r)).upd 1 c = mm.ext (z :: some c :: r) := by
  have e := ext_upd (m := mm) (bs := z :: some y :: r) (i := 1) (c := c) h
  rw [Nat.zero_add] at e
  exact e
theorem raw_snoc {k : Nat} {ns : List No} {n : No} (h : ∀ i (hi : i < ns.length), RawN k i ns[i]) (hn : RawN k ns.length n) : ∀ i (hi : i < (ns ++ [n]).length), RawN k i (ns ++ [n])[i] := fun i hi => by
  by_cases h2 : i < ns.length
  · rw [List.getElem_append_left h2]; exact h i h2
  · have h3 : i = ns.length := by simp at hi; omega
    subst h3
    rw [List.getElem_append_right (Nat.le_refl _)]
    simpa using hn
/-- The cells of a node that is being made. -/
def cND (nm : Str) (oe : Own) (Q : List Qu) : List PV := [.v (.string nm), .sl .full [], .sl .full [], .sl .full [], .sl oe (Q.map Qu.pv), .v (.int .i64 0), .v (.int .i64 0)]
set_option maxHeartbeats 16000000 in
theorem callsP_any (n : Int) (hn : 0 ≤ n ∧ n ≤ 255) (l : List Int) (hel : ∀ x ∈ l, 0 ≤ x ∧ x ≤ 255) :
    ACalls Tryd.prog 14 [qU n, .sl .no (l.map qU)] M0 (fun v m' => (∃ (k : Nat) (ns : List No), 0 < k ∧ k ≤ 8 ∧ ns.length = k ∧ (∀ i (hi : i < ns.length), RawN k i ns[i]) ∧ v = .ag [.sl .no [], .sl .no ((plNs ns 0).1.map No.pv)]) ∧ m' = M0) := by
  refine ACalls.enter (mu := [4, 5, 8]) ok_mix Tryd.func14 rfl (by kernel_rfl) (by kernel_rfl) (by simp only [List.length_cons, List.length_nil, Tryd.ntmps14]; omega) ?_
  (repeat (first | refine aSeq fun X hX => ?_ | refine aBlk ?_ | refine aSkip ?_ | (first | refine aExit ?_ | refine aRet ?_); try simp only [slx, ↓reduceIte, Nat.reduceEqDiff, reduceCtorEq] | (first | refine aReg ?_ | refine aIf ?_); simp -implicitDefEqProofs only [forall_eq, ↓slp, slb, ↓reduceIte, reduceCtorEq, jA, jB, jC, jD, jE, jF, jG, jH, jI, jJ, jK, tfNdC]; try simp only [Ex.fold, Ex.foldcs, ← Va.pv.eq_1] | refine hX _ _ ?_; clear hX X | clear hX X; refine hX _ _ ?_; clear hX X | clear hX X; clear hX X; refine hX _ _ ?_; clear hX X | intro hlen; unfold maxLen at hlen | apply And.intro; focus (first | omega | assumption | (repeat' apply And.intro) <;> first | omega | assumption)))
  obtain ⟨k, hk, hk0, hk8⟩ : ∃ k : Nat, IntKind.i64.wrap (1 + (IntKind.i64.wrap n).tmod 8) = (k : Int) ∧ 0 < k ∧ k ≤ 8 := by
    have h1 : IntKind.i64.wrap n = n := wrap64 (by omega)
    have h2 : n.tmod 8 = n % 8 := Int.tmod_eq_emod_of_nonneg hn.1
    refine ⟨(1 + n % 8).toNat, ?_, by omega, by omega⟩
    rw [h1, h2, wrap64 (by omega)]
    omega
  rw [hk]
  obtain ⟨I, hI⟩ : ∃ I : F → M → Prop, ∀ f m', I f m' = (∃ (i : Nat) (ns : List No) (o : Own) (mm : M) (r : List (Option (List PV))), i ≤ k ∧ ns.length = i ∧ (∀ i (hi : i < ns.length), RawN k i ns[i]) ∧ f 1 = .sl .no (l.map qU) ∧ f 4 = .bp 0 0 ∧ f 5 = .bp 1 0 ∧ f 6 = pI k ∧ f 7 = pI i ∧ Toks M0 mm ∧ Mine M0 mm o 7 ∧ mm.ext (some [.sl .full [], .sl .full []] :: some [.sl .full [], .sl o (ns.map No.pv)] :: r) = m') := ⟨_, fun _ _ => rfl⟩
  refine aLoop I (fun f m => k - numOf (f 7)) ?_ ?_
  · rw [hI]; exact ⟨0, [], .full, M0, [], by omega, rfl, (fun i hi => by simp at hi), rfl, rfl, rfl, rfl, rfl, .refl _, .full, rfl⟩
  intro f m' hrel
  rw [hI] at hrel
  obtain ⟨i, ns, o, mm, r, hi, hnl, hraw, f1, f4, f5, f6, f7, htk, hmi, rfl⟩ := hrel
  have hnb : mm.nb = 0 := htk.nb
  cases c1 : decide ((i : Int) < (k : Int)) with
  | false =>
    have hii : i = k := by simp at c1; omega
    subst hii
    (repeat (first | refine aSeq fun X hX => ?_ | refine aBlk ?_ | refine aSkip ?_ | (first | refine aExit ?_ | refine aRet ?_); try simp only [slx, ↓reduceIte, Nat.reduceEqDiff, reduceCtorEq] | (first | refine aReg ?_ | refine aIf ?_); simp -implicitDefEqProofs only [forall_eq, ↓slp, slb, ↓reduceIte, reduceCtorEq, jA, jB, jC, jD, jE, jF, jG, jH, jI, jJ, jK, tfNdC, f1, f4, f5, f6, f7, pI, c1, hnb, get_1, upd_1]; try simp only [Ex.fold, Ex.foldcs, ← Va.pv.eq_1] | refine hX _ _ ?_; clear hX X | clear hX X; refine hX _ _ ?_; clear hX X | clear hX X; clear hX X; refine hX _ _ ?_; clear hX X | intro hlen; unfold maxLen at hlen | apply And.intro; focus (first | omega | assumption | (repeat' apply And.intro) <;> first | omega | assumption)))
    have hp := placed_any ns (by omega) (fun n hn => by
      obtain ⟨i, hi, rfl⟩ := List.getElem_of_mem hn
      exact raw_flat (hraw i hi))
    refine callMS (hp _) (by simp only [List.map_cons, List.map_nil, PV.settle, PV.settles]) ?_
    rintro v mv ⟨rfl, hmv⟩
    subst hmv
    simp -implicitDefEqProofs only [↓slp, slb, ↓reduceIte, reduceCtorEq, jA, jB, jC, jD, jE, jF, jG, jH, jI, jJ, jK, tfNdC, f4, hnb, List.set_cons_zero]; try simp only [Ex.fold, Ex.foldcs, ← Va.pv.eq_1]
    (repeat (first | refine aSeq fun X hX => ?_ | refine aBlk ?_ | refine aSkip ?_ | (first | refine aExit ?_ | refine aRet ?_); try simp only [slx, ↓reduceIte, Nat.reduceEqDiff, reduceCtorEq] | (first | refine aReg ?_ | refine aIf ?_); simp -implicitDefEqProofs only [forall_eq, ↓slp, slb, ↓reduceIte, reduceCtorEq, jA, jB, jC, jD, jE, jF, jG, jH, jI, jJ, jK, tfNdC, f4, hnb, List.set_cons_zero]; try simp only [Ex.fold, Ex.foldcs, ← Va.pv.eq_1] | refine hX _ _ ?_; clear hX X | clear hX X; refine hX _ _ ?_; clear hX X | clear hX X; clear hX X; refine hX _ _ ?_; clear hX X | intro hlen; unfold maxLen at hlen | apply And.intro; focus (first | omega | assumption | (repeat' apply And.intro) <;> first | omega | assumption)))
    simp only [aPost, Tryd.results14, aRes_n, aRes_t, aRes_c, pack_one, pack_two]
    simp -implicitDefEqProofs only [↓slp, slb, ↓reduceIte, reduceCtorEq, jA, jB, jC, jD, jE, jF, jG, jH, jI, jJ, jK, tfNdC, f4, hnb, List.set_cons_zero]; try simp only [Ex.fold, Ex.foldcs, ← Va.pv.eq_1]
    exact leave_toks htk rfl ⟨⟨i, ns, hk0, hk8, hnl, hraw, rfl⟩, rfl⟩
  | true =>
    have hlt : i < k := by simpa using c1
    have hii : IntKind.i64.wrap ((i : Int) + 1) = ((i + 1 : Nat) : Int) := by rw [wrap64 (by omega)]; omega
    have hme : numOf (f 7) = i := by rw [f7]; exact Int.toNat_natCast i
    have h48 : IntKind.i64.wrap (48 + (i : Int)) = ((48 + i : Nat) : Int) := by rw [wrap64 (by omega)]; omega
    have hu8 : IntKind.u8.wrap ((48 + i : Nat) : Int) = ((48 + i : Nat) : Int) := IntWalk.u8_in _ (by omega)
    have hsz : (strOf [((48 + i : Nat) : Int)]).size = 1 := rfl
    (repeat (first | refine aSeq fun X hX => ?_ | refine aBlk ?_ | refine aSkip ?_ | (first | refine aExit ?_ | refine aRet ?_); try simp only [slx, ↓reduceIte, Nat.reduceEqDiff, reduceCtorEq] | (first | refine aReg ?_ | refine aIf ?_); simp -implicitDefEqProofs only [forall_eq, ↓slp, slb, ↓reduceIte, reduceCtorEq, jA, jB, jC, jD, jE, jF, jG, jH, jI, jJ, jK, tfNdC, f1, f4, f5, f6, f7, pI, c1, h48, hu8, hsz, hnb, List.getElem?_concat_length, set_concat_length, List.set_cons_succ, List.cons_append, List.getElem?_cons_succ]; try simp only [Ex.fold, Ex.foldcs, ← Va.pv.eq_1] | refine hX _ _ ?_; clear hX X | clear hX X; refine hX _ _ ?_; clear hX X | clear hX X; clear hX X; refine hX _ _ ?_; clear hX X | intro hlen; unfold maxLen at hlen | apply And.intro; focus (first | omega | assumption | (repeat' apply And.intro) <;> first | omega | assumption)))
    refine ⟨by decide, hX _ _ ?_⟩
    clear hX X
    have hnm : (⟨#[102]⟩ : Str) ++ strOf [((48 + i : Nat) : Int)] = nmD i := rfl
    rw [hnm]
    (repeat (first | refine aSeq fun X hX => ?_ | refine aBlk ?_ | refine aSkip ?_ | (first | refine aExit ?_ | refine aRet ?_); try simp only [slx, ↓reduceIte, Nat.reduceEqDiff, reduceCtorEq] | (first | refine aReg ?_ | refine aIf ?_); simp -implicitDefEqProofs only [forall_eq, ↓slp, slb, ↓reduceIte, reduceCtorEq, jA, jB, jC, jD, jE, jF, jG, jH, jI, jJ, jK, tfNdC]; try simp only [Ex.fold, Ex.foldcs, ← Va.pv.eq_1] | refine hX _ _ ?_; clear hX X | clear hX X; refine hX _ _ ?_; clear hX X | clear hX X; clear hX X; refine hX _ _ ?_; clear hX X | intro hlen; unfold maxLen at hlen | apply And.intro; focus (first | omega | assumption | (repeat' apply And.intro) <;> first | omega | assumption)))
    obtain ⟨J, hJ⟩ : ∃ J : F → M → Prop, ∀ f m', J f m' = (∃ (j : Nat) (Q : List Qu) (oe : Own) (mm : M), j ≤ l.length ∧ j ≤ 30 ∧ Q.length ≤ j ∧ (∀ q ∈ Q, ∃ j, j < k ∧ q = rawQ j) ∧ f 1 = .sl .no (l.map qU) ∧ f 4 = .bp 0 0 ∧ f 5 = .bp 1 0 ∧ f 6 = pI k ∧ f 7 = pI i ∧ f 8 = .bp (0 + (r.length + 1 + 1)) 0 ∧ f 9 = pI j ∧ Toks M0 mm ∧ Mine M0 mm o 7 ∧ Mine M0 mm oe 16 ∧ (∀ t, oe = .tok t → o ≠ .tok t) ∧ mm.ext (some [.sl .full [], .sl .full []] :: some [.sl .full [], .sl o (ns.map No.pv)] :: (r ++ [some (cND (nmD i) oe Q)])) = m') := ⟨_, fun _ _ => rfl⟩
    refine aLoop J (fun f m => l.length - numOf (f 9)) ?_ ?_
    · rw [hJ]
      exact ⟨0, [], .full, mm, by omega, by omega, by simp, (fun q hq => by simp at hq), f1, f4, f5, f6, f7, rfl, rfl, htk, hmi, .full, (fun t h => by cases h), rfl⟩
    clear f1 f4 f5 f6 f7 htk hmi hnb
    intro f m' hrel
    rw [hJ] at hrel
    obtain ⟨j, Q, oe, mm, hj1, hj2, hQl, hQ, f1, f4, f5, f6, f7, f8, f9, htk, hmi, hme2, hne, rfl⟩ := hrel
    have hnb : mm.nb = 0 := htk.nb
    have hend : ∀ (f : F), f 1 = .sl .no (l.map qU) → f 4 = .bp 0 0 ∧ f 5 = .bp 1 0 ∧ f 6 = pI k ∧ f 7 = pI i ∧ f 8 = .bp (0 + (r.length + 1 + 1)) 0 → X f (mm.ext (some [.sl .full [], .sl .full []] :: some [.sl .full [], .sl o (ns.map No.pv)] :: (r ++ [some (cND (nmD i) oe Q)]))) := by
      clear f1 f4 f5 f6 f7 f8 f9
      rintro f f1 ⟨f4, f5, f6, f7, f8⟩
      refine hX _ _ ?_
      clear hX X
      have hfo := hmi.free
      have q3 := no_len7 ns
      have q1 : ns.length + 1 ≤ maxLen := by unfold maxLen; omega
      (repeat (first | refine aSeq fun X hX => ?_ | refine aBlk ?_ | refine aSkip ?_ | (first | refine aExit ?_ | refine aRet ?_); try simp only [slx, ↓reduceIte, Nat.reduceEqDiff, reduceCtorEq] | (first | refine aReg ?_ | refine aIf ?_); simp -implicitDefEqProofs only [forall_eq, ↓slp, slb, ↓reduceIte, reduceCtorEq, jA, jB, jC, jD, jE, jF, jG, jH, jI, jJ, jK, tfNdC, f1, f4, f5, f6, f7, f8, pI, cND, hii, hnb, get_1, upd_1, List.getElem?_concat_length, set_concat_length, List.set_cons_succ, List.cons_append, List.getElem?_cons_succ]; try simp only [Ex.fold, Ex.foldcs, ← Va.pv.eq_1] | refine hX _ _ ?_; clear hX X | clear hX X; refine hX _ _ ?_; clear hX X | clear hX X; clear hX X; refine hX _ _ ?_; clear hX X | intro hlen; unfold maxLen at hlen | apply And.intro; focus (first | omega | assumption | (repeat' apply And.intro) <;> first | omega | assumption)))
      rw [hI]
      exact ⟨⟨i + 1, ns ++ [⟨nmD i, [], [], ⟨[], Q⟩, 0, 0⟩], .tok mm.nt, (o.use mm).fresh 7, r ++ [_], hlt, by simp [hnl], raw_snoc hraw ⟨by rw [hnl], rfl, rfl, rfl, by show Q.length ≤ 30; omega, hQ⟩, f1, f4, f5, f6, rfl, htk.use hmi, Mine.new htk o 7, by rw [List.map_append]; rfl⟩, by omega⟩
    cases c2 : decide ((j : Int) < (l.length : Int)) with
    | false =>
      (repeat (first | refine aSeq fun X hX => ?_ | refine aBlk ?_ | refine aSkip ?_ | (first | refine aExit ?_ | refine aRet ?_); try simp only [slx, ↓reduceIte, Nat.reduceEqDiff, reduceCtorEq] | (first | refine aReg ?_ | refine aIf ?_); simp -implicitDefEqProofs only [forall_eq, ↓slp, slb, ↓reduceIte, reduceCtorEq, jA, jB, jC, jD, jE, jF, jG, jH, jI, jJ, jK, tfNdC, f1, f4, f5, f6, f7, f8, f9, pI, c2]; try simp only [Ex.fold, Ex.foldcs, ← Va.pv.eq_1] | refine hX _ _ ?_; clear hX X | clear hX X; refine hX _ _ ?_; clear hX X | clear hX X; clear hX X; refine hX _ _ ?_; clear hX X | intro hlen; unfold maxLen at hlen | apply And.intro; focus (first | omega | assumption | (repeat' apply And.intro) <;> first | omega | assumption)))
      exact hend _ f1 ⟨f4, f5, f6, f7, f8⟩
    | true =>
    cases c3 : decide ((j : Int) < 30) with
    | false =>
      (repeat (first | refine aSeq fun X hX => ?_ | refine aBlk ?_ | refine aSkip ?_ | (first | refine aExit ?_ | refine aRet ?_); try simp only [slx, ↓reduceIte, Nat.reduceEqDiff, reduceCtorEq] | (first | refine aReg ?_ | refine aIf ?_); simp -implicitDefEqProofs only [forall_eq, ↓slp, slb, ↓reduceIte, reduceCtorEq, jA, jB, jC, jD, jE, jF, jG, jH, jI, jJ, jK, tfNdC, f1, f4, f5, f6, f7, f8, f9, pI, c2, c3]; try simp only [Ex.fold, Ex.foldcs, ← Va.pv.eq_1] | refine hX _ _ ?_; clear hX X | clear hX X; refine hX _ _ ?_; clear hX X | clear hX X; clear hX X; refine hX _ _ ?_; clear hX X | intro hlen; unfold maxLen at hlen | apply And.intro; focus (first | omega | assumption | (repeat' apply And.intro) <;> first | omega | assumption)))
      exact hend _ f1 ⟨f4, f5, f6, f7, f8⟩
    | true =>
      have hltj : j < l.length := by simpa using c2
      have hlt30 : j < 30 := by simp at c3; omega
      have gl := getD_map qU l j hltj
      have hji : IntKind.i64.wrap ((j : Int) + 1) = ((j + 1 : Nat) : Int) := by rw [wrap64 (by omega)]; omega
      have hmej : numOf (f 9) = j := by rw [f9]; exact Int.toNat_natCast j
      have hx := hel l[j] (List.getElem_mem hltj)
      obtain ⟨x, hxl⟩ : ∃ x, l[j] = x := ⟨_, rfl⟩
      rw [hxl] at gl hx
      have hkz : ¬ (k : Int) = 0 := by omega
      (repeat (first | refine aSeq fun X hX => ?_ | refine aBlk ?_ | refine aSkip ?_ | (first | refine aExit ?_ | refine aRet ?_); try simp only [slx, ↓reduceIte, Nat.reduceEqDiff, reduceCtorEq] | (first | refine aReg ?_ | refine aIf ?_); simp -implicitDefEqProofs only [forall_eq, ↓slp, slb, ↓reduceIte, reduceCtorEq, jA, jB, jC, jD, jE, jF, jG, jH, jI, jJ, jK, tfNdC, f1, f4, f5, f6, f7, f8, f9, pI, c2, c3, gl, hltj, hkz]; try simp only [Ex.fold, Ex.foldcs, ← Va.pv.eq_1] | refine hX _ _ ?_; clear hX X | clear hX X; refine hX _ _ ?_; clear hX X | clear hX X; clear hX X; refine hX _ _ ?_; clear hX X | intro hlen; unfold maxLen at hlen | apply And.intro; focus (first | omega | assumption | (repeat' apply And.intro) <;> first | omega | assumption)))
      have join : ∀ (f : F) (Q2 : List Qu) (oe2 : Own) (mm2 : M), f 1 = .sl .no (l.map qU) → f 4 = .bp 0 0 ∧ f 5 = .bp 1 0 ∧ f 6 = pI k ∧ f 7 = pI i ∧ f 8 = .bp (0 + (r.length + 1 + 1)) 0 ∧ f 9 = pI j → Q2.length ≤ j + 1 → (∀ q ∈ Q2, ∃ j, j < k ∧ q = rawQ j) → Toks M0 mm2 → Mine M0 mm2 o 7 → Mine M0 mm2 oe2 16 → (∀ t, oe2 = .tok t → o ≠ .tok t) → X f (mm2.ext (some [.sl .full [], .sl .full []] :: some [.sl .full [], .sl o (ns.map No.pv)] :: (r ++ [some (cND (nmD i) oe2 Q2)]))) := by
        clear f1 f4 f5 f6 f7 f8 f9 htk hmi hme2 hne
        rintro f Q2 oe2 mm2 f1 ⟨f4, f5, f6, f7, f8, f9⟩ hQ2l hQ2 htk hmi hme2 hne
        refine hX _ _ ?_
        clear hX X
        (repeat (first | refine aSeq fun X hX => ?_ | refine aBlk ?_ | refine aSkip ?_ | (first | refine aExit ?_ | refine aRet ?_); try simp only [slx, ↓reduceIte, Nat.reduceEqDiff, reduceCtorEq] | (first | refine aReg ?_ | refine aIf ?_); simp -implicitDefEqProofs only [forall_eq, ↓slp, slb, ↓reduceIte, reduceCtorEq, jA, jB, jC, jD, jE, jF, jG, jH, jI, jJ, jK, tfNdC, f9, pI, hji]; try simp only [Ex.fold, Ex.foldcs, ← Va.pv.eq_1] | refine hX _ _ ?_; clear hX X | clear hX X; refine hX _ _ ?_; clear hX X | clear hX X; clear hX X; refine hX _ _ ?_; clear hX X | intro hlen; unfold maxLen at hlen | apply And.intro; focus (first | omega | assumption | (repeat' apply And.intro) <;> first | omega | assumption)))
        rw [hJ]
        exact ⟨⟨j + 1, Q2, oe2, mm2, hltj, by omega, hQ2l, hQ2, f1, f4, f5, f6, f7, f8, rfl, htk, hmi, hme2, hne, rfl⟩, by omega⟩
      cases c4 : ((IntKind.i64.wrap (IntKind.u8.wrap (x.tdiv 16))).tmod (k : Int) == (i : Int)) with
      | false =>
        simp -implicitDefEqProofs only [↓slp, slb, ↓reduceIte, reduceCtorEq, jA, jB, jC, jD, jE, jF, jG, jH, jI, jJ, jK, tfNdC, c4]; try simp only [Ex.fold, Ex.foldcs, ← Va.pv.eq_1]
        (repeat (first | refine aSeq fun X hX => ?_ | refine aBlk ?_ | refine aSkip ?_ | (first | refine aExit ?_ | refine aRet ?_); try simp only [slx, ↓reduceIte, Nat.reduceEqDiff, reduceCtorEq] | (first | refine aReg ?_ | refine aIf ?_); simp -implicitDefEqProofs only [forall_eq, ↓slp, slb, ↓reduceIte, reduceCtorEq, jA, jB, jC, jD, jE, jF, jG, jH, jI, jJ, jK, tfNdC, c4]; try simp only [Ex.fold, Ex.foldcs, ← Va.pv.eq_1] | refine hX _ _ ?_; clear hX X | clear hX X; refine hX _ _ ?_; clear hX X | clear hX X; clear hX X; refine hX _ _ ?_; clear hX X | intro hlen; unfold maxLen at hlen | apply And.intro; focus (first | omega | assumption | (repeat' apply And.intro) <;> first | omega | assumption)))
        exact join _ Q oe mm f1 ⟨f4, f5, f6, f7, f8, f9⟩ (by omega) hQ htk hmi hme2 hne
      | true =>
        simp -implicitDefEqProofs only [↓slp, slb, ↓reduceIte, reduceCtorEq, jA, jB, jC, jD, jE, jF, jG, jH, jI, jJ, jK, tfNdC, c4]; try simp only [Ex.fold, Ex.foldcs, ← Va.pv.eq_1]
        obtain ⟨t, ht, htk2⟩ : ∃ t : Nat, (IntKind.i64.wrap (x.tmod 16)).tmod (k : Int) = (t : Int) ∧ t < k := by
          have h1 : x.tmod 16 = x % 16 := Int.tmod_eq_emod_of_nonneg hx.1
          have h2 : IntKind.i64.wrap (x % 16) = x % 16 := wrap64 (by omega)
          have h3 : (x % 16).tmod (k : Int) = (x % 16) % (k : Int) := Int.tmod_eq_emod_of_nonneg (by omega)
          have h4 : (x % 16) % (k : Int) < k := Int.emod_lt_of_pos _ (by omega)
          have h5 : 0 ≤ (x % 16) % (k : Int) := Int.emod_nonneg _ (by omega)
          rw [h1, h2, h3]
          exact ⟨((x % 16) % (k : Int)).toNat, by omega, by omega⟩
        have t48 : IntKind.i64.wrap (48 + (t : Int)) = ((48 + t : Nat) : Int) := by rw [wrap64 (by omega)]; omega
        have tu8 : IntKind.u8.wrap ((48 + t : Nat) : Int) = ((48 + t : Nat) : Int) := IntWalk.u8_in _ (by omega)
        have tsz : (strOf [((48 + t : Nat) : Int)]).size = 1 := rfl
        have hA : ∀ ts, (⟨mm.boxes, ts⟩ : M).nb = 0 := fun ts => hnb
        have hfr2 := hme2.free
        have hQc := qu_len Q
        have hmx2 : Q.length + 1 ≤ maxLen := by unfold maxLen; omega
        unfold cND
        (repeat (first | refine aSeq fun X hX => ?_ | refine aBlk ?_ | refine aSkip ?_ | (first | refine aExit ?_ | refine aRet ?_); try simp only [slx, ↓reduceIte, Nat.reduceEqDiff, reduceCtorEq] | (refine hX _ _ ?_; clear hX X) | (clear hX X; refine hX _ _ ?_; clear hX X)))
        refine aDrwE (isB mm (some [.sl .full [], .sl .full []] :: some [.sl .full [], .sl o (ns.map No.pv)] :: (r ++ [some (cND (nmD i) oe Q)]))) (hne := List.cons_ne_nil _ _) rfl (by kernel_rfl) (by kernel_rfl) ⟨mm.toks, rfl⟩ ?_
        unfold cND
        simp -implicitDefEqProofs only [↓slp, slb, ↓reduceIte, reduceCtorEq, jA, jB, jC, jD, jE, jF, jG, jH, jI, jJ, jK, tfNdC, f1, f4, f5, f6, f7, f8, f9, pI, gl, hltj, hkz, ht, t48, tu8, tsz, hnb, hA, get_1, upd_1, isB_all, forall_const, List.dropLast_cons_cons, List.dropLast_singleton, List.getLast_cons_cons, List.getLast_singleton, List.getElem?_concat_length, set_concat_length, List.set_cons_succ, List.cons_append, List.getElem?_cons_succ]; try simp only [Ex.fold, Ex.foldcs, ← Va.pv.eq_1]
        have hub : (oe.use mm).fresh 16 = (⟨mm.boxes, ((oe.use mm).fresh 16).toks⟩ : M) := by cases oe <;> rfl
        refine ⟨by decide, ⟨hfr2, hQc, hmx2, by omega⟩, ⟨_, congrArg (fun z : M => z.ext _) hub⟩, ?_⟩
        have e : (Q ++ [rawQ t]).map Qu.pv = Q.map Qu.pv ++ [(rawQ t).pv] := List.map_append
        have hj := fun (f : F) a b => join f (Q ++ [rawQ t]) (.tok mm.nt) ((oe.use mm).fresh 16) a b (by simp; omega) (fun q hq => by
          rcases List.mem_append.1 hq with h | h
          · exact hQ q h
          · rw [List.mem_singleton.1 h]; exact ⟨t, htk2, rfl⟩) (htk.use hme2) (Mine.other hmi hne) (Mine.new htk oe 16) (Mine.ne_new hmi)
        unfold cND at hj
        rw [e] at hj
        exact hj _ f1 ⟨f4, f5, f6, f7, f8, f9⟩
end Go.Proofs.YteiaedmipkcfeaaDoor
