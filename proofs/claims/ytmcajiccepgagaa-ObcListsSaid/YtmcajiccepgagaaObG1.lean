/-
  Texts that belong together: ObMk1, ObMk2, ObMk3.
-/
import Derived.Test.YtmcajiccepgagaaObCn
/-
  The maker of obc's statements: a number off the list, a letter; expressions, as functions.
-/
set_option linter.unusedVariables false
set_option linter.unusedSimpArgs false
namespace Go.Proofs.Ytmcajiccepgagaa
open Nat renaming reduceEqDiff → jA, reduceAdd → jB, reduceMul → jC, reduceLT → jD, reduceLeDiff → jE, reduceBEq → jF, reduceBNe → jG
open Int renaming reduceLE → jH, reduceLT → jI, reduceToNat → jJ, reduceEq → jK
open Go
-- EXX: cst_nb, cst_nt, cst_fresh, cst_use, cst_free, cst_alive, cst_a, cst_upda, cst_ext, cst_ext2, cst_ea, cst_own, cst_own0, cst_ou, cst_ou0, CP.at
set_option maxRecDepth 20000
-- TNAMES: int; uint8; string; bool; []uint8; *int
set_option linter.defProp false
def tfObMk1 := And.intro @tfA (And.intro @Ex.settle_pv (And.intro @Ex.pure_pv (And.intro @Ex.cells_pv (And.intro @Ex.cs.eq_1 (And.intro @On.pv.eq_1 (And.intro @Ty.pv.eq_1 (And.intro @Va.settle_pv (And.intro @Va.pure_pv (And.intro @Va.cells_pv (And.intro @Va.cs.eq_1 (And.intro @cst_nb (And.intro @cst_nt (And.intro @cst_fresh (And.intro @cst_use (And.intro @cst_free (And.intro @cst_alive (And.intro @cst_a (And.intro @cst_upda (And.intro @cst_ext (And.intro @cst_ext2 (And.intro @cst_ea (And.intro @cst_own (And.intro @cst_own0 (And.intro @cst_ou (And.intro @cst_ou0 @CP.at.eq_1)))))))))))))))))))))))))

/-- The number that is next, and how far is read behind it. -/
def nx (l : List Int) (i : Nat) : Int := l.getD i 0
def nxi (l : List Int) (i : Nat) : Nat := if i < l.length then i + 1 else i
theorem nx_bd {p : CP} {m : M} (h : p.ok m) (i : Nat) : 0 ≤ nx p.l i ∧ nx p.l i ≤ 255 := by
  unfold nx
  by_cases hi : i < p.l.length
  · rw [List.getD_eq_getElem?_getD, List.getElem?_eq_getElem hi]
    exact h.el _ (List.getElem_mem hi)
  · rw [List.getD_eq_getElem?_getD, List.getElem?_eq_none (by omega)]
    exact ⟨Int.le_refl _, by show (0 : Int) ≤ 255; omega⟩
/-- What is left of a division. -/
def nm (l : List Int) (i k : Nat) : Nat := ((nx l i).tmod k).toNat
theorem nm_eq {p : CP} {m : M} (h : p.ok m) (i k : Nat) (hk : 0 < k) : (nx p.l i).tmod k = (nm p.l i k : Int) ∧ nm p.l i k < k := by
  have hb := nx_bd h i
  unfold nm
  refine ⟨?_, ?_⟩
  · rw [Int.toNat_of_nonneg (Int.tmod_nonneg _ hb.1)]
  · have := Int.tmod_lt_of_pos (nx p.l i) (show (0 : Int) < (k : Int) by omega)
    omega
theorem tmod_N (a : Nat) (k : Nat) : (a : Int).tmod k = ((a % k : Nat) : Int) := by
  rw [← Int.ofNat_tmod]
set_option maxRecDepth 20000 in
set_option maxHeartbeats 1000000 in
theorem nextO_any (p : CP) (m : M) (hok : p.ok m) (i : Nat) : ACalls Try.prog 33 [.sl .no (p.l.map pU), .bp p.a 0] (cst p m i) (fun v m' => v = pI (nx p.l i) ∧ m' = cst p m (nxi p.l i)) := by
  have hA := hok.a
  refine ACalls.enter (mu := []) ok_mix Try.func33 rfl (by kernel_rfl) (by kernel_rfl) (by simp only [List.length_cons, List.length_nil, Try.ntmps33]; omega) ?_
  cases c1 : decide ((i : Int) ≥ (p.l.length : Int)) with
  | true =>
    have hge : ¬ i < p.l.length := by simp at c1; omega
    have e1 : nx p.l i = 0 := by unfold nx; rw [List.getD_eq_getElem?_getD, List.getElem?_eq_none (by omega)]; rfl
    have e2 : nxi p.l i = i := by unfold nxi; rw [if_neg hge]
    (repeat (first | refine aSeq fun X hX => ?_ | refine aBlk ?_ | refine aSkip ?_ | (first | refine aExit ?_ | refine aRet ?_); try simp only [slx, ↓reduceIte, Nat.reduceEqDiff, reduceCtorEq] | (first | refine aReg ?_ | refine aDrE ?_ | refine aIf ?_); simp -implicitDefEqProofs only [forall_eq, ↓slp, slb, ↓reduceIte, reduceCtorEq, jA, jB, jC, jD, jE, jF, jG, jH, jI, jJ, jK, tfObMk1, hA, c1]; try simp only [Ex.fold, Ex.foldcs, ← Va.pv.eq_1] | refine hX _ _ ?_; clear hX X | clear hX X; refine hX _ _ ?_; clear hX X | clear hX X; clear hX X; refine hX _ _ ?_; clear hX X | intro hlen; unfold maxLen at hlen | apply And.intro; focus (first | omega | assumption | (repeat' apply And.intro) <;> first | omega | assumption)))
    simp only [aPost, Try.results33, aRes_n, aRes_t, aRes_c, pack_one, pack_two]
    exact leave_cst0 hok (.refl m) rfl ⟨by rw [e1]; rfl, by rw [e2]⟩
  | false =>
    have hlt : i < p.l.length := by simp at c1; omega
    have e1 : nx p.l i = p.l[i] := by unfold nx; rw [List.getD_eq_getElem?_getD, List.getElem?_eq_getElem hlt]; rfl
    have e2 : nxi p.l i = i + 1 := by unfold nxi; rw [if_pos hlt]
    have hl := hok.len
    have hi : IntKind.i64.wrap ((i : Int) + 1) = ((i + 1 : Nat) : Int) := by rw [wrap64 (by omega)]; omega
    have hj : IntKind.i64.wrap (((i + 1 : Nat) : Int) - 1) = (i : Int) := by rw [wrap64 (by omega)]; omega
    have g0 := getD_map pU p.l i hlt
    have he := hok.el _ (List.getElem_mem hlt)
    have hw : IntKind.i64.wrap p.l[i] = p.l[i] := wrap64 (by omega)
    (repeat (first | refine aSeq fun X hX => ?_ | refine aBlk ?_ | refine aSkip ?_ | (first | refine aExit ?_ | refine aRet ?_); try simp only [slx, ↓reduceIte, Nat.reduceEqDiff, reduceCtorEq] | (first | refine aReg ?_ | refine aDrE ?_ | refine aIf ?_); simp -implicitDefEqProofs only [forall_eq, ↓slp, slb, ↓reduceIte, reduceCtorEq, jA, jB, jC, jD, jE, jF, jG, jH, jI, jJ, jK, tfObMk1, hA, c1, hi, hj, g0, hw]; try simp only [Ex.fold, Ex.foldcs, ← Va.pv.eq_1] | refine hX _ _ ?_; clear hX X | clear hX X; refine hX _ _ ?_; clear hX X | clear hX X; clear hX X; refine hX _ _ ?_; clear hX X | intro hlen; unfold maxLen at hlen | apply And.intro; focus (first | omega | assumption | (repeat' apply And.intro) <;> first | omega | assumption)))
    simp only [aPost, Try.results33, aRes_n, aRes_t, aRes_c, pack_one, pack_two]
    exact leave_cst0 hok (.refl m) rfl ⟨by rw [e1]; rfl, by rw [e2]⟩

set_option maxRecDepth 20000 in
set_option maxHeartbeats 1000000 in
theorem letterO_any (n : Nat) (hn : n < 26) (m : M) : ACalls Try.prog 35 [pI n] m (fun v m' => v = pS (strOf [((97 + n : Nat) : Int)]) ∧ m' = m) := by
  have h1 : IntKind.i64.wrap (97 + (n : Int)) = ((97 + n : Nat) : Int) := by rw [wrap64 (by omega)]; omega
  have h2 : IntKind.u8.wrap ((97 + n : Nat) : Int) = ((97 + n : Nat) : Int) := IntWalk.u8_in _ (by omega)
  refine ACalls.enter (mu := []) ok_mix Try.func35 rfl (by kernel_rfl) (by kernel_rfl) (by simp only [List.length_cons, List.length_nil, Try.ntmps35]; omega) ?_
  (repeat (first | refine aSeq fun X hX => ?_ | refine aBlk ?_ | refine aSkip ?_ | (first | refine aExit ?_ | refine aRet ?_); try simp only [slx, ↓reduceIte, Nat.reduceEqDiff, reduceCtorEq] | (first | refine aReg ?_ | refine aDrE ?_ | refine aIf ?_); simp -implicitDefEqProofs only [forall_eq, ↓slp, slb, ↓reduceIte, reduceCtorEq, jA, jB, jC, jD, jE, jF, jG, jH, jI, jJ, jK, tfObMk1, h1, h2]; try simp only [Ex.fold, Ex.foldcs, ← Va.pv.eq_1] | refine hX _ _ ?_; clear hX X | clear hX X; refine hX _ _ ?_; clear hX X | clear hX X; clear hX X; refine hX _ _ ?_; clear hX X | intro hlen; unfold maxLen at hlen | apply And.intro; focus (first | omega | assumption | (repeat' apply And.intro) <;> first | omega | assumption)))
  simp only [aPost, Try.results35, aRes_n, aRes_t, aRes_c, pack_one, pack_two]
  exact leave_same rfl ⟨rfl, rfl⟩
/-- A name of two letters. -/
def nmV (t : Nat) : Str := ⟨#[118]⟩ ++ strOf [((97 + t : Nat) : Int)]
def nmM (t : Nat) : Str := ⟨#[109]⟩ ++ strOf [((97 + t : Nat) : Int)]
/-- An expression without others in it, by its kind. -/
def exS (l : List Int) (k i : Nat) : Ex × Nat :=
  if k = 0 then (exN (nx l i - 100), nxi l i)
  else if k < 3 then (exV (nmV (nm l i 4)), nxi l i)
  else (exL (nmM (nm l i 3)), nxi l i)
/-- What expr makes. -/
def exF (l : List Int) : Nat → Nat → Ex × Nat
  | 0, i => exS l (nm l i 8 % 4) (nxi l i)
  | d + 1, i =>
    let k := nm l i 8
    let j := nxi l i
    if k < 4 then exS l k j
    else if k = 4 then
      let a := exF l d (nxi l j)
      (.mk 6 (1 + (nm l j 2 : Nat)) 0 sZ [] [a.1] 0 0, a.2)
    else if k = 5 then
      let a := exF l d j
      let b := exF l d a.2
      let c := exF l d b.2
      (.mk 8 0 0 sZ [] [a.1, b.1, c.1] 0 0, c.2)
    else
      let a := exF l d (nxi l j)
      let b := exF l d a.2
      (.mk 7 (3 + (nm l j 14 : Nat)) 0 sZ [] [a.1, b.1] 0 0, b.2)
end Go.Proofs.Ytmcajiccepgagaa

/-
  The maker of obc's statements: expressions.
-/
set_option linter.unusedVariables false
set_option linter.unusedSimpArgs false
namespace Go.Proofs.Ytmcajiccepgagaa
open Nat renaming reduceEqDiff → jA, reduceAdd → jB, reduceMul → jC, reduceLT → jD, reduceLeDiff → jE, reduceBEq → jF, reduceBNe → jG
open Int renaming reduceLE → jH, reduceLT → jI, reduceToNat → jJ, reduceEq → jK
open Go
-- EXX: cst_nb, cst_nt, cst_fresh, cst_use, cst_free, cst_alive, cst_a, cst_upda, cst_ext, cst_ext2, cst_ea, cst_own, cst_own0, cst_ou, cst_ou0, CP.at
set_option maxRecDepth 20000
-- TNAMES: int; uint8; int32; string; bool; []uint8; *int; []api.Expr; api.Expr; []string
set_option linter.defProp false
def tfObMk2 := And.intro @tfA (And.intro @Ex.settle_pv (And.intro @Ex.pure_pv (And.intro @Ex.cells_pv (And.intro @Ex.cs.eq_1 (And.intro @On.pv.eq_1 (And.intro @Ty.pv.eq_1 (And.intro @Va.settle_pv (And.intro @Va.pure_pv (And.intro @Va.cells_pv (And.intro @Va.cs.eq_1 (And.intro @cst_nb (And.intro @cst_nt (And.intro @cst_fresh (And.intro @cst_use (And.intro @cst_free (And.intro @cst_alive (And.intro @cst_a (And.intro @cst_upda (And.intro @cst_ext (And.intro @cst_ext2 (And.intro @cst_ea (And.intro @cst_own (And.intro @cst_own0 (And.intro @cst_ou (And.intro @cst_ou0 @CP.at.eq_1)))))))))))))))))))))))))

/-- What expr promises at a depth. -/
def EC (d : Nat) : Prop := ∀ (p : CP) (m : M), p.ok m → ∀ (i : Nat), ACalls Try.prog 34 [.sl .no (p.l.map pU), .bp p.a 0, .v (.int .i64 (d : Int))] (cst p m i) (fun v m' => v = (exF p.l d i).1.pv ∧ m' = cst p m (exF p.l d i).2)
set_option maxHeartbeats 4000000 in
theorem expr0_any : EC 0 := by
  intro p m hok i
  have hA := hok.a
  have c0 : decide (((0 : Nat) : Int) ≤ 0) = true := rfl
  obtain ⟨k8, k8l⟩ := nm_eq hok i 8 (by omega)
  have he : exF p.l 0 i = exS p.l (nm p.l i 8 % 4) (nxi p.l i) := rfl
  generalize nm p.l i 8 = k at k8 k8l he
  have k8' : (nx p.l i).tmod 8 = (k : Int) := k8
  have hq4 : k % 4 < 4 := Nat.mod_lt _ (by omega)
  have hq : (k : Int).tmod 4 = ((k % 4 : Nat) : Int) := tmod_N k 4
  generalize k % 4 = q at hq hq4 he
  refine ACalls.enter (mu := [6]) ok_mix Try.func34 rfl (by kernel_rfl) (by kernel_rfl) (by simp only [List.length_cons, List.length_nil, Try.ntmps34]; omega) ?_
  (repeat (first | refine aSeq fun X hX => ?_ | refine aBlk ?_ | refine aSkip ?_ | (first | refine aExit ?_ | refine aRet ?_); try simp only [slx, ↓reduceIte, Nat.reduceEqDiff, reduceCtorEq] | (first | refine aReg ?_ | refine aDrE ?_ | refine aIf ?_); simp -implicitDefEqProofs only [forall_eq, ↓slp, slb, ↓reduceIte, reduceCtorEq, jA, jB, jC, jD, jE, jF, jG, jH, jI, jJ, jK, tfObMk2, hA, c0]; try simp only [Ex.fold, Ex.foldcs, ← Va.pv.eq_1] | refine hX _ _ ?_; clear hX X | clear hX X; refine hX _ _ ?_; clear hX X | clear hX X; clear hX X; refine hX _ _ ?_; clear hX X | intro hlen; unfold maxLen at hlen | apply And.intro; focus (first | omega | assumption | (repeat' apply And.intro) <;> first | omega | assumption)))
  refine callM (nextO_any p _ (hok.ext _) i) ?_
  rintro v m' ⟨rfl, rfl⟩
  have h4 : q = 0 ∨ q = 1 ∨ q = 2 ∨ q = 3 := by omega
  rcases h4 with rfl | rfl | rfl | rfl
  · have hq0 : (k : Int).tmod 4 = 0 := hq
    simp -implicitDefEqProofs only [↓slp, slb, ↓reduceIte, reduceCtorEq, jA, jB, jC, jD, jE, jF, jG, jH, jI, jJ, jK, tfObMk2, hA, k8', hq0, c0, Int.reduceBEq, decide_true, decide_false]; try simp only [Ex.fold, Ex.foldcs, ← Va.pv.eq_1]
    (repeat (first | refine aSeq fun X hX => ?_ | refine aBlk ?_ | refine aSkip ?_ | (first | refine aExit ?_ | refine aRet ?_); try simp only [slx, ↓reduceIte, Nat.reduceEqDiff, reduceCtorEq] | (first | refine aReg ?_ | refine aDrE ?_ | refine aIf ?_); simp -implicitDefEqProofs only [forall_eq, ↓slp, slb, ↓reduceIte, reduceCtorEq, jA, jB, jC, jD, jE, jF, jG, jH, jI, jJ, jK, tfObMk2, hA, k8', hq0, c0, Int.reduceBEq, decide_true, decide_false]; try simp only [Ex.fold, Ex.foldcs, ← Va.pv.eq_1] | refine hX _ _ ?_; clear hX X | clear hX X; refine hX _ _ ?_; clear hX X | clear hX X; clear hX X; refine hX _ _ ?_; clear hX X | intro hlen; unfold maxLen at hlen | apply And.intro; focus (first | omega | assumption | (repeat' apply And.intro) <;> first | omega | assumption)))
    refine callM (nextO_any p _ (hok.ext _) (nxi p.l i)) ?_
    rintro v m' ⟨rfl, rfl⟩
    have hb := nx_bd hok (nxi p.l i)
    have w1 : IntKind.i32.wrap (nx p.l (nxi p.l i)) = nx p.l (nxi p.l i) := IntWalk.i32_in _ (by omega)
    have w2 : IntKind.i32.wrap (nx p.l (nxi p.l i) - 100) = nx p.l (nxi p.l i) - 100 := IntWalk.i32_in _ (by omega)
    simp -implicitDefEqProofs only [↓slp, slb, ↓reduceIte, reduceCtorEq, jA, jB, jC, jD, jE, jF, jG, jH, jI, jJ, jK, tfObMk2, hA, w1, w2]; try simp only [Ex.fold, Ex.foldcs, ← Va.pv.eq_1]
    refine callE (number_any _ _) ?_
    simp -implicitDefEqProofs only [↓slp, slb, ↓reduceIte, reduceCtorEq, jA, jB, jC, jD, jE, jF, jG, jH, jI, jJ, jK, tfObMk2, hA]; try simp only [Ex.fold, Ex.foldcs, ← Va.pv.eq_1]
    (repeat (first | refine aSeq fun X hX => ?_ | refine aBlk ?_ | refine aSkip ?_ | (first | refine aExit ?_ | refine aRet ?_); try simp only [slx, ↓reduceIte, Nat.reduceEqDiff, reduceCtorEq] | (first | refine aReg ?_ | refine aDrE ?_ | refine aIf ?_); simp -implicitDefEqProofs only [forall_eq, ↓slp, slb, ↓reduceIte, reduceCtorEq, jA, jB, jC, jD, jE, jF, jG, jH, jI, jJ, jK, tfObMk2, hA]; try simp only [Ex.fold, Ex.foldcs, ← Va.pv.eq_1] | refine hX _ _ ?_; clear hX X | clear hX X; refine hX _ _ ?_; clear hX X | clear hX X; clear hX X; refine hX _ _ ?_; clear hX X | intro hlen; unfold maxLen at hlen | apply And.intro; focus (first | omega | assumption | (repeat' apply And.intro) <;> first | omega | assumption)))
    simp only [aPost, Try.results34, aRes_n, aRes_t, aRes_c, pack_one, pack_two]
    simp -implicitDefEqProofs only [↓slp, slb, ↓reduceIte, reduceCtorEq, jA, jB, jC, jD, jE, jF, jG, jH, jI, jJ, jK, tfObMk2, hA]; try simp only [Ex.fold, Ex.foldcs, ← Va.pv.eq_1]
    exact leave_cst hok (.refl m) rfl ⟨by rw [he]; rfl, by rw [he]; rfl⟩
  · have hq0 : (k : Int).tmod 4 = 1 := hq
    simp -implicitDefEqProofs only [↓slp, slb, ↓reduceIte, reduceCtorEq, jA, jB, jC, jD, jE, jF, jG, jH, jI, jJ, jK, tfObMk2, hA, k8', hq0, c0, Int.reduceBEq, decide_true, decide_false]; try simp only [Ex.fold, Ex.foldcs, ← Va.pv.eq_1]
    (repeat (first | refine aSeq fun X hX => ?_ | refine aBlk ?_ | refine aSkip ?_ | (first | refine aExit ?_ | refine aRet ?_); try simp only [slx, ↓reduceIte, Nat.reduceEqDiff, reduceCtorEq] | (first | refine aReg ?_ | refine aDrE ?_ | refine aIf ?_); simp -implicitDefEqProofs only [forall_eq, ↓slp, slb, ↓reduceIte, reduceCtorEq, jA, jB, jC, jD, jE, jF, jG, jH, jI, jJ, jK, tfObMk2, hA, k8', hq0, c0, Int.reduceBEq, decide_true, decide_false]; try simp only [Ex.fold, Ex.foldcs, ← Va.pv.eq_1] | refine hX _ _ ?_; clear hX X | clear hX X; refine hX _ _ ?_; clear hX X | clear hX X; clear hX X; refine hX _ _ ?_; clear hX X | intro hlen; unfold maxLen at hlen | apply And.intro; focus (first | omega | assumption | (repeat' apply And.intro) <;> first | omega | assumption)))
    refine callM (nextO_any p _ (hok.ext _) (nxi p.l i)) ?_
    rintro v m' ⟨rfl, rfl⟩
    obtain ⟨ht, htl⟩ := nm_eq hok (nxi p.l i) 4 (by omega)
    have ht4 : (nx p.l (nxi p.l i)).tmod 4 = (nm p.l (nxi p.l i) 4 : Int) := ht
    simp -implicitDefEqProofs only [↓slp, slb, ↓reduceIte, reduceCtorEq, jA, jB, jC, jD, jE, jF, jG, jH, jI, jJ, jK, tfObMk2, hA, ht4]; try simp only [Ex.fold, Ex.foldcs, ← Va.pv.eq_1]
    refine callE (letterO_any _ (by omega) _) ?_
    have hz : (strOf [((97 + nm p.l (nxi p.l i) 4 : Nat) : Int)]).size = 1 := rfl
    have hz2 : (⟨#[118]⟩ : ByteArray).size = 1 := rfl
    simp -implicitDefEqProofs only [↓slp, slb, ↓reduceIte, reduceCtorEq, jA, jB, jC, jD, jE, jF, jG, jH, jI, jJ, jK, tfObMk2, hA]; try simp only [Ex.fold, Ex.foldcs, ← Va.pv.eq_1]
    refine ⟨by omega, ?_⟩
    refine callE (name_any _ _) ?_
    simp -implicitDefEqProofs only [↓slp, slb, ↓reduceIte, reduceCtorEq, jA, jB, jC, jD, jE, jF, jG, jH, jI, jJ, jK, tfObMk2, hA]; try simp only [Ex.fold, Ex.foldcs, ← Va.pv.eq_1]
    (repeat (first | refine aSeq fun X hX => ?_ | refine aBlk ?_ | refine aSkip ?_ | (first | refine aExit ?_ | refine aRet ?_); try simp only [slx, ↓reduceIte, Nat.reduceEqDiff, reduceCtorEq] | (first | refine aReg ?_ | refine aDrE ?_ | refine aIf ?_); simp -implicitDefEqProofs only [forall_eq, ↓slp, slb, ↓reduceIte, reduceCtorEq, jA, jB, jC, jD, jE, jF, jG, jH, jI, jJ, jK, tfObMk2, hA]; try simp only [Ex.fold, Ex.foldcs, ← Va.pv.eq_1] | refine hX _ _ ?_; clear hX X | clear hX X; refine hX _ _ ?_; clear hX X | clear hX X; clear hX X; refine hX _ _ ?_; clear hX X | intro hlen; unfold maxLen at hlen | apply And.intro; focus (first | omega | assumption | (repeat' apply And.intro) <;> first | omega | assumption)))
    simp only [aPost, Try.results34, aRes_n, aRes_t, aRes_c, pack_one, pack_two]
    simp -implicitDefEqProofs only [↓slp, slb, ↓reduceIte, reduceCtorEq, jA, jB, jC, jD, jE, jF, jG, jH, jI, jJ, jK, tfObMk2, hA]; try simp only [Ex.fold, Ex.foldcs, ← Va.pv.eq_1]
    exact leave_cst hok (.refl m) rfl ⟨by rw [he]; rfl, by rw [he]; rfl⟩
  · have hq0 : (k : Int).tmod 4 = 2 := hq
    simp -implicitDefEqProofs only [↓slp, slb, ↓reduceIte, reduceCtorEq, jA, jB, jC, jD, jE, jF, jG, jH, jI, jJ, jK, tfObMk2, hA, k8', hq0, c0, Int.reduceBEq, decide_true, decide_false]; try simp only [Ex.fold, Ex.foldcs, ← Va.pv.eq_1]
    (repeat (first | refine aSeq fun X hX => ?_ | refine aBlk ?_ | refine aSkip ?_ | (first | refine aExit ?_ | refine aRet ?_); try simp only [slx, ↓reduceIte, Nat.reduceEqDiff, reduceCtorEq] | (first | refine aReg ?_ | refine aDrE ?_ | refine aIf ?_); simp -implicitDefEqProofs only [forall_eq, ↓slp, slb, ↓reduceIte, reduceCtorEq, jA, jB, jC, jD, jE, jF, jG, jH, jI, jJ, jK, tfObMk2, hA, k8', hq0, c0, Int.reduceBEq, decide_true, decide_false]; try simp only [Ex.fold, Ex.foldcs, ← Va.pv.eq_1] | refine hX _ _ ?_; clear hX X | clear hX X; refine hX _ _ ?_; clear hX X | clear hX X; clear hX X; refine hX _ _ ?_; clear hX X | intro hlen; unfold maxLen at hlen | apply And.intro; focus (first | omega | assumption | (repeat' apply And.intro) <;> first | omega | assumption)))
    refine callM (nextO_any p _ (hok.ext _) (nxi p.l i)) ?_
    rintro v m' ⟨rfl, rfl⟩
    obtain ⟨ht, htl⟩ := nm_eq hok (nxi p.l i) 4 (by omega)
    have ht4 : (nx p.l (nxi p.l i)).tmod 4 = (nm p.l (nxi p.l i) 4 : Int) := ht
    simp -implicitDefEqProofs only [↓slp, slb, ↓reduceIte, reduceCtorEq, jA, jB, jC, jD, jE, jF, jG, jH, jI, jJ, jK, tfObMk2, hA, ht4]; try simp only [Ex.fold, Ex.foldcs, ← Va.pv.eq_1]
    refine callE (letterO_any _ (by omega) _) ?_
    have hz : (strOf [((97 + nm p.l (nxi p.l i) 4 : Nat) : Int)]).size = 1 := rfl
    have hz2 : (⟨#[118]⟩ : ByteArray).size = 1 := rfl
    simp -implicitDefEqProofs only [↓slp, slb, ↓reduceIte, reduceCtorEq, jA, jB, jC, jD, jE, jF, jG, jH, jI, jJ, jK, tfObMk2, hA]; try simp only [Ex.fold, Ex.foldcs, ← Va.pv.eq_1]
    refine ⟨by omega, ?_⟩
    refine callE (name_any _ _) ?_
    simp -implicitDefEqProofs only [↓slp, slb, ↓reduceIte, reduceCtorEq, jA, jB, jC, jD, jE, jF, jG, jH, jI, jJ, jK, tfObMk2, hA]; try simp only [Ex.fold, Ex.foldcs, ← Va.pv.eq_1]
    (repeat (first | refine aSeq fun X hX => ?_ | refine aBlk ?_ | refine aSkip ?_ | (first | refine aExit ?_ | refine aRet ?_); try simp only [slx, ↓reduceIte, Nat.reduceEqDiff, reduceCtorEq] | (first | refine aReg ?_ | refine aDrE ?_ | refine aIf ?_); simp -implicitDefEqProofs only [forall_eq, ↓slp, slb, ↓reduceIte, reduceCtorEq, jA, jB, jC, jD, jE, jF, jG, jH, jI, jJ, jK, tfObMk2, hA]; try simp only [Ex.fold, Ex.foldcs, ← Va.pv.eq_1] | refine hX _ _ ?_; clear hX X | clear hX X; refine hX _ _ ?_; clear hX X | clear hX X; clear hX X; refine hX _ _ ?_; clear hX X | intro hlen; unfold maxLen at hlen | apply And.intro; focus (first | omega | assumption | (repeat' apply And.intro) <;> first | omega | assumption)))
    simp only [aPost, Try.results34, aRes_n, aRes_t, aRes_c, pack_one, pack_two]
    simp -implicitDefEqProofs only [↓slp, slb, ↓reduceIte, reduceCtorEq, jA, jB, jC, jD, jE, jF, jG, jH, jI, jJ, jK, tfObMk2, hA]; try simp only [Ex.fold, Ex.foldcs, ← Va.pv.eq_1]
    exact leave_cst hok (.refl m) rfl ⟨by rw [he]; rfl, by rw [he]; rfl⟩
  · have hq0 : (k : Int).tmod 4 = 3 := hq
    simp -implicitDefEqProofs only [↓slp, slb, ↓reduceIte, reduceCtorEq, jA, jB, jC, jD, jE, jF, jG, jH, jI, jJ, jK, tfObMk2, hA, k8', hq0, c0, Int.reduceBEq, decide_true, decide_false]; try simp only [Ex.fold, Ex.foldcs, ← Va.pv.eq_1]
    (repeat (first | refine aSeq fun X hX => ?_ | refine aBlk ?_ | refine aSkip ?_ | (first | refine aExit ?_ | refine aRet ?_); try simp only [slx, ↓reduceIte, Nat.reduceEqDiff, reduceCtorEq] | (first | refine aReg ?_ | refine aDrE ?_ | refine aIf ?_); simp -implicitDefEqProofs only [forall_eq, ↓slp, slb, ↓reduceIte, reduceCtorEq, jA, jB, jC, jD, jE, jF, jG, jH, jI, jJ, jK, tfObMk2, hA, k8', hq0, c0, Int.reduceBEq, decide_true, decide_false]; try simp only [Ex.fold, Ex.foldcs, ← Va.pv.eq_1] | refine hX _ _ ?_; clear hX X | clear hX X; refine hX _ _ ?_; clear hX X | clear hX X; clear hX X; refine hX _ _ ?_; clear hX X | intro hlen; unfold maxLen at hlen | apply And.intro; focus (first | omega | assumption | (repeat' apply And.intro) <;> first | omega | assumption)))
    refine callM (nextO_any p _ (hok.ext _) (nxi p.l i)) ?_
    rintro v m' ⟨rfl, rfl⟩
    obtain ⟨ht, htl⟩ := nm_eq hok (nxi p.l i) 3 (by omega)
    have ht4 : (nx p.l (nxi p.l i)).tmod 3 = (nm p.l (nxi p.l i) 3 : Int) := ht
    simp -implicitDefEqProofs only [↓slp, slb, ↓reduceIte, reduceCtorEq, jA, jB, jC, jD, jE, jF, jG, jH, jI, jJ, jK, tfObMk2, hA, ht4]; try simp only [Ex.fold, Ex.foldcs, ← Va.pv.eq_1]
    refine callE (letterO_any _ (by omega) _) ?_
    have hz : (strOf [((97 + nm p.l (nxi p.l i) 3 : Nat) : Int)]).size = 1 := rfl
    have hz2 : (⟨#[109]⟩ : ByteArray).size = 1 := rfl
    simp -implicitDefEqProofs only [↓slp, slb, ↓reduceIte, reduceCtorEq, jA, jB, jC, jD, jE, jF, jG, jH, jI, jJ, jK, tfObMk2, hA]; try simp only [Ex.fold, Ex.foldcs, ← Va.pv.eq_1]
    refine ⟨by omega, ?_⟩
    (repeat (first | refine aSeq fun X hX => ?_ | refine aBlk ?_ | refine aSkip ?_ | (first | refine aExit ?_ | refine aRet ?_); try simp only [slx, ↓reduceIte, Nat.reduceEqDiff, reduceCtorEq] | (first | refine aReg ?_ | refine aDrE ?_ | refine aIf ?_); simp -implicitDefEqProofs only [forall_eq, ↓slp, slb, ↓reduceIte, reduceCtorEq, jA, jB, jC, jD, jE, jF, jG, jH, jI, jJ, jK, tfObMk2, hA]; try simp only [Ex.fold, Ex.foldcs, ← Va.pv.eq_1] | refine hX _ _ ?_; clear hX X | clear hX X; refine hX _ _ ?_; clear hX X | clear hX X; clear hX X; refine hX _ _ ?_; clear hX X | intro hlen; unfold maxLen at hlen | apply And.intro; focus (first | omega | assumption | (repeat' apply And.intro) <;> first | omega | assumption)))
    simp only [aPost, Try.results34, aRes_n, aRes_t, aRes_c, pack_one, pack_two]
    simp -implicitDefEqProofs only [↓slp, slb, ↓reduceIte, reduceCtorEq, jA, jB, jC, jD, jE, jF, jG, jH, jI, jJ, jK, tfObMk2, hA]; try simp only [Ex.fold, Ex.foldcs, ← Va.pv.eq_1]
    exact leave_cst hok (.refl m) rfl ⟨by rw [he]; rfl, by rw [he]; rfl⟩
set_option maxHeartbeats 8000000 in
theorem exprS_any (d : Nat) (hd : d < 1000) (E : EC d) : EC (d + 1) := by
  intro p m hok i
  have hA := hok.a
  have hw : IntKind.i64.wrap (((d + 1 : Nat) : Int) - 1) = (d : Int) := by rw [wrap64 (by omega)]; omega
  have c0 : decide (((d + 1 : Nat) : Int) ≤ 0) = false := by simp
  obtain ⟨k8, k8l⟩ := nm_eq hok i 8 (by omega)
  have k8' : (nx p.l i).tmod 8 = (nm p.l i 8 : Int) := k8
  refine ACalls.enter (mu := [6]) ok_mix Try.func34 rfl (by kernel_rfl) (by kernel_rfl) (by simp only [List.length_cons, List.length_nil, Try.ntmps34]; omega) ?_
  (repeat (first | refine aSeq fun X hX => ?_ | refine aBlk ?_ | refine aSkip ?_ | (first | refine aExit ?_ | refine aRet ?_); try simp only [slx, ↓reduceIte, Nat.reduceEqDiff, reduceCtorEq] | (first | refine aReg ?_ | refine aDrE ?_ | refine aIf ?_); simp -implicitDefEqProofs only [forall_eq, ↓slp, slb, ↓reduceIte, reduceCtorEq, jA, jB, jC, jD, jE, jF, jG, jH, jI, jJ, jK, tfObMk2, hA, c0]; try simp only [Ex.fold, Ex.foldcs, ← Va.pv.eq_1] | refine hX _ _ ?_; clear hX X | clear hX X; refine hX _ _ ?_; clear hX X | clear hX X; clear hX X; refine hX _ _ ?_; clear hX X | intro hlen; unfold maxLen at hlen | apply And.intro; focus (first | omega | assumption | (repeat' apply And.intro) <;> first | omega | assumption)))
  refine callM (nextO_any p _ (hok.ext _) i) ?_
  rintro v m' ⟨rfl, rfl⟩
  have h8 : nm p.l i 8 = 0 ∨ nm p.l i 8 = 1 ∨ nm p.l i 8 = 2 ∨ nm p.l i 8 = 3 ∨ nm p.l i 8 = 4 ∨ nm p.l i 8 = 5 ∨ nm p.l i 8 = 6 ∨ nm p.l i 8 = 7 := by omega
  rcases h8 with hk | hk | hk | hk | hk | hk | hk | hk
  · have hk' : (nx p.l i).tmod 8 = 0 := by rw [k8', hk]; rfl
    simp -implicitDefEqProofs only [↓slp, slb, ↓reduceIte, reduceCtorEq, jA, jB, jC, jD, jE, jF, jG, jH, jI, jJ, jK, tfObMk2, hk', hA, c0, hw, Int.reduceBEq, decide_true, decide_false]; try simp only [Ex.fold, Ex.foldcs, ← Va.pv.eq_1]
    have he : exF p.l (d + 1) i = exS p.l 0 (nxi p.l i) := by rw [exF, hk]; rfl
    (repeat (first | refine aSeq fun X hX => ?_ | refine aBlk ?_ | refine aSkip ?_ | (first | refine aExit ?_ | refine aRet ?_); try simp only [slx, ↓reduceIte, Nat.reduceEqDiff, reduceCtorEq] | (first | refine aReg ?_ | refine aDrE ?_ | refine aIf ?_); simp -implicitDefEqProofs only [forall_eq, ↓slp, slb, ↓reduceIte, reduceCtorEq, jA, jB, jC, jD, jE, jF, jG, jH, jI, jJ, jK, tfObMk2, hA, hk', c0, hw, Int.reduceBEq, decide_true, decide_false]; try simp only [Ex.fold, Ex.foldcs, ← Va.pv.eq_1] | refine hX _ _ ?_; clear hX X | clear hX X; refine hX _ _ ?_; clear hX X | clear hX X; clear hX X; refine hX _ _ ?_; clear hX X | intro hlen; unfold maxLen at hlen | apply And.intro; focus (first | omega | assumption | (repeat' apply And.intro) <;> first | omega | assumption)))
    refine callM (nextO_any p _ (hok.ext _) (nxi p.l i)) ?_
    rintro v m' ⟨rfl, rfl⟩
    have hb := nx_bd hok (nxi p.l i)
    have w1 : IntKind.i32.wrap (nx p.l (nxi p.l i)) = nx p.l (nxi p.l i) := IntWalk.i32_in _ (by omega)
    have w2 : IntKind.i32.wrap (nx p.l (nxi p.l i) - 100) = nx p.l (nxi p.l i) - 100 := IntWalk.i32_in _ (by omega)
    simp -implicitDefEqProofs only [↓slp, slb, ↓reduceIte, reduceCtorEq, jA, jB, jC, jD, jE, jF, jG, jH, jI, jJ, jK, tfObMk2, hA, w1, w2]; try simp only [Ex.fold, Ex.foldcs, ← Va.pv.eq_1]
    refine callE (number_any _ _) ?_
    simp -implicitDefEqProofs only [↓slp, slb, ↓reduceIte, reduceCtorEq, jA, jB, jC, jD, jE, jF, jG, jH, jI, jJ, jK, tfObMk2, hA]; try simp only [Ex.fold, Ex.foldcs, ← Va.pv.eq_1]
    (repeat (first | refine aSeq fun X hX => ?_ | refine aBlk ?_ | refine aSkip ?_ | (first | refine aExit ?_ | refine aRet ?_); try simp only [slx, ↓reduceIte, Nat.reduceEqDiff, reduceCtorEq] | (first | refine aReg ?_ | refine aDrE ?_ | refine aIf ?_); simp -implicitDefEqProofs only [forall_eq, ↓slp, slb, ↓reduceIte, reduceCtorEq, jA, jB, jC, jD, jE, jF, jG, jH, jI, jJ, jK, tfObMk2, hA]; try simp only [Ex.fold, Ex.foldcs, ← Va.pv.eq_1] | refine hX _ _ ?_; clear hX X | clear hX X; refine hX _ _ ?_; clear hX X | clear hX X; clear hX X; refine hX _ _ ?_; clear hX X | intro hlen; unfold maxLen at hlen | apply And.intro; focus (first | omega | assumption | (repeat' apply And.intro) <;> first | omega | assumption)))
    simp only [aPost, Try.results34, aRes_n, aRes_t, aRes_c, pack_one, pack_two]
    simp -implicitDefEqProofs only [↓slp, slb, ↓reduceIte, reduceCtorEq, jA, jB, jC, jD, jE, jF, jG, jH, jI, jJ, jK, tfObMk2, hA]; try simp only [Ex.fold, Ex.foldcs, ← Va.pv.eq_1]
    exact leave_cst hok (.refl m) rfl ⟨by rw [he]; rfl, by rw [he]; rfl⟩
  · have hk' : (nx p.l i).tmod 8 = 1 := by rw [k8', hk]; rfl
    simp -implicitDefEqProofs only [↓slp, slb, ↓reduceIte, reduceCtorEq, jA, jB, jC, jD, jE, jF, jG, jH, jI, jJ, jK, tfObMk2, hk', hA, c0, hw, Int.reduceBEq, decide_true, decide_false]; try simp only [Ex.fold, Ex.foldcs, ← Va.pv.eq_1]
    have he : exF p.l (d + 1) i = exS p.l 1 (nxi p.l i) := by rw [exF, hk]; rfl
    (repeat (first | refine aSeq fun X hX => ?_ | refine aBlk ?_ | refine aSkip ?_ | (first | refine aExit ?_ | refine aRet ?_); try simp only [slx, ↓reduceIte, Nat.reduceEqDiff, reduceCtorEq] | (first | refine aReg ?_ | refine aDrE ?_ | refine aIf ?_); simp -implicitDefEqProofs only [forall_eq, ↓slp, slb, ↓reduceIte, reduceCtorEq, jA, jB, jC, jD, jE, jF, jG, jH, jI, jJ, jK, tfObMk2, hA, hk', c0, hw, Int.reduceBEq, decide_true, decide_false]; try simp only [Ex.fold, Ex.foldcs, ← Va.pv.eq_1] | refine hX _ _ ?_; clear hX X | clear hX X; refine hX _ _ ?_; clear hX X | clear hX X; clear hX X; refine hX _ _ ?_; clear hX X | intro hlen; unfold maxLen at hlen | apply And.intro; focus (first | omega | assumption | (repeat' apply And.intro) <;> first | omega | assumption)))
    refine callM (nextO_any p _ (hok.ext _) (nxi p.l i)) ?_
    rintro v m' ⟨rfl, rfl⟩
    obtain ⟨ht, htl⟩ := nm_eq hok (nxi p.l i) 4 (by omega)
    have ht4 : (nx p.l (nxi p.l i)).tmod 4 = (nm p.l (nxi p.l i) 4 : Int) := ht
    simp -implicitDefEqProofs only [↓slp, slb, ↓reduceIte, reduceCtorEq, jA, jB, jC, jD, jE, jF, jG, jH, jI, jJ, jK, tfObMk2, hA, ht4]; try simp only [Ex.fold, Ex.foldcs, ← Va.pv.eq_1]
    refine callE (letterO_any _ (by omega) _) ?_
    have hz : (strOf [((97 + nm p.l (nxi p.l i) 4 : Nat) : Int)]).size = 1 := rfl
    have hz2 : (⟨#[118]⟩ : ByteArray).size = 1 := rfl
    simp -implicitDefEqProofs only [↓slp, slb, ↓reduceIte, reduceCtorEq, jA, jB, jC, jD, jE, jF, jG, jH, jI, jJ, jK, tfObMk2, hA]; try simp only [Ex.fold, Ex.foldcs, ← Va.pv.eq_1]
    refine ⟨by omega, ?_⟩
    refine callE (name_any _ _) ?_
    simp -implicitDefEqProofs only [↓slp, slb, ↓reduceIte, reduceCtorEq, jA, jB, jC, jD, jE, jF, jG, jH, jI, jJ, jK, tfObMk2, hA]; try simp only [Ex.fold, Ex.foldcs, ← Va.pv.eq_1]
    (repeat (first | refine aSeq fun X hX => ?_ | refine aBlk ?_ | refine aSkip ?_ | (first | refine aExit ?_ | refine aRet ?_); try simp only [slx, ↓reduceIte, Nat.reduceEqDiff, reduceCtorEq] | (first | refine aReg ?_ | refine aDrE ?_ | refine aIf ?_); simp -implicitDefEqProofs only [forall_eq, ↓slp, slb, ↓reduceIte, reduceCtorEq, jA, jB, jC, jD, jE, jF, jG, jH, jI, jJ, jK, tfObMk2, hA]; try simp only [Ex.fold, Ex.foldcs, ← Va.pv.eq_1] | refine hX _ _ ?_; clear hX X | clear hX X; refine hX _ _ ?_; clear hX X | clear hX X; clear hX X; refine hX _ _ ?_; clear hX X | intro hlen; unfold maxLen at hlen | apply And.intro; focus (first | omega | assumption | (repeat' apply And.intro) <;> first | omega | assumption)))
    simp only [aPost, Try.results34, aRes_n, aRes_t, aRes_c, pack_one, pack_two]
    simp -implicitDefEqProofs only [↓slp, slb, ↓reduceIte, reduceCtorEq, jA, jB, jC, jD, jE, jF, jG, jH, jI, jJ, jK, tfObMk2, hA]; try simp only [Ex.fold, Ex.foldcs, ← Va.pv.eq_1]
    exact leave_cst hok (.refl m) rfl ⟨by rw [he]; rfl, by rw [he]; rfl⟩
  · have hk' : (nx p.l i).tmod 8 = 2 := by rw [k8', hk]; rfl
    simp -implicitDefEqProofs only [↓slp, slb, ↓reduceIte, reduceCtorEq, jA, jB, jC, jD, jE, jF, jG, jH, jI, jJ, jK, tfObMk2, hk', hA, c0, hw, Int.reduceBEq, decide_true, decide_false]; try simp only [Ex.fold, Ex.foldcs, ← Va.pv.eq_1]
    have he : exF p.l (d + 1) i = exS p.l 2 (nxi p.l i) := by rw [exF, hk]; rfl
    (repeat (first | refine aSeq fun X hX => ?_ | refine aBlk ?_ | refine aSkip ?_ | (first | refine aExit ?_ | refine aRet ?_); try simp only [slx, ↓reduceIte, Nat.reduceEqDiff, reduceCtorEq] | (first | refine aReg ?_ | refine aDrE ?_ | refine aIf ?_); simp -implicitDefEqProofs only [forall_eq, ↓slp, slb, ↓reduceIte, reduceCtorEq, jA, jB, jC, jD, jE, jF, jG, jH, jI, jJ, jK, tfObMk2, hA, hk', c0, hw, Int.reduceBEq, decide_true, decide_false]; try simp only [Ex.fold, Ex.foldcs, ← Va.pv.eq_1] | refine hX _ _ ?_; clear hX X | clear hX X; refine hX _ _ ?_; clear hX X | clear hX X; clear hX X; refine hX _ _ ?_; clear hX X | intro hlen; unfold maxLen at hlen | apply And.intro; focus (first | omega | assumption | (repeat' apply And.intro) <;> first | omega | assumption)))
    refine callM (nextO_any p _ (hok.ext _) (nxi p.l i)) ?_
    rintro v m' ⟨rfl, rfl⟩
    obtain ⟨ht, htl⟩ := nm_eq hok (nxi p.l i) 4 (by omega)
    have ht4 : (nx p.l (nxi p.l i)).tmod 4 = (nm p.l (nxi p.l i) 4 : Int) := ht
    simp -implicitDefEqProofs only [↓slp, slb, ↓reduceIte, reduceCtorEq, jA, jB, jC, jD, jE, jF, jG, jH, jI, jJ, jK, tfObMk2, hA, ht4]; try simp only [Ex.fold, Ex.foldcs, ← Va.pv.eq_1]
    refine callE (letterO_any _ (by omega) _) ?_
    have hz : (strOf [((97 + nm p.l (nxi p.l i) 4 : Nat) : Int)]).size = 1 := rfl
    have hz2 : (⟨#[118]⟩ : ByteArray).size = 1 := rfl
    simp -implicitDefEqProofs only [↓slp, slb, ↓reduceIte, reduceCtorEq, jA, jB, jC, jD, jE, jF, jG, jH, jI, jJ, jK, tfObMk2, hA]; try simp only [Ex.fold, Ex.foldcs, ← Va.pv.eq_1]
    refine ⟨by omega, ?_⟩
    refine callE (name_any _ _) ?_
    simp -implicitDefEqProofs only [↓slp, slb, ↓reduceIte, reduceCtorEq, jA, jB, jC, jD, jE, jF, jG, jH, jI, jJ, jK, tfObMk2, hA]; try simp only [Ex.fold, Ex.foldcs, ← Va.pv.eq_1]
    (repeat (first | refine aSeq fun X hX => ?_ | refine aBlk ?_ | refine aSkip ?_ | (first | refine aExit ?_ | refine aRet ?_); try simp only [slx, ↓reduceIte, Nat.reduceEqDiff, reduceCtorEq] | (first | refine aReg ?_ | refine aDrE ?_ | refine aIf ?_); simp -implicitDefEqProofs only [forall_eq, ↓slp, slb, ↓reduceIte, reduceCtorEq, jA, jB, jC, jD, jE, jF, jG, jH, jI, jJ, jK, tfObMk2, hA]; try simp only [Ex.fold, Ex.foldcs, ← Va.pv.eq_1] | refine hX _ _ ?_; clear hX X | clear hX X; refine hX _ _ ?_; clear hX X | clear hX X; clear hX X; refine hX _ _ ?_; clear hX X | intro hlen; unfold maxLen at hlen | apply And.intro; focus (first | omega | assumption | (repeat' apply And.intro) <;> first | omega | assumption)))
    simp only [aPost, Try.results34, aRes_n, aRes_t, aRes_c, pack_one, pack_two]
    simp -implicitDefEqProofs only [↓slp, slb, ↓reduceIte, reduceCtorEq, jA, jB, jC, jD, jE, jF, jG, jH, jI, jJ, jK, tfObMk2, hA]; try simp only [Ex.fold, Ex.foldcs, ← Va.pv.eq_1]
    exact leave_cst hok (.refl m) rfl ⟨by rw [he]; rfl, by rw [he]; rfl⟩
  · have hk' : (nx p.l i).tmod 8 = 3 := by rw [k8', hk]; rfl
    simp -implicitDefEqProofs only [↓slp, slb, ↓reduceIte, reduceCtorEq, jA, jB, jC, jD, jE, jF, jG, jH, jI, jJ, jK, tfObMk2, hk', hA, c0, hw, Int.reduceBEq, decide_true, decide_false]; try simp only [Ex.fold, Ex.foldcs, ← Va.pv.eq_1]
    have he : exF p.l (d + 1) i = exS p.l 3 (nxi p.l i) := by rw [exF, hk]; rfl
    (repeat (first | refine aSeq fun X hX => ?_ | refine aBlk ?_ | refine aSkip ?_ | (first | refine aExit ?_ | refine aRet ?_); try simp only [slx, ↓reduceIte, Nat.reduceEqDiff, reduceCtorEq] | (first | refine aReg ?_ | refine aDrE ?_ | refine aIf ?_); simp -implicitDefEqProofs only [forall_eq, ↓slp, slb, ↓reduceIte, reduceCtorEq, jA, jB, jC, jD, jE, jF, jG, jH, jI, jJ, jK, tfObMk2, hA, hk', c0, hw, Int.reduceBEq, decide_true, decide_false]; try simp only [Ex.fold, Ex.foldcs, ← Va.pv.eq_1] | refine hX _ _ ?_; clear hX X | clear hX X; refine hX _ _ ?_; clear hX X | clear hX X; clear hX X; refine hX _ _ ?_; clear hX X | intro hlen; unfold maxLen at hlen | apply And.intro; focus (first | omega | assumption | (repeat' apply And.intro) <;> first | omega | assumption)))
    refine callM (nextO_any p _ (hok.ext _) (nxi p.l i)) ?_
    rintro v m' ⟨rfl, rfl⟩
    obtain ⟨ht, htl⟩ := nm_eq hok (nxi p.l i) 3 (by omega)
    have ht4 : (nx p.l (nxi p.l i)).tmod 3 = (nm p.l (nxi p.l i) 3 : Int) := ht
    simp -implicitDefEqProofs only [↓slp, slb, ↓reduceIte, reduceCtorEq, jA, jB, jC, jD, jE, jF, jG, jH, jI, jJ, jK, tfObMk2, hA, ht4]; try simp only [Ex.fold, Ex.foldcs, ← Va.pv.eq_1]
    refine callE (letterO_any _ (by omega) _) ?_
    have hz : (strOf [((97 + nm p.l (nxi p.l i) 3 : Nat) : Int)]).size = 1 := rfl
    have hz2 : (⟨#[109]⟩ : ByteArray).size = 1 := rfl
    simp -implicitDefEqProofs only [↓slp, slb, ↓reduceIte, reduceCtorEq, jA, jB, jC, jD, jE, jF, jG, jH, jI, jJ, jK, tfObMk2, hA]; try simp only [Ex.fold, Ex.foldcs, ← Va.pv.eq_1]
    refine ⟨by omega, ?_⟩
    (repeat (first | refine aSeq fun X hX => ?_ | refine aBlk ?_ | refine aSkip ?_ | (first | refine aExit ?_ | refine aRet ?_); try simp only [slx, ↓reduceIte, Nat.reduceEqDiff, reduceCtorEq] | (first | refine aReg ?_ | refine aDrE ?_ | refine aIf ?_); simp -implicitDefEqProofs only [forall_eq, ↓slp, slb, ↓reduceIte, reduceCtorEq, jA, jB, jC, jD, jE, jF, jG, jH, jI, jJ, jK, tfObMk2, hA]; try simp only [Ex.fold, Ex.foldcs, ← Va.pv.eq_1] | refine hX _ _ ?_; clear hX X | clear hX X; refine hX _ _ ?_; clear hX X | clear hX X; clear hX X; refine hX _ _ ?_; clear hX X | intro hlen; unfold maxLen at hlen | apply And.intro; focus (first | omega | assumption | (repeat' apply And.intro) <;> first | omega | assumption)))
    simp only [aPost, Try.results34, aRes_n, aRes_t, aRes_c, pack_one, pack_two]
    simp -implicitDefEqProofs only [↓slp, slb, ↓reduceIte, reduceCtorEq, jA, jB, jC, jD, jE, jF, jG, jH, jI, jJ, jK, tfObMk2, hA]; try simp only [Ex.fold, Ex.foldcs, ← Va.pv.eq_1]
    exact leave_cst hok (.refl m) rfl ⟨by rw [he]; rfl, by rw [he]; rfl⟩
  · have hk' : (nx p.l i).tmod 8 = 4 := by rw [k8', hk]; rfl
    simp -implicitDefEqProofs only [↓slp, slb, ↓reduceIte, reduceCtorEq, jA, jB, jC, jD, jE, jF, jG, jH, jI, jJ, jK, tfObMk2, hk', hA, c0, hw, Int.reduceBEq, decide_true, decide_false]; try simp only [Ex.fold, Ex.foldcs, ← Va.pv.eq_1]
    (repeat (first | refine aSeq fun X hX => ?_ | refine aBlk ?_ | refine aSkip ?_ | (first | refine aExit ?_ | refine aRet ?_); try simp only [slx, ↓reduceIte, Nat.reduceEqDiff, reduceCtorEq] | (first | refine aReg ?_ | refine aDrE ?_ | refine aIf ?_); simp -implicitDefEqProofs only [forall_eq, ↓slp, slb, ↓reduceIte, reduceCtorEq, jA, jB, jC, jD, jE, jF, jG, jH, jI, jJ, jK, tfObMk2, hk', hA, c0, hw, Int.reduceBEq, decide_true, decide_false]; try simp only [Ex.fold, Ex.foldcs, ← Va.pv.eq_1] | refine hX _ _ ?_; clear hX X | clear hX X; refine hX _ _ ?_; clear hX X | clear hX X; clear hX X; refine hX _ _ ?_; clear hX X | intro hlen; unfold maxLen at hlen | apply And.intro; focus (first | omega | assumption | (repeat' apply And.intro) <;> first | omega | assumption)))
    refine callM (nextO_any p _ (hok.ext _) (nxi p.l i)) ?_
    rintro v m' ⟨rfl, rfl⟩
    obtain ⟨ht, htl⟩ := nm_eq hok (nxi p.l i) 2 (by omega)
    have ht4 : (nx p.l (nxi p.l i)).tmod 2 = (nm p.l (nxi p.l i) 2 : Int) := ht
    have he : exF p.l (d + 1) i = (.mk 6 (1 + (nm p.l (nxi p.l i) 2 : Nat)) 0 sZ [] [(exF p.l d (nxi p.l (nxi p.l i))).1] 0 0, (exF p.l d (nxi p.l (nxi p.l i))).2) := by rw [exF, hk]; rfl
    generalize nm p.l (nxi p.l i) 2 = t at ht4 htl he
    have w1 : IntKind.u8.wrap (t : Int) = t := IntWalk.u8_in _ (by omega)
    have w2 : IntKind.u8.wrap (1 + (t : Int)) = 1 + t := IntWalk.u8_in _ (by omega)
    simp -implicitDefEqProofs only [↓slp, slb, ↓reduceIte, reduceCtorEq, jA, jB, jC, jD, jE, jF, jG, jH, jI, jJ, jK, tfObMk2, hA, ht4, w1, w2, hw]; try simp only [Ex.fold, Ex.foldcs, ← Va.pv.eq_1]
    refine callM (E p _ (hok.ext _) _) ?_
    rintro v m' ⟨rfl, rfl⟩
    generalize exF p.l d (nxi p.l (nxi p.l i)) = a at he ⊢
    simp -implicitDefEqProofs only [↓slp, slb, ↓reduceIte, reduceCtorEq, jA, jB, jC, jD, jE, jF, jG, jH, jI, jJ, jK, tfObMk2, hA]; try simp only [Ex.fold, Ex.foldcs, ← Va.pv.eq_1]
    (repeat (first | refine aSeq fun X hX => ?_ | refine aBlk ?_ | refine aSkip ?_ | (first | refine aExit ?_ | refine aRet ?_); try simp only [slx, ↓reduceIte, Nat.reduceEqDiff, reduceCtorEq] | (first | refine aReg ?_ | refine aDrE ?_ | refine aIf ?_); simp -implicitDefEqProofs only [forall_eq, ↓slp, slb, ↓reduceIte, reduceCtorEq, jA, jB, jC, jD, jE, jF, jG, jH, jI, jJ, jK, tfObMk2, hA]; try simp only [Ex.fold, Ex.foldcs, ← Va.pv.eq_1] | refine hX _ _ ?_; clear hX X | clear hX X; refine hX _ _ ?_; clear hX X | clear hX X; clear hX X; refine hX _ _ ?_; clear hX X | intro hlen; unfold maxLen at hlen | apply And.intro; focus (first | omega | assumption | (repeat' apply And.intro) <;> first | omega | assumption)))
    simp only [aPost, Try.results34, aRes_n, aRes_t, aRes_c, pack_one, pack_two]
    simp -implicitDefEqProofs only [↓slp, slb, ↓reduceIte, reduceCtorEq, jA, jB, jC, jD, jE, jF, jG, jH, jI, jJ, jK, tfObMk2, hA]; try simp only [Ex.fold, Ex.foldcs, ← Va.pv.eq_1]
    exact leave_cst hok (.refl m) (by simp only [Ex.foldcs, Ex.fold, PV.settle, PV.settles, Ex.settle_pv]; rfl) ⟨by rw [he]; simp only [Ex.foldcs, Ex.fold, PV.settle, PV.settles, Ex.settle_pv]; rfl, by rw [he]⟩
  · have hk' : (nx p.l i).tmod 8 = 5 := by rw [k8', hk]; rfl
    simp -implicitDefEqProofs only [↓slp, slb, ↓reduceIte, reduceCtorEq, jA, jB, jC, jD, jE, jF, jG, jH, jI, jJ, jK, tfObMk2, hk', hA, c0, hw, Int.reduceBEq, decide_true, decide_false]; try simp only [Ex.fold, Ex.foldcs, ← Va.pv.eq_1]
    (repeat (first | refine aSeq fun X hX => ?_ | refine aBlk ?_ | refine aSkip ?_ | (first | refine aExit ?_ | refine aRet ?_); try simp only [slx, ↓reduceIte, Nat.reduceEqDiff, reduceCtorEq] | (first | refine aReg ?_ | refine aDrE ?_ | refine aIf ?_); simp -implicitDefEqProofs only [forall_eq, ↓slp, slb, ↓reduceIte, reduceCtorEq, jA, jB, jC, jD, jE, jF, jG, jH, jI, jJ, jK, tfObMk2, hk', hA, c0, hw, Int.reduceBEq, decide_true, decide_false]; try simp only [Ex.fold, Ex.foldcs, ← Va.pv.eq_1] | refine hX _ _ ?_; clear hX X | clear hX X; refine hX _ _ ?_; clear hX X | clear hX X; clear hX X; refine hX _ _ ?_; clear hX X | intro hlen; unfold maxLen at hlen | apply And.intro; focus (first | omega | assumption | (repeat' apply And.intro) <;> first | omega | assumption)))
    have he : exF p.l (d + 1) i = (.mk 8 0 0 sZ [] [(exF p.l d (nxi p.l i)).1, (exF p.l d (exF p.l d (nxi p.l i)).2).1, (exF p.l d (exF p.l d (exF p.l d (nxi p.l i)).2).2).1] 0 0, (exF p.l d (exF p.l d (exF p.l d (nxi p.l i)).2).2).2) := by rw [exF, hk]; rfl
    refine callM (E p _ (hok.ext _) _) ?_
    rintro v m' ⟨rfl, rfl⟩
    generalize exF p.l d (nxi p.l i) = a at he ⊢
    simp -implicitDefEqProofs only [↓slp, slb, ↓reduceIte, reduceCtorEq, jA, jB, jC, jD, jE, jF, jG, jH, jI, jJ, jK, tfObMk2, hA, hw]; try simp only [Ex.fold, Ex.foldcs, ← Va.pv.eq_1]
    (repeat (first | refine aSeq fun X hX => ?_ | refine aBlk ?_ | refine aSkip ?_ | (first | refine aExit ?_ | refine aRet ?_); try simp only [slx, ↓reduceIte, Nat.reduceEqDiff, reduceCtorEq] | (first | refine aReg ?_ | refine aDrE ?_ | refine aIf ?_); simp -implicitDefEqProofs only [forall_eq, ↓slp, slb, ↓reduceIte, reduceCtorEq, jA, jB, jC, jD, jE, jF, jG, jH, jI, jJ, jK, tfObMk2, hA, hw]; try simp only [Ex.fold, Ex.foldcs, ← Va.pv.eq_1] | refine hX _ _ ?_; clear hX X | clear hX X; refine hX _ _ ?_; clear hX X | clear hX X; clear hX X; refine hX _ _ ?_; clear hX X | intro hlen; unfold maxLen at hlen | apply And.intro; focus (first | omega | assumption | (repeat' apply And.intro) <;> first | omega | assumption)))
    refine callM (E p _ (hok.ext _) _) ?_
    rintro v m' ⟨rfl, rfl⟩
    generalize exF p.l d a.2 = b at he ⊢
    simp -implicitDefEqProofs only [↓slp, slb, ↓reduceIte, reduceCtorEq, jA, jB, jC, jD, jE, jF, jG, jH, jI, jJ, jK, tfObMk2, hA, hw]; try simp only [Ex.fold, Ex.foldcs, ← Va.pv.eq_1]
    (repeat (first | refine aSeq fun X hX => ?_ | refine aBlk ?_ | refine aSkip ?_ | (first | refine aExit ?_ | refine aRet ?_); try simp only [slx, ↓reduceIte, Nat.reduceEqDiff, reduceCtorEq] | (first | refine aReg ?_ | refine aIf ?_); simp -implicitDefEqProofs only [forall_eq, ↓slp, slb, ↓reduceIte, reduceCtorEq, jA, jB, jC, jD, jE, jF, jG, jH, jI, jJ, jK, tfObMk2, hA, hw]; try simp only [Ex.fold, Ex.foldcs, ← Va.pv.eq_1] | refine hX _ _ ?_; clear hX X | clear hX X; refine hX _ _ ?_; clear hX X | clear hX X; clear hX X; refine hX _ _ ?_; clear hX X | intro hlen; unfold maxLen at hlen | apply And.intro; focus (first | omega | assumption | (repeat' apply And.intro) <;> first | omega | assumption)))
    refine aDrw (fun _ => True) (by kernel_rfl) trivial ?_
    simp -implicitDefEqProofs only [↓slp, slb, ↓reduceIte, reduceCtorEq, jA, jB, jC, jD, jE, jF, jG, jH, jI, jJ, jK, tfObMk2, hA, hw]; try simp only [Ex.fold, Ex.foldcs, ← Va.pv.eq_1]
    refine callM (E p _ (hok.ext _) _) ?_
    rintro v m' ⟨rfl, rfl⟩
    generalize exF p.l d b.2 = c at he ⊢
    refine ⟨trivial, ?_⟩
    simp -implicitDefEqProofs only [↓slp, slb, ↓reduceIte, reduceCtorEq, jA, jB, jC, jD, jE, jF, jG, jH, jI, jJ, jK, tfObMk2, hA]; try simp only [Ex.fold, Ex.foldcs, ← Va.pv.eq_1]
    (repeat (first | refine aSeq fun X hX => ?_ | refine aBlk ?_ | refine aSkip ?_ | (first | refine aExit ?_ | refine aRet ?_); try simp only [slx, ↓reduceIte, Nat.reduceEqDiff, reduceCtorEq] | (first | refine aReg ?_ | refine aDrE ?_ | refine aIf ?_); simp -implicitDefEqProofs only [forall_eq, ↓slp, slb, ↓reduceIte, reduceCtorEq, jA, jB, jC, jD, jE, jF, jG, jH, jI, jJ, jK, tfObMk2, hA]; try simp only [Ex.fold, Ex.foldcs, ← Va.pv.eq_1] | refine hX _ _ ?_; clear hX X | clear hX X; refine hX _ _ ?_; clear hX X | clear hX X; clear hX X; refine hX _ _ ?_; clear hX X | intro hlen; unfold maxLen at hlen | apply And.intro; focus (first | omega | assumption | (repeat' apply And.intro) <;> first | omega | assumption)))
    simp only [aPost, Try.results34, aRes_n, aRes_t, aRes_c, pack_one, pack_two]
    simp -implicitDefEqProofs only [↓slp, slb, ↓reduceIte, reduceCtorEq, jA, jB, jC, jD, jE, jF, jG, jH, jI, jJ, jK, tfObMk2, hA]; try simp only [Ex.fold, Ex.foldcs, ← Va.pv.eq_1]
    exact leave_cst hok (.refl m) (by simp only [Ex.foldcs, Ex.fold, PV.settle, PV.settles, Ex.settle_pv]; rfl) ⟨by rw [he]; simp only [Ex.foldcs, Ex.fold, PV.settle, PV.settles, Ex.settle_pv]; rfl, by rw [he]⟩
  · have hk' : (nx p.l i).tmod 8 = 6 := by rw [k8', hk]; rfl
    simp -implicitDefEqProofs only [↓slp, slb, ↓reduceIte, reduceCtorEq, jA, jB, jC, jD, jE, jF, jG, jH, jI, jJ, jK, tfObMk2, hk', hA, c0, hw, Int.reduceBEq, decide_true, decide_false]; try simp only [Ex.fold, Ex.foldcs, ← Va.pv.eq_1]
    (repeat (first | refine aSeq fun X hX => ?_ | refine aBlk ?_ | refine aSkip ?_ | (first | refine aExit ?_ | refine aRet ?_); try simp only [slx, ↓reduceIte, Nat.reduceEqDiff, reduceCtorEq] | (first | refine aReg ?_ | refine aDrE ?_ | refine aIf ?_); simp -implicitDefEqProofs only [forall_eq, ↓slp, slb, ↓reduceIte, reduceCtorEq, jA, jB, jC, jD, jE, jF, jG, jH, jI, jJ, jK, tfObMk2, hk', hA, c0, hw, Int.reduceBEq, decide_true, decide_false]; try simp only [Ex.fold, Ex.foldcs, ← Va.pv.eq_1] | refine hX _ _ ?_; clear hX X | clear hX X; refine hX _ _ ?_; clear hX X | clear hX X; clear hX X; refine hX _ _ ?_; clear hX X | intro hlen; unfold maxLen at hlen | apply And.intro; focus (first | omega | assumption | (repeat' apply And.intro) <;> first | omega | assumption)))
    refine callM (nextO_any p _ (hok.ext _) (nxi p.l i)) ?_
    rintro v m' ⟨rfl, rfl⟩
    obtain ⟨ht, htl⟩ := nm_eq hok (nxi p.l i) 14 (by omega)
    have ht4 : (nx p.l (nxi p.l i)).tmod 14 = (nm p.l (nxi p.l i) 14 : Int) := ht
    have he : exF p.l (d + 1) i = (.mk 7 (3 + (nm p.l (nxi p.l i) 14 : Nat)) 0 sZ [] [(exF p.l d (nxi p.l (nxi p.l i))).1, (exF p.l d (exF p.l d (nxi p.l (nxi p.l i))).2).1] 0 0, (exF p.l d (exF p.l d (nxi p.l (nxi p.l i))).2).2) := by rw [exF, hk]; rfl
    generalize nm p.l (nxi p.l i) 14 = t at ht4 htl he
    have w1 : IntKind.u8.wrap (t : Int) = t := IntWalk.u8_in _ (by omega)
    have w2 : IntKind.u8.wrap (3 + (t : Int)) = 3 + t := IntWalk.u8_in _ (by omega)
    simp -implicitDefEqProofs only [↓slp, slb, ↓reduceIte, reduceCtorEq, jA, jB, jC, jD, jE, jF, jG, jH, jI, jJ, jK, tfObMk2, hA, ht4, w1, w2, hw]; try simp only [Ex.fold, Ex.foldcs, ← Va.pv.eq_1]
    (repeat (first | refine aSeq fun X hX => ?_ | refine aBlk ?_ | refine aSkip ?_ | (first | refine aExit ?_ | refine aRet ?_); try simp only [slx, ↓reduceIte, Nat.reduceEqDiff, reduceCtorEq] | (first | refine aReg ?_ | refine aDrE ?_ | refine aIf ?_); simp -implicitDefEqProofs only [forall_eq, ↓slp, slb, ↓reduceIte, reduceCtorEq, jA, jB, jC, jD, jE, jF, jG, jH, jI, jJ, jK, tfObMk2, hA, ht4, w1, w2, hw]; try simp only [Ex.fold, Ex.foldcs, ← Va.pv.eq_1] | refine hX _ _ ?_; clear hX X | clear hX X; refine hX _ _ ?_; clear hX X | clear hX X; clear hX X; refine hX _ _ ?_; clear hX X | intro hlen; unfold maxLen at hlen | apply And.intro; focus (first | omega | assumption | (repeat' apply And.intro) <;> first | omega | assumption)))
    refine callM (E p _ (hok.ext _) _) ?_
    rintro v m' ⟨rfl, rfl⟩
    generalize exF p.l d (nxi p.l (nxi p.l i)) = a at he ⊢
    simp -implicitDefEqProofs only [↓slp, slb, ↓reduceIte, reduceCtorEq, jA, jB, jC, jD, jE, jF, jG, jH, jI, jJ, jK, tfObMk2, hA, hw]; try simp only [Ex.fold, Ex.foldcs, ← Va.pv.eq_1]
    (repeat (first | refine aSeq fun X hX => ?_ | refine aBlk ?_ | refine aSkip ?_ | (first | refine aExit ?_ | refine aRet ?_); try simp only [slx, ↓reduceIte, Nat.reduceEqDiff, reduceCtorEq] | (first | refine aReg ?_ | refine aIf ?_); simp -implicitDefEqProofs only [forall_eq, ↓slp, slb, ↓reduceIte, reduceCtorEq, jA, jB, jC, jD, jE, jF, jG, jH, jI, jJ, jK, tfObMk2, hA, hw]; try simp only [Ex.fold, Ex.foldcs, ← Va.pv.eq_1] | refine hX _ _ ?_; clear hX X | clear hX X; refine hX _ _ ?_; clear hX X | clear hX X; clear hX X; refine hX _ _ ?_; clear hX X | intro hlen; unfold maxLen at hlen | apply And.intro; focus (first | omega | assumption | (repeat' apply And.intro) <;> first | omega | assumption)))
    refine aDrw (fun _ => True) (by kernel_rfl) trivial ?_
    simp -implicitDefEqProofs only [↓slp, slb, ↓reduceIte, reduceCtorEq, jA, jB, jC, jD, jE, jF, jG, jH, jI, jJ, jK, tfObMk2, hA, hw]; try simp only [Ex.fold, Ex.foldcs, ← Va.pv.eq_1]
    refine callM (E p _ (hok.ext _) _) ?_
    rintro v m' ⟨rfl, rfl⟩
    generalize exF p.l d a.2 = b at he ⊢
    refine ⟨trivial, ?_⟩
    simp -implicitDefEqProofs only [↓slp, slb, ↓reduceIte, reduceCtorEq, jA, jB, jC, jD, jE, jF, jG, jH, jI, jJ, jK, tfObMk2, hA]; try simp only [Ex.fold, Ex.foldcs, ← Va.pv.eq_1]
    (repeat (first | refine aSeq fun X hX => ?_ | refine aBlk ?_ | refine aSkip ?_ | (first | refine aExit ?_ | refine aRet ?_); try simp only [slx, ↓reduceIte, Nat.reduceEqDiff, reduceCtorEq] | (first | refine aReg ?_ | refine aDrE ?_ | refine aIf ?_); simp -implicitDefEqProofs only [forall_eq, ↓slp, slb, ↓reduceIte, reduceCtorEq, jA, jB, jC, jD, jE, jF, jG, jH, jI, jJ, jK, tfObMk2, hA]; try simp only [Ex.fold, Ex.foldcs, ← Va.pv.eq_1] | refine hX _ _ ?_; clear hX X | clear hX X; refine hX _ _ ?_; clear hX X | clear hX X; clear hX X; refine hX _ _ ?_; clear hX X | intro hlen; unfold maxLen at hlen | apply And.intro; focus (first | omega | assumption | (repeat' apply And.intro) <;> first | omega | assumption)))
    simp only [aPost, Try.results34, aRes_n, aRes_t, aRes_c, pack_one, pack_two]
    simp -implicitDefEqProofs only [↓slp, slb, ↓reduceIte, reduceCtorEq, jA, jB, jC, jD, jE, jF, jG, jH, jI, jJ, jK, tfObMk2, hA]; try simp only [Ex.fold, Ex.foldcs, ← Va.pv.eq_1]
    exact leave_cst hok (.refl m) (by simp only [Ex.foldcs, Ex.fold, PV.settle, PV.settles, Ex.settle_pv]; rfl) ⟨by rw [he]; simp only [Ex.foldcs, Ex.fold, PV.settle, PV.settles, Ex.settle_pv]; rfl, by rw [he]⟩
  · have hk' : (nx p.l i).tmod 8 = 7 := by rw [k8', hk]; rfl
    simp -implicitDefEqProofs only [↓slp, slb, ↓reduceIte, reduceCtorEq, jA, jB, jC, jD, jE, jF, jG, jH, jI, jJ, jK, tfObMk2, hk', hA, c0, hw, Int.reduceBEq, decide_true, decide_false]; try simp only [Ex.fold, Ex.foldcs, ← Va.pv.eq_1]
    (repeat (first | refine aSeq fun X hX => ?_ | refine aBlk ?_ | refine aSkip ?_ | (first | refine aExit ?_ | refine aRet ?_); try simp only [slx, ↓reduceIte, Nat.reduceEqDiff, reduceCtorEq] | (first | refine aReg ?_ | refine aDrE ?_ | refine aIf ?_); simp -implicitDefEqProofs only [forall_eq, ↓slp, slb, ↓reduceIte, reduceCtorEq, jA, jB, jC, jD, jE, jF, jG, jH, jI, jJ, jK, tfObMk2, hk', hA, c0, hw, Int.reduceBEq, decide_true, decide_false]; try simp only [Ex.fold, Ex.foldcs, ← Va.pv.eq_1] | refine hX _ _ ?_; clear hX X | clear hX X; refine hX _ _ ?_; clear hX X | clear hX X; clear hX X; refine hX _ _ ?_; clear hX X | intro hlen; unfold maxLen at hlen | apply And.intro; focus (first | omega | assumption | (repeat' apply And.intro) <;> first | omega | assumption)))
    refine callM (nextO_any p _ (hok.ext _) (nxi p.l i)) ?_
    rintro v m' ⟨rfl, rfl⟩
    obtain ⟨ht, htl⟩ := nm_eq hok (nxi p.l i) 14 (by omega)
    have ht4 : (nx p.l (nxi p.l i)).tmod 14 = (nm p.l (nxi p.l i) 14 : Int) := ht
    have he : exF p.l (d + 1) i = (.mk 7 (3 + (nm p.l (nxi p.l i) 14 : Nat)) 0 sZ [] [(exF p.l d (nxi p.l (nxi p.l i))).1, (exF p.l d (exF p.l d (nxi p.l (nxi p.l i))).2).1] 0 0, (exF p.l d (exF p.l d (nxi p.l (nxi p.l i))).2).2) := by rw [exF, hk]; rfl
    generalize nm p.l (nxi p.l i) 14 = t at ht4 htl he
    have w1 : IntKind.u8.wrap (t : Int) = t := IntWalk.u8_in _ (by omega)
    have w2 : IntKind.u8.wrap (3 + (t : Int)) = 3 + t := IntWalk.u8_in _ (by omega)
    simp -implicitDefEqProofs only [↓slp, slb, ↓reduceIte, reduceCtorEq, jA, jB, jC, jD, jE, jF, jG, jH, jI, jJ, jK, tfObMk2, hA, ht4, w1, w2, hw]; try simp only [Ex.fold, Ex.foldcs, ← Va.pv.eq_1]
    (repeat (first | refine aSeq fun X hX => ?_ | refine aBlk ?_ | refine aSkip ?_ | (first | refine aExit ?_ | refine aRet ?_); try simp only [slx, ↓reduceIte, Nat.reduceEqDiff, reduceCtorEq] | (first | refine aReg ?_ | refine aDrE ?_ | refine aIf ?_); simp -implicitDefEqProofs only [forall_eq, ↓slp, slb, ↓reduceIte, reduceCtorEq, jA, jB, jC, jD, jE, jF, jG, jH, jI, jJ, jK, tfObMk2, hA, ht4, w1, w2, hw]; try simp only [Ex.fold, Ex.foldcs, ← Va.pv.eq_1] | refine hX _ _ ?_; clear hX X | clear hX X; refine hX _ _ ?_; clear hX X | clear hX X; clear hX X; refine hX _ _ ?_; clear hX X | intro hlen; unfold maxLen at hlen | apply And.intro; focus (first | omega | assumption | (repeat' apply And.intro) <;> first | omega | assumption)))
    refine callM (E p _ (hok.ext _) _) ?_
    rintro v m' ⟨rfl, rfl⟩
    generalize exF p.l d (nxi p.l (nxi p.l i)) = a at he ⊢
    simp -implicitDefEqProofs only [↓slp, slb, ↓reduceIte, reduceCtorEq, jA, jB, jC, jD, jE, jF, jG, jH, jI, jJ, jK, tfObMk2, hA, hw]; try simp only [Ex.fold, Ex.foldcs, ← Va.pv.eq_1]
    (repeat (first | refine aSeq fun X hX => ?_ | refine aBlk ?_ | refine aSkip ?_ | (first | refine aExit ?_ | refine aRet ?_); try simp only [slx, ↓reduceIte, Nat.reduceEqDiff, reduceCtorEq] | (first | refine aReg ?_ | refine aIf ?_); simp -implicitDefEqProofs only [forall_eq, ↓slp, slb, ↓reduceIte, reduceCtorEq, jA, jB, jC, jD, jE, jF, jG, jH, jI, jJ, jK, tfObMk2, hA, hw]; try simp only [Ex.fold, Ex.foldcs, ← Va.pv.eq_1] | refine hX _ _ ?_; clear hX X | clear hX X; refine hX _ _ ?_; clear hX X | clear hX X; clear hX X; refine hX _ _ ?_; clear hX X | intro hlen; unfold maxLen at hlen | apply And.intro; focus (first | omega | assumption | (repeat' apply And.intro) <;> first | omega | assumption)))
    refine aDrw (fun _ => True) (by kernel_rfl) trivial ?_
    simp -implicitDefEqProofs only [↓slp, slb, ↓reduceIte, reduceCtorEq, jA, jB, jC, jD, jE, jF, jG, jH, jI, jJ, jK, tfObMk2, hA, hw]; try simp only [Ex.fold, Ex.foldcs, ← Va.pv.eq_1]
    refine callM (E p _ (hok.ext _) _) ?_
    rintro v m' ⟨rfl, rfl⟩
    generalize exF p.l d a.2 = b at he ⊢
    refine ⟨trivial, ?_⟩
    simp -implicitDefEqProofs only [↓slp, slb, ↓reduceIte, reduceCtorEq, jA, jB, jC, jD, jE, jF, jG, jH, jI, jJ, jK, tfObMk2, hA]; try simp only [Ex.fold, Ex.foldcs, ← Va.pv.eq_1]
    (repeat (first | refine aSeq fun X hX => ?_ | refine aBlk ?_ | refine aSkip ?_ | (first | refine aExit ?_ | refine aRet ?_); try simp only [slx, ↓reduceIte, Nat.reduceEqDiff, reduceCtorEq] | (first | refine aReg ?_ | refine aDrE ?_ | refine aIf ?_); simp -implicitDefEqProofs only [forall_eq, ↓slp, slb, ↓reduceIte, reduceCtorEq, jA, jB, jC, jD, jE, jF, jG, jH, jI, jJ, jK, tfObMk2, hA]; try simp only [Ex.fold, Ex.foldcs, ← Va.pv.eq_1] | refine hX _ _ ?_; clear hX X | clear hX X; refine hX _ _ ?_; clear hX X | clear hX X; clear hX X; refine hX _ _ ?_; clear hX X | intro hlen; unfold maxLen at hlen | apply And.intro; focus (first | omega | assumption | (repeat' apply And.intro) <;> first | omega | assumption)))
    simp only [aPost, Try.results34, aRes_n, aRes_t, aRes_c, pack_one, pack_two]
    simp -implicitDefEqProofs only [↓slp, slb, ↓reduceIte, reduceCtorEq, jA, jB, jC, jD, jE, jF, jG, jH, jI, jJ, jK, tfObMk2, hA]; try simp only [Ex.fold, Ex.foldcs, ← Va.pv.eq_1]
    exact leave_cst hok (.refl m) (by simp only [Ex.foldcs, Ex.fold, PV.settle, PV.settles, Ex.settle_pv]; rfl) ⟨by rw [he]; simp only [Ex.foldcs, Ex.fold, PV.settle, PV.settles, Ex.settle_pv]; rfl, by rw [he]⟩
theorem expr_any : ∀ d, d ≤ 1000 → EC d
  | 0, _ => expr0_any
  | d + 1, h => exprS_any d (by omega) (expr_any d (by omega))
end Go.Proofs.Ytmcajiccepgagaa

/-
  The maker of obc's statements.
-/
set_option linter.unusedVariables false
set_option linter.unusedSimpArgs false
namespace Go.Proofs.Ytmcajiccepgagaa
open Nat renaming reduceEqDiff → jA, reduceAdd → jB, reduceMul → jC, reduceLT → jD, reduceLeDiff → jE, reduceBEq → jF, reduceBNe → jG
open Int renaming reduceLE → jH, reduceLT → jI, reduceToNat → jJ, reduceEq → jK
open Go
-- EXX: cst_nb, cst_nt, cst_fresh, cst_use, cst_free, cst_alive, cst_a, cst_upda, cst_ext, cst_ext2, cst_ea, cst_own, cst_own0, cst_ou, cst_ou0, CP.at, OS.settle_pv, OS.pure_pv, OS.cells_pv, OS.cs
set_option maxRecDepth 20000
-- TNAMES: int; uint8; int32; string; bool; []uint8; *int; []api.Expr; api.Expr; []string; obc.Stmt; []obc.Stmt
set_option linter.defProp false
def tfObMk3 := And.intro @tfA (And.intro @Ex.settle_pv (And.intro @Ex.pure_pv (And.intro @Ex.cells_pv (And.intro @Ex.cs.eq_1 (And.intro @On.pv.eq_1 (And.intro @Ty.pv.eq_1 (And.intro @Va.settle_pv (And.intro @Va.pure_pv (And.intro @Va.cells_pv (And.intro @Va.cs.eq_1 (And.intro @cst_nb (And.intro @cst_nt (And.intro @cst_fresh (And.intro @cst_use (And.intro @cst_free (And.intro @cst_alive (And.intro @cst_a (And.intro @cst_upda (And.intro @cst_ext (And.intro @cst_ext2 (And.intro @cst_ea (And.intro @cst_own (And.intro @cst_own0 (And.intro @cst_ou (And.intro @cst_ou0 (And.intro @CP.at.eq_1 (And.intro @OS.settle_pv (And.intro @OS.pure_pv (And.intro @OS.cells_pv @OS.cs.eq_1)))))))))))))))))))))))))))))

/-- One statement. -/
def stF (B : Nat → List OS × Nat) (z : Bool) (l : List Int) (i : Nat) : OS × Nat :=
  if nm l (exF l 2 i).2 6 < 3 then (.mk 1 (nmV (nm l (nxi l (exF l 2 i).2) 4)) (exF l 2 i).1 [] [], nxi l (nxi l (exF l 2 i).2))
  else if nm l (exF l 2 i).2 6 < 4 ∨ z = true then (.mk 2 (nmM (nm l (nxi l (exF l 2 i).2) 3)) (exF l 2 i).1 [] [], nxi l (nxi l (exF l 2 i).2))
  else if nm l (exF l 2 i).2 6 = 5 then (.mk 3 sZ (exF l 2 i).1 (B (nxi l (exF l 2 i).2)).1 (B (B (nxi l (exF l 2 i).2)).2).1, (B (B (nxi l (exF l 2 i).2)).2).2)
  else (.mk 3 sZ (exF l 2 i).1 (B (nxi l (exF l 2 i).2)).1 [], (B (nxi l (exF l 2 i).2)).2)
def loF (st : Nat → OS × Nat) : Nat → Nat → List OS × Nat
  | 0, i => ([], i)
  | n + 1, i => ((st i).1 :: (loF st n (st i).2).1, (loF st n (st i).2).2)
mutual
def sB (l : List Int) : Nat → Nat → OS × Nat
  | 0 => stF (fun i => ([], i)) true l
  | d + 1 => stF (bdF l d) false l
def bdF (l : List Int) : Nat → Nat → List OS × Nat
  | d => fun i => loF (sB l d) (nm l i 3 + 1) (nxi l i)
end
theorem bdF_eq (l : List Int) (d i : Nat) : bdF l d i = loF (sB l d) (nm l i 3 + 1) (nxi l i) := by rw [bdF]
theorem sB_0 (l : List Int) : sB l 0 = stF (fun i => ([], i)) true l := by rw [sB]
theorem sB_s (l : List Int) (d : Nat) : sB l (d + 1) = stF (bdF l d) false l := by rw [sB]
/-- What build promises at a depth. -/
def BC (d : Nat) : Prop := ∀ (p : CP) (m : M), p.ok m → ∀ (i : Nat), ACalls Try.prog 16 [.sl .no (p.l.map pU), .bp p.a 0, .v (.int .i64 (d : Int))] (cst p m i) (fun v m' => v = .sl .no ((bdF p.l d i).1.map OS.pv) ∧ m' = cst p m (bdF p.l d i).2)
/-- What came in stands. -/
structure BaseR (m mb : M) : Prop where
  nb : m.nb ≤ mb.nb
  nt : m.nt ≤ mb.nt
  boxes : mb.boxes.take m.nb = m.boxes
  toks : mb.toks.take m.nt = m.toks
theorem BaseR.refl (m : M) : BaseR m m := ⟨Nat.le_refl _, Nat.le_refl _, List.take_length, List.take_length⟩
theorem BaseR.ext {m mb : M} (h : BaseR m mb) (bs : List (Option (List PV))) : BaseR m (mb.ext bs) :=
  ⟨by rw [ext_nb]; exact Nat.le_trans h.nb (Nat.le_add_right _ _), h.nt, by show (mb.boxes ++ bs).take m.nb = _; rw [List.take_append_of_le_length (by exact h.nb)]; exact h.boxes, h.toks⟩
theorem BaseR.fresh {m mb : M} {o : Own} {s s' : Nat} (h : BaseR m mb) (g : Mine m mb o s') : BaseR m ((o.use mb).fresh s) := by
  have hl := use_len o mb
  refine ⟨?_, ?_, ?_, ?_⟩
  · show m.nb ≤ (o.use mb).boxes.length
    rw [use_boxes]; exact h.nb
  · show m.nt ≤ ((o.use mb).toks ++ [some s]).length
    have := h.nt
    simp [hl]; omega
  · show (o.use mb).boxes.take m.nb = _
    rw [use_boxes]; exact h.boxes
  · show ((o.use mb).toks ++ [some s]).take m.nt = m.toks
    rw [List.take_append_of_le_length (by rw [hl]; exact h.nt)]
    rcases g with rfl | ⟨t, rfl, ht, _⟩
    · exact h.toks
    · show (mb.toks.set t none).take m.nt = _
      rw [List.take_set_of_le ht, h.toks]
theorem Mine.ext {m mb : M} {o : Own} {s : Nat} (g : Mine m mb o s) (bs : List (Option (List PV))) : Mine m (mb.ext bs) o s := by
  rcases g with rfl | ⟨t, rfl, ht, ha⟩
  · exact .inl rfl
  · exact .inr ⟨t, rfl, ht, ha⟩
theorem Mine.newB {m mb : M} (h : BaseR m mb) (o : Own) (s : Nat) : Mine m ((o.use mb).fresh s) (.tok mb.nt) s := by
  refine .inr ⟨_, rfl, h.nt, ?_⟩
  show ((o.use mb).toks ++ [some s])[mb.nt]? = some (some s)
  rw [← use_len o mb]; simp
theorem CP.ok.base {p : CP} {m mb : M} (h : p.ok m) (hb : BaseR m mb) : p.ok mb := ⟨Nat.lt_of_lt_of_le h.a hb.nb, h.len, h.el⟩
theorem leave_cstB {p : CP} {m mb : M} {i i' : Nat} {v : PV} {R : PV → M → Prop} (hok : p.ok m) (hb : BaseR m mb) (hv : v.settle.pure = true) (hR : R v.settle (cst p m i')) : ∃ v' m', Leave (cst p m i) (cst p mb i') v v' m' ∧ R v' m' := by
  have e : mb = (⟨m.boxes, mb.toks⟩ : M).ext (mb.boxes.drop m.nb) := by
    have : m.boxes ++ mb.boxes.drop m.nb = mb.boxes := by rw [← hb.boxes]; simp
    cases mb
    simp only [M.ext] at this ⊢
    rw [this]
  rw [e]
  exact leave_cst hok ⟨hb.nt, hb.toks, rfl⟩ hv hR
set_option maxHeartbeats 16000000 in
theorem build_run (d : Nat) (hd : d < 1000) (B : ∀ d', d = d' + 1 → BC d') : BC d := by
  intro p m hok i
  have hA := hok.a
  obtain ⟨hn00, hn3⟩ := nm_eq hok i 3 (by omega)
  obtain ⟨W, hWe⟩ : ∃ W, bdF p.l d i = W := ⟨_, rfl⟩
  have hW := bdF_eq p.l d i
  rw [hWe] at hW
  generalize nm p.l i 3 = n0 at hn00 hn3 hW
  have hn0 : (nx p.l i).tmod 3 = (n0 : Int) := hn00
  have w1 : IntKind.i64.wrap (1 + (n0 : Int)) = ((n0 + 1 : Nat) : Int) := by rw [wrap64 (by omega)]; omega
  refine ACalls.enter (mu := [12]) ok_mix Try.func16 rfl (by kernel_rfl) (by kernel_rfl) (by simp only [List.length_cons, List.length_nil, Try.ntmps16]; omega) ?_
  (repeat (first | refine aSeq fun X hX => ?_ | refine aBlk ?_ | refine aSkip ?_ | (first | refine aExit ?_ | refine aRet ?_); try simp only [slx, ↓reduceIte, Nat.reduceEqDiff, reduceCtorEq] | (first | refine aReg ?_ | refine aDrE ?_ | refine aIf ?_); simp -implicitDefEqProofs only [forall_eq, ↓slp, slb, ↓reduceIte, reduceCtorEq, jA, jB, jC, jD, jE, jF, jG, jH, jI, jJ, jK, tfObMk3, hA]; try simp only [Ex.fold, Ex.foldcs, ← Va.pv.eq_1] | refine hX _ _ ?_; clear hX X | clear hX X; refine hX _ _ ?_; clear hX X | clear hX X; clear hX X; refine hX _ _ ?_; clear hX X | intro hlen; unfold maxLen at hlen | apply And.intro; focus (first | omega | assumption | (repeat' apply And.intro) <;> first | omega | assumption)))
  refine callM (nextO_any p m hok i) ?_
  rintro v m' ⟨rfl, rfl⟩
  generalize nxi p.l i = i0 at hW ⊢
  simp -implicitDefEqProofs only [↓slp, slb, ↓reduceIte, reduceCtorEq, jA, jB, jC, jD, jE, jF, jG, jH, jI, jJ, jK, tfObMk3, hA, hn0, w1]; try simp only [Ex.fold, Ex.foldcs, ← Va.pv.eq_1]
  (repeat (first | refine aSeq fun X hX => ?_ | refine aBlk ?_ | refine aSkip ?_ | (first | refine aExit ?_ | refine aRet ?_); try simp only [slx, ↓reduceIte, Nat.reduceEqDiff, reduceCtorEq] | (first | refine aReg ?_ | refine aIf ?_); simp -implicitDefEqProofs only [forall_eq, ↓slp, slb, ↓reduceIte, reduceCtorEq, jA, jB, jC, jD, jE, jF, jG, jH, jI, jJ, jK, tfObMk3, hA, hn0, w1]; try simp only [Ex.fold, Ex.foldcs, ← Va.pv.eq_1] | refine hX _ _ ?_; clear hX X | clear hX X; refine hX _ _ ?_; clear hX X | clear hX X; clear hX X; refine hX _ _ ?_; clear hX X | intro hlen; unfold maxLen at hlen | apply And.intro; focus (first | omega | assumption | (repeat' apply And.intro) <;> first | omega | assumption)))
  obtain ⟨I, hI⟩ : ∃ I : F → M → Prop, ∀ f m', I f m' = (∃ (q j : Nat) (S : List OS) (o : Own) (mb : M), q ≤ n0 + 1 ∧ S.length = q ∧ (W.1 = S ++ (loF (sB p.l d) (n0 + 1 - q) j).1 ∧ W.2 = (loF (sB p.l d) (n0 + 1 - q) j).2) ∧ f 0 = .sl .no (p.l.map pU) ∧ f 1 = .bp p.a 0 ∧ f 2 = .v (.int .i64 d) ∧ f 7 = .sl o (S.map OS.pv) ∧ f 8 = .v (.int .i64 ((n0 + 1 : Nat) : Int)) ∧ f 9 = .v (.int .i64 q) ∧ m' = cst p mb j ∧ BaseR m mb ∧ Mine m mb o 14) := ⟨_, fun _ _ => rfl⟩
  refine aLoop I (fun f m => n0 + 1 - numOf (f 9)) ?_ ?_
  · rw [hI]; exact ⟨0, i0, [], .full, m, by omega, rfl, ⟨by rw [hW]; rfl, by rw [hW]; rfl⟩, rfl, rfl, rfl, rfl, rfl, rfl, rfl, .refl m, .full⟩
  intro f m1 hrel
  rw [hI] at hrel
  obtain ⟨q, j, S, o, mb, hq, hSl, hSm, f0, f1, f2, f7, f8, f9, rfl, hB, ho⟩ := hrel
  have hokb := hok.base hB
  have hAb := hokb.a
  cases c1 : decide ((q : Int) < ((n0 + 1 : Nat) : Int)) with
  | false =>
    have hq1 : n0 + 1 - q = 0 := by simp at c1; omega
    rw [hq1] at hSm
    obtain ⟨hS1, hS2⟩ := hSm
    rw [loF] at hS1 hS2
    rw [List.append_nil] at hS1
    (repeat (first | refine aSeq fun X hX => ?_ | refine aBlk ?_ | refine aSkip ?_ | (first | refine aExit ?_ | refine aRet ?_); try simp only [slx, ↓reduceIte, Nat.reduceEqDiff, reduceCtorEq] | (first | refine aReg ?_ | refine aDrE ?_ | refine aIf ?_); simp -implicitDefEqProofs only [forall_eq, ↓slp, slb, ↓reduceIte, reduceCtorEq, jA, jB, jC, jD, jE, jF, jG, jH, jI, jJ, jK, tfObMk3, f0, f1, f2, f7, f8, f9, c1]; try simp only [Ex.fold, Ex.foldcs, ← Va.pv.eq_1] | refine hX _ _ ?_; clear hX X | clear hX X; refine hX _ _ ?_; clear hX X | clear hX X; clear hX X; refine hX _ _ ?_; clear hX X | intro hlen; unfold maxLen at hlen | apply And.intro; focus (first | omega | assumption | (repeat' apply And.intro) <;> first | omega | assumption)))
    simp only [aPost, Try.results16, aRes_n, aRes_t, aRes_c, pack_one, pack_two]
    exact leave_cstB hok hB rfl ⟨by rw [hWe, hS1]; rfl, by rw [hWe, hS2]⟩
  | true =>
  have hlt : q < n0 + 1 := by simp at c1; omega
  have hqi : IntKind.i64.wrap ((q : Int) + 1) = ((q + 1 : Nat) : Int) := by rw [wrap64 (by omega)]; omega
  have hme : numOf (f 9) = q := by rw [f9]; exact Int.toNat_natCast q
  have hmeas : n0 + 1 - (q + 1) < n0 + 1 - numOf (f 9) := by omega
  have hfree : o.free mb 14 := ho.free
  rw [show n0 + 1 - q = (n0 + 1 - (q + 1)) + 1 by omega, loF] at hSm
  have fin : ∀ (j2 : Nat) (x : OS) (c : List (Option (List PV))), sB p.l d j = (x, j2) → ∀ g : F, g 0 = .sl .no (p.l.map pU) → g 1 = .bp p.a 0 → g 2 = .v (.int .i64 d) → g 7 = .sl (.tok mb.nt) (S.map OS.pv ++ [.ag x.cs]) → g 8 = .v (.int .i64 ((n0 + 1 : Nat) : Int)) → g 9 = .v (.int .i64 ((q + 1 : Nat) : Int)) → I g (cst p (((o.use mb).fresh 14).ext c) j2) := by
    intro j2 x c hx g g0 g1 g2 g7 g8 g9
    rw [hI]
    rw [hx] at hSm
    refine ⟨q + 1, j2, S ++ [x], .tok mb.nt, _, hlt, by simp [hSl], ⟨by rw [hSm.1]; simp, hSm.2⟩, g0, g1, g2, by rw [g7, List.map_append, List.map_cons, List.map_nil, OS.pv_eq], g8, g9, rfl, (hB.fresh ho).ext _, (Mine.newB hB o 14).ext _⟩
  have fin0 : ∀ (j2 : Nat) (x : OS), sB p.l d j = (x, j2) → ∀ g : F, g 0 = .sl .no (p.l.map pU) → g 1 = .bp p.a 0 → g 2 = .v (.int .i64 d) → g 7 = .sl (.tok mb.nt) (S.map OS.pv ++ [.ag x.cs]) → g 8 = .v (.int .i64 ((n0 + 1 : Nat) : Int)) → g 9 = .v (.int .i64 ((q + 1 : Nat) : Int)) → I g (cst p ((o.use mb).fresh 14) j2) := by
    intro j2 x hx g g0 g1 g2 g7 g8 g9
    have := fin j2 x [] hx g g0 g1 g2 g7 g8 g9
    rwa [show ((o.use mb).fresh 14).ext [] = (o.use mb).fresh 14 by simp [M.ext]] at this
  clear hSm
  (repeat (first | refine aSeq fun X hX => ?_ | refine aBlk ?_ | refine aSkip ?_ | (first | refine aExit ?_ | refine aRet ?_); try simp only [slx, ↓reduceIte, Nat.reduceEqDiff, reduceCtorEq] | (first | refine aReg ?_ | refine aDrE ?_); simp -implicitDefEqProofs only [forall_eq, ↓slp, slb, ↓reduceIte, reduceCtorEq, jA, jB, jC, jD, jE, jF, jG, jH, jI, jJ, jK, tfObMk3, f0, f1, f2, f7, f8, f9, c1, hAb]; try simp only [Ex.fold, Ex.foldcs, ← Va.pv.eq_1] | refine hX _ _ ?_; clear hX X | clear hX X; refine hX _ _ ?_; clear hX X | clear hX X; clear hX X; refine hX _ _ ?_; clear hX X | intro hlen; unfold maxLen at hlen | apply And.intro; focus (first | omega | assumption | (repeat' apply And.intro) <;> first | omega | assumption)))
  refine aIf ?_; simp -implicitDefEqProofs only [↓slp, slb, ↓reduceIte, reduceCtorEq, jA, jB, jC, jD, jE, jF, jG, jH, jI, jJ, jK]
  (repeat (first | refine aSeq fun X hX => ?_ | refine aBlk ?_ | refine aSkip ?_ | (first | refine aExit ?_ | refine aRet ?_); try simp only [slx, ↓reduceIte, Nat.reduceEqDiff, reduceCtorEq] | (first | refine aReg ?_ | refine aDrE ?_); simp -implicitDefEqProofs only [forall_eq, ↓slp, slb, ↓reduceIte, reduceCtorEq, jA, jB, jC, jD, jE, jF, jG, jH, jI, jJ, jK, tfObMk3, f0, f1, f2, f7, f8, f9, hAb]; try simp only [Ex.fold, Ex.foldcs, ← Va.pv.eq_1] | refine hX _ _ ?_; clear hX X | clear hX X; refine hX _ _ ?_; clear hX X | clear hX X; clear hX X; refine hX _ _ ?_; clear hX X | intro hlen; unfold maxLen at hlen | apply And.intro; focus (first | omega | assumption | (repeat' apply And.intro) <;> first | omega | assumption)))
  refine callM (expr_any 2 (by omega) p mb hokb j) ?_
  rintro v m' ⟨rfl, rfl⟩
  generalize hexF : exF p.l 2 j = e at fin fin0 ⊢
  simp -implicitDefEqProofs only [↓slp, slb, ↓reduceIte, reduceCtorEq, jA, jB, jC, jD, jE, jF, jG, jH, jI, jJ, jK, tfObMk3, f0, f1, f2, f7, f8, f9, hAb]; try simp only [Ex.fold, Ex.foldcs, ← Va.pv.eq_1]
  (repeat (first | refine aSeq fun X hX => ?_ | refine aBlk ?_ | refine aSkip ?_ | (first | refine aExit ?_ | refine aRet ?_); try simp only [slx, ↓reduceIte, Nat.reduceEqDiff, reduceCtorEq] | (first | refine aReg ?_ | refine aIf ?_); simp -implicitDefEqProofs only [forall_eq, ↓slp, slb, ↓reduceIte, reduceCtorEq, jA, jB, jC, jD, jE, jF, jG, jH, jI, jJ, jK, tfObMk3, f0, f1, f2, f7, f8, f9, hAb]; try simp only [Ex.fold, Ex.foldcs, ← Va.pv.eq_1] | refine hX _ _ ?_; clear hX X | clear hX X; refine hX _ _ ?_; clear hX X | clear hX X; clear hX X; refine hX _ _ ?_; clear hX X | intro hlen; unfold maxLen at hlen | apply And.intro; focus (first | omega | assumption | (repeat' apply And.intro) <;> first | omega | assumption)))
  obtain ⟨hk00, hkl⟩ := nm_eq hokb e.2 6 (by omega)
  generalize hnm : nm p.l e.2 6 = k at hk00 hkl
  have hk : (nx p.l e.2).tmod 6 = (k : Int) := hk00
  refine callM (nextO_any p _ (hokb) e.2) ?_
  rintro v m' ⟨rfl, rfl⟩
  generalize hj1 : nxi p.l e.2 = j1
  simp -implicitDefEqProofs only [↓slp, slb, ↓reduceIte, reduceCtorEq, jA, jB, jC, jD, jE, jF, jG, jH, jI, jJ, jK, tfObMk3, f0, f1, f2, f7, f8, f9, hAb, hk]; try simp only [Ex.fold, Ex.foldcs, ← Va.pv.eq_1]
  cases c3 : decide ((k : Int) < 3) with
  | true =>
    have h3 : k < 3 := by simp at c3; omega
    (repeat (first | refine aSeq fun X hX => ?_ | refine aBlk ?_ | refine aSkip ?_ | (first | refine aExit ?_ | refine aRet ?_); try simp only [slx, ↓reduceIte, Nat.reduceEqDiff, reduceCtorEq] | (first | refine aReg ?_ | refine aIf ?_); simp -implicitDefEqProofs only [forall_eq, ↓slp, slb, ↓reduceIte, reduceCtorEq, jA, jB, jC, jD, jE, jF, jG, jH, jI, jJ, jK, tfObMk3, f0, f1, f2, f7, f8, f9, hAb, c3]; try simp only [Ex.fold, Ex.foldcs, ← Va.pv.eq_1] | refine hX _ _ ?_; clear hX X | clear hX X; refine hX _ _ ?_; clear hX X | clear hX X; clear hX X; refine hX _ _ ?_; clear hX X | intro hlen; unfold maxLen at hlen | apply And.intro; focus (first | omega | assumption | (repeat' apply And.intro) <;> first | omega | assumption)))
    refine aDrw (fun _ => True) (by kernel_rfl) trivial ?_
    simp -implicitDefEqProofs only [↓slp, slb, ↓reduceIte, reduceCtorEq, jA, jB, jC, jD, jE, jF, jG, jH, jI, jJ, jK, tfObMk3, f0, f1, f2, f7, f8, f9, hAb]; try simp only [Ex.fold, Ex.foldcs, ← Va.pv.eq_1]
    refine callM (nextO_any p _ hokb j1) ?_
    rintro v m' ⟨rfl, rfl⟩
    refine ⟨trivial, ?_⟩
    obtain ⟨ht0, htl⟩ := nm_eq hokb j1 4 (by omega)
    have hx : sB p.l d j = (.mk 1 (nmV (nm p.l j1 4)) e.1 [] [], nxi p.l j1) := by
      have : ∀ (B : Nat → List OS × Nat) (z : Bool), stF B z p.l j = (.mk 1 (nmV (nm p.l j1 4)) e.1 [] [], nxi p.l j1) := fun B z => by
        unfold stF
        rw [hexF, hnm, hj1, if_pos h3]
      cases d with
      | zero => rw [sB_0]; exact this _ _
      | succ d => rw [sB_s]; exact this _ _
    have ht : (nx p.l j1).tmod 4 = (nm p.l j1 4 : Int) := ht0
    simp -implicitDefEqProofs only [↓slp, slb, ↓reduceIte, reduceCtorEq, jA, jB, jC, jD, jE, jF, jG, jH, jI, jJ, jK, tfObMk3, f0, f1, f2, f7, f8, f9, hAb, ht]; try simp only [Ex.fold, Ex.foldcs, ← Va.pv.eq_1]
    refine callE (letterO_any _ (by omega) _) ?_
    refine ⟨trivial, ?_⟩
    have hz : (strOf [((97 + nm p.l j1 4 : Nat) : Int)]).size = 1 := rfl
    have hz2 : (⟨#[118]⟩ : ByteArray).size = 1 := rfl
    simp -implicitDefEqProofs only [↓slp, slb, ↓reduceIte, reduceCtorEq, jA, jB, jC, jD, jE, jF, jG, jH, jI, jJ, jK, tfObMk3, f0, f1, f2, f7, f8, f9, hAb, pS]; try simp only [Ex.fold, Ex.foldcs, ← Va.pv.eq_1]
    refine ⟨by omega, ?_⟩
    refine callE (let_any _ e.1 _) ?_
    refine ⟨trivial, ?_⟩
    simp -implicitDefEqProofs only [↓slp, slb, ↓reduceIte, reduceCtorEq, jA, jB, jC, jD, jE, jF, jG, jH, jI, jJ, jK, tfObMk3, f0, f1, f2, f7, f8, f9, hAb, pS]; try simp only [Ex.fold, Ex.foldcs, ← Va.pv.eq_1]
    refine ⟨⟨hfree, fun y hy => by obtain ⟨z, _, rfl⟩ := List.mem_map.1 hy; rw [OS.cells_pv]; rfl, by unfold maxLen; omega, by omega⟩, ?_⟩
    (repeat (first | refine aSeq fun X hX => ?_ | refine aBlk ?_ | refine aSkip ?_ | (first | refine aExit ?_ | refine aRet ?_); try simp only [slx, ↓reduceIte, Nat.reduceEqDiff, reduceCtorEq] | (first | refine aReg ?_ | refine aDrE ?_ | refine aIf ?_); simp -implicitDefEqProofs only [forall_eq, ↓slp, slb, ↓reduceIte, reduceCtorEq, jA, jB, jC, jD, jE, jF, jG, jH, jI, jJ, jK, tfObMk3, f9, hqi, hAb]; try simp only [Ex.fold, Ex.foldcs, ← Va.pv.eq_1] | refine hX _ _ ?_; clear hX X | clear hX X; refine hX _ _ ?_; clear hX X | clear hX X; clear hX X; refine hX _ _ ?_; clear hX X | intro hlen; unfold maxLen at hlen | apply And.intro; focus (first | omega | assumption | (repeat' apply And.intro) <;> first | omega | assumption)))
    exact ⟨fin0 _ _ hx _ f0 f1 f2 (by first | rfl | (rw [OS.pv_eq]; rfl)) f8 rfl, by first | exact hmeas | omega⟩
  | false =>
  have h3 : ¬ k < 3 := by simp at c3; omega
  have hset : (k < 4 ∨ d = 0) → sB p.l d j = (.mk 2 (nmM (nm p.l j1 3)) e.1 [] [], nxi p.l j1) := by
    have : ∀ (B : Nat → List OS × Nat) (z : Bool), (k < 4 ∨ z = true) → stF B z p.l j = (.mk 2 (nmM (nm p.l j1 3)) e.1 [] [], nxi p.l j1) := fun B z hz => by
      unfold stF
      rw [hexF, hnm, hj1, if_neg h3, if_pos hz]
    intro hkd
    cases d with
    | zero => rw [sB_0]; exact this _ _ (.inr rfl)
    | succ d => rw [sB_s]; exact this _ _ (.inl (by omega))
  cases c4 : decide ((k : Int) < 4) with
  | true =>
    have hx := hset (.inl (by simp at c4; omega))
    (repeat (first | refine aSeq fun X hX => ?_ | refine aBlk ?_ | refine aSkip ?_ | (first | refine aExit ?_ | refine aRet ?_); try simp only [slx, ↓reduceIte, Nat.reduceEqDiff, reduceCtorEq] | (first | refine aReg ?_ | refine aIf ?_); simp -implicitDefEqProofs only [forall_eq, ↓slp, slb, ↓reduceIte, reduceCtorEq, jA, jB, jC, jD, jE, jF, jG, jH, jI, jJ, jK, tfObMk3, f0, f1, f2, f7, f8, f9, hAb, c3, c4]; try simp only [Ex.fold, Ex.foldcs, ← Va.pv.eq_1] | refine hX _ _ ?_; clear hX X | clear hX X; refine hX _ _ ?_; clear hX X | clear hX X; clear hX X; refine hX _ _ ?_; clear hX X | intro hlen; unfold maxLen at hlen | apply And.intro; focus (first | omega | assumption | (repeat' apply And.intro) <;> first | omega | assumption)))
    refine aDrw (fun _ => True) (by kernel_rfl) trivial ?_
    simp -implicitDefEqProofs only [↓slp, slb, ↓reduceIte, reduceCtorEq, jA, jB, jC, jD, jE, jF, jG, jH, jI, jJ, jK, tfObMk3, f0, f1, f2, f7, f8, f9, hAb]; try simp only [Ex.fold, Ex.foldcs, ← Va.pv.eq_1]
    refine callM (nextO_any p _ hokb j1) ?_
    rintro v m' ⟨rfl, rfl⟩
    refine ⟨trivial, ?_⟩
    obtain ⟨ht0, htl⟩ := nm_eq hokb j1 3 (by omega)
    have ht : (nx p.l j1).tmod 3 = (nm p.l j1 3 : Int) := ht0
    simp -implicitDefEqProofs only [↓slp, slb, ↓reduceIte, reduceCtorEq, jA, jB, jC, jD, jE, jF, jG, jH, jI, jJ, jK, tfObMk3, f0, f1, f2, f7, f8, f9, hAb, ht]; try simp only [Ex.fold, Ex.foldcs, ← Va.pv.eq_1]
    refine callE (letterO_any _ (by omega) _) ?_
    refine ⟨trivial, ?_⟩
    have hz : (strOf [((97 + nm p.l j1 3 : Nat) : Int)]).size = 1 := rfl
    have hz2 : (⟨#[109]⟩ : ByteArray).size = 1 := rfl
    simp -implicitDefEqProofs only [↓slp, slb, ↓reduceIte, reduceCtorEq, jA, jB, jC, jD, jE, jF, jG, jH, jI, jJ, jK, tfObMk3, f0, f1, f2, f7, f8, f9, hAb, pS]; try simp only [Ex.fold, Ex.foldcs, ← Va.pv.eq_1]
    refine ⟨by omega, ?_⟩
    refine ⟨⟨hfree, fun y hy => by obtain ⟨z, _, rfl⟩ := List.mem_map.1 hy; rw [OS.cells_pv]; rfl, by unfold maxLen; omega, by omega⟩, ?_⟩
    (repeat (first | refine aSeq fun X hX => ?_ | refine aBlk ?_ | refine aSkip ?_ | (first | refine aExit ?_ | refine aRet ?_); try simp only [slx, ↓reduceIte, Nat.reduceEqDiff, reduceCtorEq] | (first | refine aReg ?_ | refine aDrE ?_ | refine aIf ?_); simp -implicitDefEqProofs only [forall_eq, ↓slp, slb, ↓reduceIte, reduceCtorEq, jA, jB, jC, jD, jE, jF, jG, jH, jI, jJ, jK, tfObMk3, f9, hqi, hAb]; try simp only [Ex.fold, Ex.foldcs, ← Va.pv.eq_1] | refine hX _ _ ?_; clear hX X | clear hX X; refine hX _ _ ?_; clear hX X | clear hX X; clear hX X; refine hX _ _ ?_; clear hX X | intro hlen; unfold maxLen at hlen | apply And.intro; focus (first | omega | assumption | (repeat' apply And.intro) <;> first | omega | assumption)))
    exact ⟨fin0 _ _ hx _ f0 f1 f2 (by first | rfl | (rw [OS.pv_eq]; rfl)) f8 rfl, by first | exact hmeas | omega⟩
  | false =>
  have h4 : ¬ k < 4 := by simp at c4; omega
  cases cd : decide ((d : Int) ≤ 0) with
  | true =>
    have hx := hset (.inr (by simp at cd; omega))
    (repeat (first | refine aSeq fun X hX => ?_ | refine aBlk ?_ | refine aSkip ?_ | (first | refine aExit ?_ | refine aRet ?_); try simp only [slx, ↓reduceIte, Nat.reduceEqDiff, reduceCtorEq] | (first | refine aReg ?_ | refine aIf ?_); simp -implicitDefEqProofs only [forall_eq, ↓slp, slb, ↓reduceIte, reduceCtorEq, jA, jB, jC, jD, jE, jF, jG, jH, jI, jJ, jK, tfObMk3, f0, f1, f2, f7, f8, f9, hAb, c3, c4, cd]; try simp only [Ex.fold, Ex.foldcs, ← Va.pv.eq_1] | refine hX _ _ ?_; clear hX X | clear hX X; refine hX _ _ ?_; clear hX X | clear hX X; clear hX X; refine hX _ _ ?_; clear hX X | intro hlen; unfold maxLen at hlen | apply And.intro; focus (first | omega | assumption | (repeat' apply And.intro) <;> first | omega | assumption)))
    refine aDrw (fun _ => True) (by kernel_rfl) trivial ?_
    simp -implicitDefEqProofs only [↓slp, slb, ↓reduceIte, reduceCtorEq, jA, jB, jC, jD, jE, jF, jG, jH, jI, jJ, jK, tfObMk3, f0, f1, f2, f7, f8, f9, hAb]; try simp only [Ex.fold, Ex.foldcs, ← Va.pv.eq_1]
    refine callM (nextO_any p _ hokb j1) ?_
    rintro v m' ⟨rfl, rfl⟩
    refine ⟨trivial, ?_⟩
    obtain ⟨ht0, htl⟩ := nm_eq hokb j1 3 (by omega)
    have ht : (nx p.l j1).tmod 3 = (nm p.l j1 3 : Int) := ht0
    simp -implicitDefEqProofs only [↓slp, slb, ↓reduceIte, reduceCtorEq, jA, jB, jC, jD, jE, jF, jG, jH, jI, jJ, jK, tfObMk3, f0, f1, f2, f7, f8, f9, hAb, ht]; try simp only [Ex.fold, Ex.foldcs, ← Va.pv.eq_1]
    refine callE (letterO_any _ (by omega) _) ?_
    refine ⟨trivial, ?_⟩
    have hz : (strOf [((97 + nm p.l j1 3 : Nat) : Int)]).size = 1 := rfl
    have hz2 : (⟨#[109]⟩ : ByteArray).size = 1 := rfl
    simp -implicitDefEqProofs only [↓slp, slb, ↓reduceIte, reduceCtorEq, jA, jB, jC, jD, jE, jF, jG, jH, jI, jJ, jK, tfObMk3, f0, f1, f2, f7, f8, f9, hAb, pS]; try simp only [Ex.fold, Ex.foldcs, ← Va.pv.eq_1]
    refine ⟨by omega, ?_⟩
    refine ⟨⟨hfree, fun y hy => by obtain ⟨z, _, rfl⟩ := List.mem_map.1 hy; rw [OS.cells_pv]; rfl, by unfold maxLen; omega, by omega⟩, ?_⟩
    (repeat (first | refine aSeq fun X hX => ?_ | refine aBlk ?_ | refine aSkip ?_ | (first | refine aExit ?_ | refine aRet ?_); try simp only [slx, ↓reduceIte, Nat.reduceEqDiff, reduceCtorEq] | (first | refine aReg ?_ | refine aDrE ?_ | refine aIf ?_); simp -implicitDefEqProofs only [forall_eq, ↓slp, slb, ↓reduceIte, reduceCtorEq, jA, jB, jC, jD, jE, jF, jG, jH, jI, jJ, jK, tfObMk3, f9, hqi, hAb]; try simp only [Ex.fold, Ex.foldcs, ← Va.pv.eq_1] | refine hX _ _ ?_; clear hX X | clear hX X; refine hX _ _ ?_; clear hX X | clear hX X; clear hX X; refine hX _ _ ?_; clear hX X | intro hlen; unfold maxLen at hlen | apply And.intro; focus (first | omega | assumption | (repeat' apply And.intro) <;> first | omega | assumption)))
    exact ⟨fin0 _ _ hx _ f0 f1 f2 (by first | rfl | (rw [OS.pv_eq]; rfl)) f8 rfl, by first | exact hmeas | omega⟩
  | false =>
  obtain ⟨d', rfl⟩ : ∃ d', d = d' + 1 := ⟨d - 1, by simp at cd; omega⟩
  have B' := B d' rfl
  have hwd : IntKind.i64.wrap (((d' + 1 : Nat) : Int) - 1) = (d' : Int) := by rw [wrap64 (by omega)]; omega
  have hsb : sB p.l (d' + 1) j = if k = 5 then (.mk 3 sZ e.1 (bdF p.l d' j1).1 (bdF p.l d' (bdF p.l d' j1).2).1, (bdF p.l d' (bdF p.l d' j1).2).2) else (.mk 3 sZ e.1 (bdF p.l d' j1).1 [], (bdF p.l d' j1).2) := by
    rw [sB_s]
    unfold stF
    rw [hexF, hnm, hj1, if_neg h3, if_neg (by simp [h4])]
  (repeat (first | refine aSeq fun X hX => ?_ | refine aBlk ?_ | refine aSkip ?_ | (first | refine aExit ?_ | refine aRet ?_); try simp only [slx, ↓reduceIte, Nat.reduceEqDiff, reduceCtorEq] | (first | refine aReg ?_ | refine aDrE ?_ | refine aIf ?_); simp -implicitDefEqProofs only [forall_eq, ↓slp, slb, ↓reduceIte, reduceCtorEq, jA, jB, jC, jD, jE, jF, jG, jH, jI, jJ, jK, tfObMk3, f0, f1, f2, f7, f8, f9, hAb, c3, c4, cd, hwd]; try simp only [Ex.fold, Ex.foldcs, ← Va.pv.eq_1] | refine hX _ _ ?_; clear hX X | clear hX X; refine hX _ _ ?_; clear hX X | clear hX X; clear hX X; refine hX _ _ ?_; clear hX X | intro hlen; unfold maxLen at hlen | apply And.intro; focus (first | omega | assumption | (repeat' apply And.intro) <;> first | omega | assumption)))
  refine callM (B' p _ (hokb.ext _) j1) ?_
  rintro v m' ⟨rfl, rfl⟩
  generalize bdF p.l d' j1 = a at hsb ⊢
  have hk45 : k = 4 ∨ k = 5 := by omega
  rcases hk45 with rfl | rfl
  · have e4 : ((4 : Nat) : Int) = 4 := rfl
    have hx : sB p.l (d' + 1) j = (.mk 3 sZ e.1 a.1 [], a.2) := hsb
    simp -implicitDefEqProofs only [↓slp, slb, ↓reduceIte, reduceCtorEq, jA, jB, jC, jD, jE, jF, jG, jH, jI, jJ, jK, tfObMk3, f0, f1, f2, f7, f8, f9, hAb]; try simp only [Ex.fold, Ex.foldcs, ← Va.pv.eq_1]
    (repeat (first | refine aSeq fun X hX => ?_ | refine aBlk ?_ | refine aSkip ?_ | (first | refine aExit ?_ | refine aRet ?_); try simp only [slx, ↓reduceIte, Nat.reduceEqDiff, reduceCtorEq] | (first | refine aReg ?_ | refine aDrE ?_ | refine aIf ?_); simp -implicitDefEqProofs only [forall_eq, ↓slp, slb, ↓reduceIte, reduceCtorEq, jA, jB, jC, jD, jE, jF, jG, jH, jI, jJ, jK, tfObMk3, f0, f1, f2, f7, f8, f9, hAb, e4, Int.reduceBEq]; try simp only [Ex.fold, Ex.foldcs, ← Va.pv.eq_1] | refine hX _ _ ?_; clear hX X | clear hX X; refine hX _ _ ?_; clear hX X | clear hX X; clear hX X; refine hX _ _ ?_; clear hX X | intro hlen; unfold maxLen at hlen | apply And.intro; focus (first | omega | assumption | (repeat' apply And.intro) <;> first | omega | assumption)))
    refine ⟨⟨hfree, fun y hy => by obtain ⟨z, _, rfl⟩ := List.mem_map.1 hy; rw [OS.cells_pv]; rfl, by unfold maxLen; omega, by omega⟩, ?_⟩
    (repeat (first | refine aSeq fun X hX => ?_ | refine aBlk ?_ | refine aSkip ?_ | (first | refine aExit ?_ | refine aRet ?_); try simp only [slx, ↓reduceIte, Nat.reduceEqDiff, reduceCtorEq] | (first | refine aReg ?_ | refine aDrE ?_ | refine aIf ?_); simp -implicitDefEqProofs only [forall_eq, ↓slp, slb, ↓reduceIte, reduceCtorEq, jA, jB, jC, jD, jE, jF, jG, jH, jI, jJ, jK, tfObMk3, f9, hqi, hAb]; try simp only [Ex.fold, Ex.foldcs, ← Va.pv.eq_1] | refine hX _ _ ?_; clear hX X | clear hX X; refine hX _ _ ?_; clear hX X | clear hX X; clear hX X; refine hX _ _ ?_; clear hX X | intro hlen; unfold maxLen at hlen | apply And.intro; focus (first | omega | assumption | (repeat' apply And.intro) <;> first | omega | assumption)))
    exact ⟨fin _ _ _ hx _ f0 f1 f2 (by first | rfl | (rw [OS.pv_eq]; rfl)) f8 rfl, by first | exact hmeas | omega⟩
  · have e5 : ((5 : Nat) : Int) = 5 := rfl
    simp -implicitDefEqProofs only [↓slp, slb, ↓reduceIte, reduceCtorEq, jA, jB, jC, jD, jE, jF, jG, jH, jI, jJ, jK, tfObMk3, f0, f1, f2, f7, f8, f9, hAb]; try simp only [Ex.fold, Ex.foldcs, ← Va.pv.eq_1]
    (repeat (first | refine aSeq fun X hX => ?_ | refine aBlk ?_ | refine aSkip ?_ | (first | refine aExit ?_ | refine aRet ?_); try simp only [slx, ↓reduceIte, Nat.reduceEqDiff, reduceCtorEq] | (first | refine aReg ?_ | refine aDrE ?_ | refine aIf ?_); simp -implicitDefEqProofs only [forall_eq, ↓slp, slb, ↓reduceIte, reduceCtorEq, jA, jB, jC, jD, jE, jF, jG, jH, jI, jJ, jK, tfObMk3, f0, f1, f2, f7, f8, f9, hAb, e5, hwd, Int.reduceBEq]; try simp only [Ex.fold, Ex.foldcs, ← Va.pv.eq_1] | refine hX _ _ ?_; clear hX X | clear hX X; refine hX _ _ ?_; clear hX X | clear hX X; clear hX X; refine hX _ _ ?_; clear hX X | intro hlen; unfold maxLen at hlen | apply And.intro; focus (first | omega | assumption | (repeat' apply And.intro) <;> first | omega | assumption)))
    refine callM (B' p _ (hokb.ext _) _) ?_
    rintro v m' ⟨rfl, rfl⟩
    generalize bdF p.l d' a.2 = b at hsb ⊢
    have hx : sB p.l (d' + 1) j = (.mk 3 sZ e.1 a.1 b.1, b.2) := hsb
    simp -implicitDefEqProofs only [↓slp, slb, ↓reduceIte, reduceCtorEq, jA, jB, jC, jD, jE, jF, jG, jH, jI, jJ, jK, tfObMk3, f0, f1, f2, f7, f8, f9, hAb]; try simp only [Ex.fold, Ex.foldcs, ← Va.pv.eq_1]
    (repeat (first | refine aSeq fun X hX => ?_ | refine aBlk ?_ | refine aSkip ?_ | (first | refine aExit ?_ | refine aRet ?_); try simp only [slx, ↓reduceIte, Nat.reduceEqDiff, reduceCtorEq] | (first | refine aReg ?_ | refine aDrE ?_ | refine aIf ?_); simp -implicitDefEqProofs only [forall_eq, ↓slp, slb, ↓reduceIte, reduceCtorEq, jA, jB, jC, jD, jE, jF, jG, jH, jI, jJ, jK, tfObMk3, f0, f1, f2, f7, f8, f9, hAb]; try simp only [Ex.fold, Ex.foldcs, ← Va.pv.eq_1] | refine hX _ _ ?_; clear hX X | clear hX X; refine hX _ _ ?_; clear hX X | clear hX X; clear hX X; refine hX _ _ ?_; clear hX X | intro hlen; unfold maxLen at hlen | apply And.intro; focus (first | omega | assumption | (repeat' apply And.intro) <;> first | omega | assumption)))
    refine ⟨⟨hfree, fun y hy => by obtain ⟨z, _, rfl⟩ := List.mem_map.1 hy; rw [OS.cells_pv]; rfl, by unfold maxLen; omega, by omega⟩, ?_⟩
    (repeat (first | refine aSeq fun X hX => ?_ | refine aBlk ?_ | refine aSkip ?_ | (first | refine aExit ?_ | refine aRet ?_); try simp only [slx, ↓reduceIte, Nat.reduceEqDiff, reduceCtorEq] | (first | refine aReg ?_ | refine aDrE ?_ | refine aIf ?_); simp -implicitDefEqProofs only [forall_eq, ↓slp, slb, ↓reduceIte, reduceCtorEq, jA, jB, jC, jD, jE, jF, jG, jH, jI, jJ, jK, tfObMk3, f9, hqi, hAb]; try simp only [Ex.fold, Ex.foldcs, ← Va.pv.eq_1] | refine hX _ _ ?_; clear hX X | clear hX X; refine hX _ _ ?_; clear hX X | clear hX X; clear hX X; refine hX _ _ ?_; clear hX X | intro hlen; unfold maxLen at hlen | apply And.intro; focus (first | omega | assumption | (repeat' apply And.intro) <;> first | omega | assumption)))
    exact ⟨fin _ _ _ hx _ f0 f1 f2 (by first | rfl | (rw [OS.pv_eq]; rfl)) f8 rfl, by first | exact hmeas | omega⟩
theorem build_any : ∀ d, d < 1000 → BC d
  | 0, h => build_run 0 h (fun d' hd => by omega)
  | d + 1, h => build_run (d + 1) h (fun d' hd => by have : d' = d := by omega
                                                     subst this; exact build_any d' (by omega))
end Go.Proofs.Ytmcajiccepgagaa
