/-
  Enumerations: their places, and which stands first by its name.
-/
import Derived.Test.YteiaedmipkcfeaaDoorAbPr
import Derived.Test.YteiaedmipkcfeaaDoorAbCnt
import Derived.Test.YteiaedmipkcfeaaDoorAbFv
set_option linter.unusedVariables false
set_option linter.unusedSimpArgs false
namespace Go.Proofs.YteiaedmipkcfeaaDoor
open Nat renaming reduceEqDiff → jA, reduceAdd → jB, reduceMul → jC, reduceLT → jD, reduceLeDiff → jE, reduceBEq → jF, reduceBNe → jG
open Int renaming reduceLE → jH, reduceLT → jI, reduceToNat → jJ, reduceEq → jK
open Go
-- EXX: En.settle_pv, En.pure_pv, En.cells_pv, En.cs.eq_1, No.settle_pv, cnt_nb, cnt_nt, cnt_fresh, cnt_use, cnt_free, cnt_alive, cnt_a, cnt_upda, cnt_ext, cnt_ext2, cnt_ea, cnt_own, cnt_own0, cnt_ou, cnt_ou0
set_option maxRecDepth 20000
-- TNAMES: int; uint8; int32; string; bool; []string; *metronomeref04.counter; metronomeref04.counter; api.Pos; api.Node; []api.Node; api.Enum; []api.Enum; api.Program; func(api.Enum) bool
/-- A type of constructors. -/
structure En where
  name : Str
  ctors : List Str
  line : Int
  col : Int
namespace En
def cs (e : En) : List PV := [.v (.string e.name), .sl .no (e.ctors.map pS), .v (.int .i64 e.line), .v (.int .i64 e.col)]
def pv (e : En) : PV := .ag e.cs
end En
theorem En.cells_pv (v : En) : v.pv.cells = v.cs := rfl
theorem En.settle_pv (v : En) : v.pv.settle = v.pv := rfl
theorem En.pure_pv (v : En) : v.pv.pure = true := rfl
set_option linter.defProp false
def tfNeA := And.intro @tfA (And.intro @Ex.settle_pv (And.intro @Ex.pure_pv (And.intro @Ex.cells_pv (And.intro @Ex.cs.eq_1 (And.intro @On.pv.eq_1 (And.intro @Ty.pv.eq_1 (And.intro @Va.settle_pv (And.intro @Va.pure_pv (And.intro @Va.cells_pv (And.intro @Va.cs.eq_1 (And.intro @En.settle_pv (And.intro @En.pure_pv (And.intro @En.cells_pv (And.intro @En.cs.eq_1 (And.intro @No.settle_pv (And.intro @cnt_nb (And.intro @cnt_nt (And.intro @cnt_fresh (And.intro @cnt_use (And.intro @cnt_free (And.intro @cnt_alive (And.intro @cnt_a (And.intro @cnt_upda (And.intro @cnt_ext (And.intro @cnt_ext2 (And.intro @cnt_ea (And.intro @cnt_own (And.intro @cnt_own0 (And.intro @cnt_ou @cnt_ou0)))))))))))))))))))))))))))))

set_option maxRecDepth 20000 in
set_option maxHeartbeats 400000 in
theorem idxEnum_any (o : Own) (l : List En) (p : En → Bool) (g : FuncId) (c : PV) (m : M) (hf : ∀ k (hk : k < l.length) (m : M), ACalls Tryd.prog g [En.pv l[k], c] m (fun v m' => v = pB (p l[k]) ∧ m' = m)) :
    ACalls Tryd.prog 68 [.sl o (l.map (En.pv)), .fn (.func g) [] [c]] m (fun v m' => v = pI (idxF p l 0) ∧ m' = m) := by
  refine ACalls.enter (mu := []) ok_mix Tryd.func68 rfl (by kernel_rfl) (by kernel_rfl) (by simp only [List.length_cons, List.length_nil, Tryd.ntmps68]; omega) ?_
  (repeat (first | refine aSeq fun X hX => ?_ | refine aBlk ?_ | refine aSkip ?_ | (first | refine aExit ?_ | refine aRet ?_); try simp only [slx, ↓reduceIte, Nat.reduceEqDiff, reduceCtorEq] | (first | refine aReg ?_ | refine aDrE ?_); simp -implicitDefEqProofs only [forall_eq, ↓slp, slb, ↓reduceIte, reduceCtorEq, jA, jB, jC, jD, jE, jF, jG, jH, jI, jJ, jK, tfNeA]; try simp only [Ex.fold, Ex.foldcs, ← Va.pv.eq_1] | refine hX _ _ ?_; clear hX X | clear hX X; refine hX _ _ ?_; clear hX X | clear hX X; clear hX X; refine hX _ _ ?_; clear hX X | intro hlen; unfold maxLen at hlen | apply And.intro; focus (first | omega | assumption | (repeat' apply And.intro) <;> first | omega | assumption)))
  obtain ⟨I, hI⟩ : ∃ I : F → M → Prop, ∀ f m', I f m' = (∃ k : Nat, k ≤ l.length ∧ f 0 = .sl o (l.map (En.pv)) ∧ f 1 = .fn (.func g) [] [c] ∧ f 7 = pI l.length ∧ f 8 = pI k ∧ idxF p l 0 = idxF p (l.drop k) k ∧ m' = m) := ⟨_, fun _ _ => rfl⟩
  refine aLoop I (fun f m => l.length - numOf (f 8)) ?_ ?_
  · rw [hI]; exact ⟨0, by omega, rfl, rfl, rfl, rfl, rfl, rfl⟩
  intro f m' hrel
  rw [hI] at hrel
  obtain ⟨k, hk, h0, h1, h7, h8, hs, rfl⟩ := hrel
  (repeat (first | refine aSeq fun X hX => ?_ | refine aBlk ?_ | refine aSkip ?_ | (first | refine aExit ?_ | refine aRet ?_); try simp only [slx, ↓reduceIte, Nat.reduceEqDiff, reduceCtorEq] | (first | refine aReg ?_ | refine aDrE ?_); simp -implicitDefEqProofs only [forall_eq, ↓slp, slb, ↓reduceIte, reduceCtorEq, jA, jB, jC, jD, jE, jF, jG, jH, jI, jJ, jK, tfNeA, h0, h1, h7, h8, pI]; try simp only [Ex.fold, Ex.foldcs, ← Va.pv.eq_1] | refine hX _ _ ?_; clear hX X | clear hX X; refine hX _ _ ?_; clear hX X | clear hX X; clear hX X; refine hX _ _ ?_; clear hX X | intro hlen; unfold maxLen at hlen | apply And.intro; focus (first | omega | assumption | (repeat' apply And.intro) <;> first | omega | assumption)))
  refine aIf ?_; simp -implicitDefEqProofs only [↓slp, slb, ↓reduceIte, reduceCtorEq, jA, jB, jC, jD, jE, jF, jG, jH, jI, jJ, jK]; refine ⟨fun hb => ?_, fun hb => ?_⟩
  · have hlt : k < l.length := by simpa using hb
    have g0 := getD_map (En.pv) l k hlt
    have hi : IntKind.i64.wrap ((k : Int) + 1) = ((k + 1 : Nat) : Int) := by rw [wrap64 (by omega)]; omega
    have hd := idxF_drop (p := p) hlt
    (repeat (first | refine aSeq fun X hX => ?_ | refine aBlk ?_ | refine aSkip ?_ | (first | refine aExit ?_ | refine aRet ?_); try simp only [slx, ↓reduceIte, Nat.reduceEqDiff, reduceCtorEq] | (first | refine aReg ?_ | refine aDrE ?_); simp -implicitDefEqProofs only [forall_eq, ↓slp, slb, ↓reduceIte, reduceCtorEq, jA, jB, jC, jD, jE, jF, jG, jH, jI, jJ, jK, tfNeA, h0, h1, h7, h8, pI, g0]; try simp only [Ex.fold, Ex.foldcs, ← Va.pv.eq_1] | refine hX _ _ ?_; clear hX X | clear hX X; refine hX _ _ ?_; clear hX X | clear hX X; clear hX X; refine hX _ _ ?_; clear hX X | intro hlen; unfold maxLen at hlen | apply And.intro; focus (first | omega | assumption | (repeat' apply And.intro) <;> first | omega | assumption)))
    refine callE (hf k hlt _) ?_
    simp -implicitDefEqProofs only [↓slp, slb, ↓reduceIte, reduceCtorEq, jA, jB, jC, jD, jE, jF, jG, jH, jI, jJ, jK, tfNeA, h0, h1, h7, h8, pI, pB]; try simp only [Ex.fold, Ex.foldcs, ← Va.pv.eq_1]
    cases c1 : p l[k] with
    | true =>
      (repeat (first | refine aSeq fun X hX => ?_ | refine aBlk ?_ | refine aSkip ?_ | (first | refine aExit ?_ | refine aRet ?_); try simp only [slx, ↓reduceIte, Nat.reduceEqDiff, reduceCtorEq] | (first | refine aReg ?_ | refine aDrE ?_); simp -implicitDefEqProofs only [forall_eq, ↓slp, slb, ↓reduceIte, reduceCtorEq, jA, jB, jC, jD, jE, jF, jG, jH, jI, jJ, jK, tfNeA, h0, h1, h7, h8, pI, g0, c1]; try simp only [Ex.fold, Ex.foldcs, ← Va.pv.eq_1] | refine hX _ _ ?_; clear hX X | clear hX X; refine hX _ _ ?_; clear hX X | clear hX X; clear hX X; refine hX _ _ ?_; clear hX X | intro hlen; unfold maxLen at hlen | apply And.intro; focus (first | omega | assumption | (repeat' apply And.intro) <;> first | omega | assumption)))
      refine aIf ?_; simp -implicitDefEqProofs only [↓slp, slb, ↓reduceIte, reduceCtorEq, jA, jB, jC, jD, jE, jF, jG, jH, jI, jJ, jK, c1]
      (repeat (first | refine aSeq fun X hX => ?_ | refine aBlk ?_ | refine aSkip ?_ | (first | refine aExit ?_ | refine aRet ?_); try simp only [slx, ↓reduceIte, Nat.reduceEqDiff, reduceCtorEq] | (first | refine aReg ?_ | refine aDrE ?_); simp -implicitDefEqProofs only [forall_eq, ↓slp, slb, ↓reduceIte, reduceCtorEq, jA, jB, jC, jD, jE, jF, jG, jH, jI, jJ, jK, tfNeA]; try simp only [Ex.fold, Ex.foldcs, ← Va.pv.eq_1] | refine hX _ _ ?_; clear hX X | clear hX X; refine hX _ _ ?_; clear hX X | clear hX X; clear hX X; refine hX _ _ ?_; clear hX X | intro hlen; unfold maxLen at hlen | apply And.intro; focus (first | omega | assumption | (repeat' apply And.intro) <;> first | omega | assumption)))
      simp only [aPost, Tryd.results68, aRes_n, aRes_t, aRes_c, pack_one, pack_two]
      refine leave_same rfl ⟨?_, rfl⟩
      have hv : idxF p l 0 = (k : Int) := by rw [hs, hd]; simp [c1]
      rw [hv]; rfl
    | false =>
      (repeat (first | refine aSeq fun X hX => ?_ | refine aBlk ?_ | refine aSkip ?_ | (first | refine aExit ?_ | refine aRet ?_); try simp only [slx, ↓reduceIte, Nat.reduceEqDiff, reduceCtorEq] | (first | refine aReg ?_ | refine aDrE ?_); simp -implicitDefEqProofs only [forall_eq, ↓slp, slb, ↓reduceIte, reduceCtorEq, jA, jB, jC, jD, jE, jF, jG, jH, jI, jJ, jK, tfNeA, h0, h1, h7, h8, pI, g0, c1]; try simp only [Ex.fold, Ex.foldcs, ← Va.pv.eq_1] | refine hX _ _ ?_; clear hX X | clear hX X; refine hX _ _ ?_; clear hX X | clear hX X; clear hX X; refine hX _ _ ?_; clear hX X | intro hlen; unfold maxLen at hlen | apply And.intro; focus (first | omega | assumption | (repeat' apply And.intro) <;> first | omega | assumption)))
      refine aIf ?_; simp -implicitDefEqProofs only [↓slp, slb, ↓reduceIte, reduceCtorEq, jA, jB, jC, jD, jE, jF, jG, jH, jI, jJ, jK, c1]
      (repeat (first | refine aSeq fun X hX => ?_ | refine aBlk ?_ | refine aSkip ?_ | (first | refine aExit ?_ | refine aRet ?_); try simp only [slx, ↓reduceIte, Nat.reduceEqDiff, reduceCtorEq] | (first | refine aReg ?_ | refine aDrE ?_); simp -implicitDefEqProofs only [forall_eq, ↓slp, slb, ↓reduceIte, reduceCtorEq, jA, jB, jC, jD, jE, jF, jG, jH, jI, jJ, jK, tfNeA, h0, h1, h7, h8, pI, hi]; try simp only [Ex.fold, Ex.foldcs, ← Va.pv.eq_1] | refine hX _ _ ?_; clear hX X | clear hX X; refine hX _ _ ?_; clear hX X | clear hX X; clear hX X; refine hX _ _ ?_; clear hX X | intro hlen; unfold maxLen at hlen | apply And.intro; focus (first | omega | assumption | (repeat' apply And.intro) <;> first | omega | assumption)))
      rw [hI]
      refine ⟨⟨k + 1, hlt, h0, h1, h7, rfl, by rw [hs, hd]; simp [c1], rfl⟩, ?_⟩
      first | omega | (simp only [↓slp, slb, ↓reduceIte, reduceCtorEq, jA, jB, jC, jD, jE, jF, jG, jH, jI, jJ, jK, h8, pI]; omega)
  · have hlt : k = l.length := by simp at hb; omega
    subst hlt
    (repeat (first | refine aSeq fun X hX => ?_ | refine aBlk ?_ | refine aSkip ?_ | (first | refine aExit ?_ | refine aRet ?_); try simp only [slx, ↓reduceIte, Nat.reduceEqDiff, reduceCtorEq] | (first | refine aReg ?_ | refine aDrE ?_); simp -implicitDefEqProofs only [forall_eq, ↓slp, slb, ↓reduceIte, reduceCtorEq, jA, jB, jC, jD, jE, jF, jG, jH, jI, jJ, jK, tfNeA]; try simp only [Ex.fold, Ex.foldcs, ← Va.pv.eq_1] | refine hX _ _ ?_; clear hX X | clear hX X; refine hX _ _ ?_; clear hX X | clear hX X; clear hX X; refine hX _ _ ?_; clear hX X | intro hlen; unfold maxLen at hlen | apply And.intro; focus (first | omega | assumption | (repeat' apply And.intro) <;> first | omega | assumption)))
    simp only [aPost, Tryd.results68, aRes_n, aRes_t, aRes_c, pack_one, pack_two]
    refine leave_same rfl ⟨?_, rfl⟩
    have hv : idxF p l 0 = -1 := by rw [hs]; simp [idxF]
    rw [hv]; rfl

set_option maxRecDepth 20000 in
set_option maxHeartbeats 400000 in
theorem findEnumC_any (e : En) (s : Str) (m : M) : ACalls Tryd.prog 69 [e.pv, .ep [pS s]] m (fun v m' => v = pB (eqS e.name s) ∧ m' = m) := by
  refine ACalls.enter (mu := []) ok_mix Tryd.func69 rfl (by kernel_rfl) (by kernel_rfl) (by simp only [List.length_cons, List.length_nil, Tryd.ntmps69]; omega) ?_
  (repeat (first | refine aSeq fun X hX => ?_ | refine aBlk ?_ | refine aSkip ?_ | (first | refine aExit ?_ | refine aRet ?_); try simp only [slx, ↓reduceIte, Nat.reduceEqDiff, reduceCtorEq] | (first | refine aReg ?_ | refine aDrE ?_); simp -implicitDefEqProofs only [forall_eq, ↓slp, slb, ↓reduceIte, reduceCtorEq, jA, jB, jC, jD, jE, jF, jG, jH, jI, jJ, jK, tfNeA, pS]; try simp only [Ex.fold, Ex.foldcs, ← Va.pv.eq_1] | refine hX _ _ ?_; clear hX X | clear hX X; refine hX _ _ ?_; clear hX X | clear hX X; clear hX X; refine hX _ _ ?_; clear hX X | intro hlen; unfold maxLen at hlen | apply And.intro; focus (first | omega | assumption | (repeat' apply And.intro) <;> first | omega | assumption)))
  simp only [aPost, Tryd.results69, aRes_n, aRes_t, aRes_c, pack_one, pack_two]
  exact leave_same rfl ⟨rfl, rfl⟩
def findEnum (l : List En) (s : Str) : Int := idxF (fun e => eqS e.name s) l 0
set_option maxRecDepth 20000 in
set_option maxHeartbeats 400000 in
theorem findEnum_any (o : Own) (l : List En) (s : Str) (m : M) : ACalls Tryd.prog 41 [.sl o (l.map En.pv), pS s] m (fun v m' => v = pI (findEnum l s) ∧ m' = m) := by
  refine ACalls.enter (mu := []) ok_mix Tryd.func41 rfl (by kernel_rfl) (by kernel_rfl) (by simp only [List.length_cons, List.length_nil, Tryd.ntmps41]; omega) ?_
  (repeat (first | refine aSeq fun X hX => ?_ | refine aBlk ?_ | refine aSkip ?_ | (first | refine aExit ?_ | refine aRet ?_); try simp only [slx, ↓reduceIte, Nat.reduceEqDiff, reduceCtorEq] | (first | refine aReg ?_ | refine aDrE ?_); simp -implicitDefEqProofs only [forall_eq, ↓slp, slb, ↓reduceIte, reduceCtorEq, jA, jB, jC, jD, jE, jF, jG, jH, jI, jJ, jK, tfNeA, pS]; try simp only [Ex.fold, Ex.foldcs, ← Va.pv.eq_1] | refine hX _ _ ?_; clear hX X | clear hX X; refine hX _ _ ?_; clear hX X | clear hX X; clear hX X; refine hX _ _ ?_; clear hX X | intro hlen; unfold maxLen at hlen | apply And.intro; focus (first | omega | assumption | (repeat' apply And.intro) <;> first | omega | assumption)))
  refine callE (idxEnum_any o l (fun e => eqS e.name s) _ _ _ (fun k hk m => findEnumC_any _ s m)) ?_
  simp -implicitDefEqProofs only [↓slp, slb, ↓reduceIte, reduceCtorEq, jA, jB, jC, jD, jE, jF, jG, jH, jI, jJ, jK, tfNeA, pI]; try simp only [Ex.fold, Ex.foldcs, ← Va.pv.eq_1]
  (repeat (first | refine aSeq fun X hX => ?_ | refine aBlk ?_ | refine aSkip ?_ | (first | refine aExit ?_ | refine aRet ?_); try simp only [slx, ↓reduceIte, Nat.reduceEqDiff, reduceCtorEq] | (first | refine aReg ?_ | refine aDrE ?_); simp -implicitDefEqProofs only [forall_eq, ↓slp, slb, ↓reduceIte, reduceCtorEq, jA, jB, jC, jD, jE, jF, jG, jH, jI, jJ, jK, tfNeA]; try simp only [Ex.fold, Ex.foldcs, ← Va.pv.eq_1] | refine hX _ _ ?_; clear hX X | clear hX X; refine hX _ _ ?_; clear hX X | clear hX X; clear hX X; refine hX _ _ ?_; clear hX X | intro hlen; unfold maxLen at hlen | apply And.intro; focus (first | omega | assumption | (repeat' apply And.intro) <;> first | omega | assumption)))
  simp only [aPost, Tryd.results41, aRes_n, aRes_t, aRes_c, pack_one, pack_two]
  exact leave_same rfl ⟨rfl, rfl⟩
def nxt (n : Int) : Int := IntKind.i64.wrap (n + 1)
set_option maxHeartbeats 1000000 in
theorem cnext_any (a : Nat) (m : M) (hA : a < m.nb) (n : Int) : ACalls Tryd.prog 29 [.bp a 0] (cnt a m n) (fun v m' => v = .ag [.v (.int .i64 (nxt n)), .v (.int .i64 1)] ∧ m' = cnt a m (nxt n)) := by
  refine ACalls.enter (mu := [2]) ok_mix Tryd.func29 rfl (by kernel_rfl) (by kernel_rfl) (by simp only [List.length_cons, List.length_nil, Tryd.ntmps29]; omega) ?_
  (repeat (first | refine aSeq fun X hX => ?_ | refine aBlk ?_ | refine aSkip ?_ | (first | refine aExit ?_ | refine aRet ?_); try simp only [slx, ↓reduceIte, Nat.reduceEqDiff, reduceCtorEq] | (first | refine aReg ?_ | refine aDrE ?_ | refine aIf ?_); simp -implicitDefEqProofs only [forall_eq, ↓slp, slb, ↓reduceIte, reduceCtorEq, jA, jB, jC, jD, jE, jF, jG, jH, jI, jJ, jK, tfNeA, hA]; try simp only [Ex.fold, Ex.foldcs, ← Va.pv.eq_1] | refine hX _ _ ?_; clear hX X | clear hX X; refine hX _ _ ?_; clear hX X | clear hX X; clear hX X; refine hX _ _ ?_; clear hX X | intro hlen; unfold maxLen at hlen | apply And.intro; focus (first | omega | assumption | (repeat' apply And.intro) <;> first | omega | assumption)))
  simp only [aPost, Tryd.results29, aRes_n, aRes_t, aRes_c, pack_one, pack_two]
  simp -implicitDefEqProofs only [↓slp, slb, ↓reduceIte, reduceCtorEq, jA, jB, jC, jD, jE, jF, jG, jH, jI, jJ, jK, tfNeA, hA]; try simp only [Ex.fold, Ex.foldcs, ← Va.pv.eq_1]
  exact leave_cnt hA (.refl m) rfl ⟨rfl, rfl⟩

theorem cnt_mk {m : M} {z y : Option (List PV)} {r : List (Option (List PV))} {a : Nat} {c : Int} (h : m.nb + 1 = a) : cnt a (m.ext (z :: y :: r)) c = m.ext (z :: some (cN c) :: r) := by
  subst h
  unfold cnt
  rw [ext_upd (i := 1) rfl]
  rfl
theorem cnt_lift {P : Program} {mm : M} {a : Nat} (h : mm.nb + 1 = a) {f : FuncId} {args : List PV} {z : Option (List PV)} {r : List (Option (List PV))} {c c' : Int} {v0 : PV}
    (hc : ACalls P f args (cnt a (mm.ext (z :: some (cN c) :: r)) c) (fun v m' => v = v0 ∧ m' = cnt a (mm.ext (z :: some (cN c) :: r)) c')) : ACalls P f args (mm.ext (z :: some (cN c) :: r)) (fun v m' => v = v0 ∧ m' = mm.ext (z :: some (cN c') :: r)) := by
  rw [cnt_mk h] at hc
  exact ACalls.mono hc fun v m' hh => ⟨hh.1, by rw [hh.2, cnt_mk h]⟩
theorem cnt_in {mm : M} {a : Nat} (h : mm.nb + 1 = a) {z y : Option (List PV)} {r : List (Option (List PV))} : a < (mm.ext (z :: y :: r)).nb := by
  rw [ext_nb]; simp only [List.length_cons]; omega
theorem set_concat_length {α : Type} (l : List α) (a b : α) : (l ++ [a]).set l.length b = l ++ [b] := by simp
/-- An enumeration with its place; all of them. -/
def plEn (e : En) (c : Int) : En × Int := (⟨e.name, e.ctors, nxt c, 1⟩, nxt c)
def plEns : List En → Int → List En × Int
  | [], c => ([], c)
  | v :: l, c => ((plEn v c).1 :: (plEns l (plEn v c).2).1, (plEns l (plEn v c).2).2)
theorem plEns_snoc (l : List En) (x : En) : ∀ c, plEns (l ++ [x]) c = ((plEns l c).1 ++ [(plEn x (plEns l c).2).1], (plEn x (plEns l c).2).2) := by
  induction l with
  | nil => intro c; simp [plEns]
  | cons a l ih => intro c; simp [plEns, ih]
theorem plEns_len (l : List En) : ∀ c, (plEns l c).1.length = l.length := by
  induction l with
  | nil => intro c; rfl
  | cons a l ih => intro c; simp [plEns, ih]
theorem en_len4 (l : List En) : ∀ x ∈ l.map En.pv, x.cells.length = 4 := fun x hx => by
  obtain ⟨a, _, rfl⟩ := List.mem_map.1 hx
  rfl
set_option maxHeartbeats 8000000 in
theorem placedE_any (l : List En) (hl : l.length ≤ 1000000) (m : M) :
    ACalls Tryd.prog 10 [.ag [.sl .no (l.map En.pv), .sl .no []]] m (fun v m' => v = .ag [.sl .no ((plEns l 0).1.map En.pv), .sl .no []] ∧ m' = m) := by
  have hz0 : decide ((0 : Int) < ((0 : Nat) : Int)) = false := rfl
  refine ACalls.enter (mu := [2, 4, 6, 8, 10]) ok_mix Tryd.func10 rfl (by kernel_rfl) (by kernel_rfl) (by simp only [List.length_cons, List.length_nil, Tryd.ntmps10]; omega) ?_
  (repeat (first | refine aSeq fun X hX => ?_ | refine aBlk ?_ | refine aSkip ?_ | (first | refine aExit ?_ | refine aRet ?_); try simp only [slx, ↓reduceIte, Nat.reduceEqDiff, reduceCtorEq] | (first | refine aReg ?_ | refine aIf ?_); simp -implicitDefEqProofs only [forall_eq, ↓slp, slb, ↓reduceIte, reduceCtorEq, jA, jB, jC, jD, jE, jF, jG, jH, jI, jJ, jK, tfNeA, hz0]; try simp only [Ex.fold, Ex.foldcs, ← Va.pv.eq_1] | refine hX _ _ ?_; clear hX X | clear hX X; refine hX _ _ ?_; clear hX X | clear hX X; clear hX X; refine hX _ _ ?_; clear hX X | intro hlen; unfold maxLen at hlen | apply And.intro; focus (first | omega | assumption | (repeat' apply And.intro) <;> first | omega | assumption)))
  obtain ⟨I, hI⟩ : ∃ I : F → M → Prop, ∀ f m', I f m' = (∃ (k : Nat) (o : Own) (mm : M) (r : List (Option (List PV))), k ≤ l.length ∧ f 1 = .ep [.sl .no (l.map En.pv), .sl .no []] ∧ f 2 = .bp m.nb 0 ∧ f 3 = .bp (m.nb + 1) 0 ∧ f 4 = .bp (m.nb + 2) 0 ∧ f 5 = pI k ∧
    m' = mm.ext (some [.sl .full [], .sl .full []] :: some (cN (plEns (l.take k) 0).2) :: some [.sl o ((plEns (l.take k) 0).1.map En.pv), .sl .full []] :: r) ∧ Toks m mm ∧ Mine m mm o 4) := ⟨_, fun _ _ => rfl⟩
  refine aLoop I (fun f m => l.length - numOf (f 5)) ?_ ?_
  · rw [hI]; exact ⟨0, .full, m, [], by omega, rfl, rfl, rfl, rfl, rfl, rfl, .refl m, .full⟩
  intro f m' hrel
  rw [hI] at hrel
  obtain ⟨k, o, mm, r, hk, f1, f2, f3, f4, f5, rfl, ht, ho⟩ := hrel
  have hnb := ht.nb
  have hA : mm.nb + 1 = m.nb + 1 := by omega
  cases c1 : decide ((k : Int) < (l.length : Int)) with
  | false =>
    have hk' : k = l.length := by simp at c1; omega
    subst hk'
    rw [List.take_length]
    generalize plEns l 0 = P at *
    (repeat (first | refine aSeq fun X hX => ?_ | refine aBlk ?_ | refine aSkip ?_ | (first | refine aExit ?_ | refine aRet ?_); try simp only [slx, ↓reduceIte, Nat.reduceEqDiff, reduceCtorEq] | (first | refine aReg ?_ | refine aIf ?_); simp -implicitDefEqProofs only [forall_eq, ↓slp, slb, ↓reduceIte, reduceCtorEq, jA, jB, jC, jD, jE, jF, jG, jH, jI, jJ, jK, tfNeA, f1, f2, f3, f4, f5, c1, hnb, pI, hz0, List.getElem?_concat_length, set_concat_length, List.set_cons_succ, List.cons_append, List.getElem?_cons_succ]; try simp only [Ex.fold, Ex.foldcs, ← Va.pv.eq_1] | refine hX _ _ ?_; clear hX X | clear hX X; refine hX _ _ ?_; clear hX X | clear hX X; clear hX X; refine hX _ _ ?_; clear hX X | intro hlen; unfold maxLen at hlen | apply And.intro; focus (first | omega | assumption | (repeat' apply And.intro) <;> first | omega | assumption)))
    obtain ⟨L, hL⟩ : ∃ L : F → M → Prop, ∀ f m', L f m' = (f 1 = .ep [.sl .no (l.map En.pv), .sl .no []] ∧ f 2 = .bp m.nb 0 ∧ f 4 = .bp (m.nb + 2) 0 ∧ f 7 = pI 0 ∧ m' = mm.ext (some [.sl .full [], .sl .full []] :: some (cN P.2) :: some [.sl o (P.1.map En.pv), .sl .full []] :: r)) := ⟨_, fun _ _ => rfl⟩
    refine aLoop L (fun f m => 0) ?_ ?_
    · rw [hL]; exact ⟨f1, f2, f4, rfl, rfl⟩
    clear f1 f2 f3 f4 f5
    intro f m' hrel
    rw [hL] at hrel
    obtain ⟨f1, f2, f4, f7, rfl⟩ := hrel
    (repeat (first | refine aSeq fun X hX => ?_ | refine aBlk ?_ | refine aSkip ?_ | (first | refine aExit ?_ | refine aRet ?_); try simp only [slx, ↓reduceIte, Nat.reduceEqDiff, reduceCtorEq] | (first | refine aReg ?_ | refine aIf ?_); simp -implicitDefEqProofs only [forall_eq, ↓slp, slb, ↓reduceIte, reduceCtorEq, jA, jB, jC, jD, jE, jF, jG, jH, jI, jJ, jK, tfNeA, f1, f2, f4, f7, hnb, pI, hz0, List.getElem?_concat_length, set_concat_length, List.set_cons_succ, List.cons_append, List.getElem?_cons_succ]; try simp only [Ex.fold, Ex.foldcs, ← Va.pv.eq_1] | refine hX _ _ ?_; clear hX X | clear hX X; refine hX _ _ ?_; clear hX X | clear hX X; clear hX X; refine hX _ _ ?_; clear hX X | intro hlen; unfold maxLen at hlen | apply And.intro; focus (first | omega | assumption | (repeat' apply And.intro) <;> first | omega | assumption)))
    simp only [aPost, Tryd.results10, aRes_n, aRes_t, aRes_c, pack_one, pack_two]
    simp -implicitDefEqProofs only [↓slp, slb, ↓reduceIte, reduceCtorEq, jA, jB, jC, jD, jE, jF, jG, jH, jI, jJ, jK, tfNeA, f1, f2, f4, hnb, pI, List.getElem?_concat_length, set_concat_length, List.set_cons_succ, List.cons_append, List.getElem?_cons_succ]; try simp only [Ex.fold, Ex.foldcs, ← Va.pv.eq_1]
    exact leave_toks ht rfl ⟨rfl, rfl⟩
  | true =>
  have hlt : k < l.length := by simpa using c1
  have hg := getD_map En.pv l k hlt
  have hi : IntKind.i64.wrap ((k : Int) + 1) = ((k + 1 : Nat) : Int) := by rw [wrap64 (by omega)]; omega
  have hme : numOf (f 5) = k := by rw [f5]; exact Int.toNat_natCast k
  have htk : l.take (k + 1) = l.take k ++ [l[k]] := List.take_succ_eq_append_getElem hlt
  have hsn := plEns_snoc (l.take k) l[k] 0
  rw [← htk] at hsn
  have hlen := plEns_len (l.take k) 0
  rw [List.length_take, Nat.min_eq_left hk] at hlen
  generalize l[k] = x at *
  generalize hP : plEns (l.take k) 0 = P at *
  have hpn : plEn x P.2 = (⟨x.name, x.ctors, nxt P.2, 1⟩, nxt P.2) := rfl
  (repeat (first | refine aSeq fun X hX => ?_ | refine aBlk ?_ | refine aSkip ?_ | (first | refine aExit ?_ | refine aRet ?_); try simp only [slx, ↓reduceIte, Nat.reduceEqDiff, reduceCtorEq] | (first | refine aReg ?_ | refine aIf ?_); simp -implicitDefEqProofs only [forall_eq, ↓slp, slb, ↓reduceIte, reduceCtorEq, jA, jB, jC, jD, jE, jF, jG, jH, jI, jJ, jK, tfNeA, f1, f2, f3, f4, f5, c1, hg, hnb, pI, List.getElem?_concat_length, set_concat_length, List.set_cons_succ, List.cons_append, List.getElem?_cons_succ]; try simp only [Ex.fold, Ex.foldcs, ← Va.pv.eq_1] | refine hX _ _ ?_; clear hX X | clear hX X; refine hX _ _ ?_; clear hX X | clear hX X; clear hX X; refine hX _ _ ?_; clear hX X | intro hlen; unfold maxLen at hlen | apply And.intro; focus (first | omega | assumption | (repeat' apply And.intro) <;> first | omega | assumption)))
  refine callE (cnt_lift hA (cnext_any _ _ (cnt_in hA) _)) ?_
  have hfree := ho.free
  have q1 : P.1.length + 1 ≤ maxLen := by unfold maxLen; omega
  have q3 := en_len4 P.1
  simp -implicitDefEqProofs only [↓slp, slb, ↓reduceIte, reduceCtorEq, jA, jB, jC, jD, jE, jF, jG, jH, jI, jJ, jK, tfNeA, f1, f2, f3, f4, f5, hnb, pI, List.getElem?_concat_length, set_concat_length, List.set_cons_succ, List.cons_append, List.getElem?_cons_succ]; try simp only [Ex.fold, Ex.foldcs, ← Va.pv.eq_1]
  (repeat (first | refine aSeq fun X hX => ?_ | refine aBlk ?_ | refine aSkip ?_ | (first | refine aExit ?_ | refine aRet ?_); try simp only [slx, ↓reduceIte, Nat.reduceEqDiff, reduceCtorEq] | (first | refine aReg ?_ | refine aIf ?_); simp -implicitDefEqProofs only [forall_eq, ↓slp, slb, ↓reduceIte, reduceCtorEq, jA, jB, jC, jD, jE, jF, jG, jH, jI, jJ, jK, tfNeA, f1, f2, f3, f4, f5, hi, hnb, pI, List.getElem?_concat_length, set_concat_length, List.set_cons_succ, List.cons_append, List.getElem?_cons_succ]; try simp only [Ex.fold, Ex.foldcs, ← Va.pv.eq_1] | refine hX _ _ ?_; clear hX X | clear hX X; refine hX _ _ ?_; clear hX X | clear hX X; clear hX X; refine hX _ _ ?_; clear hX X | intro hlen; unfold maxLen at hlen | apply And.intro; focus (first | omega | assumption | (repeat' apply And.intro) <;> first | omega | assumption)))
  rw [hI]
  exact ⟨⟨k + 1, .tok mm.nt, _, r ++ [_], hlt, f1, f2, f3, f4, rfl, by rw [hsn, hpn, List.map_append, List.map_cons, List.map_nil]; rfl, ht.use ho, Mine.new ht o 4⟩, by omega⟩
end Go.Proofs.YteiaedmipkcfeaaDoor
