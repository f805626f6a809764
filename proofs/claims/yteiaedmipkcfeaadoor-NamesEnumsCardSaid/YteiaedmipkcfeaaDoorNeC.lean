/-
  names.Check of a program of enumerations.
-/
import Derived.Test.YteiaedmipkcfeaaDoorNeA
import Derived.Test.YteiaedmipkcfeaaDoorNeF
import Derived.Test.YteiaedmipkcfeaaDoorAbNl
import Derived.Test.YteiaedmipkcfeaaDoorLvA
import Derived.Test.YteiaedmipkcfeaaDoorAbRun6
set_option linter.unusedVariables false
set_option linter.unusedSimpArgs false
namespace Go.Proofs.YteiaedmipkcfeaaDoor
open Nat renaming reduceEqDiff → jA, reduceAdd → jB, reduceMul → jC, reduceLT → jD, reduceLeDiff → jE, reduceBEq → jF, reduceBNe → jG
open Int renaming reduceLE → jH, reduceLT → jI, reduceToNat → jJ, reduceEq → jK
open Go
-- EXX: En.settle_pv, En.pure_pv, En.cells_pv, En.cs.eq_1
set_option maxRecDepth 20000
-- TNAMES: int; uint8; int32; string; bool; []string; api.Pos; api.Node; []api.Node; api.Enum; []api.Enum; api.Program; names.looker; *names.looker; error; interface {}; api.Kind; names.stop; func(api.Enum) bool
set_option linter.defProp false
def tfNeC := And.intro @tfA (And.intro @Ex.settle_pv (And.intro @Ex.pure_pv (And.intro @Ex.cells_pv (And.intro @Ex.cs.eq_1 (And.intro @On.pv.eq_1 (And.intro @Ty.pv.eq_1 (And.intro @Va.settle_pv (And.intro @Va.pure_pv (And.intro @Va.cells_pv (And.intro @Va.cs.eq_1 (And.intro @En.settle_pv (And.intro @En.pure_pv (And.intro @En.cells_pv @En.cs.eq_1)))))))))))))

/-- Names, each of which is not there yet, added; none, if one is there. -/
def ctorsE : List Str → List Str → Option (List Str)
  | S, [] => some S
  | S, c :: r => if hasS S c then none else ctorsE (S ++ [c]) r
/-- The place of the first enumeration that has a name, or a constructor, that is there already. -/
def faultE (all : List En) : Nat → List Str → List En → Option (Int × Int)
  | _, _, [] => none
  | k, S, e :: r => if decide (findEnum all e.name < (k : Int)) then some (e.line, e.col) else match ctorsE S e.ctors with
    | none => some (e.line, e.col)
    | some T => faultE all (k + 1) T r
def lkE (es : List En) : PV := .ep [.sl .no (es.map En.pv), .sl .no []]
theorem strE_one (l : List Str) : ∀ x ∈ l.map pS, x.cells.length = 1 := fun x hx => by
  obtain ⟨s, _, rfl⟩ := List.mem_map.1 hx; rfl
set_option maxHeartbeats 8000000 in
theorem enumsE_any (es : List En) (hl : es.length ≤ 1000000) (hc : (es.flatMap En.ctors).length ≤ 1000000) (m : M) :
    ACallsZ Tryd.prog 22 [lkE es] m (fun v m' => v = .tp [] ∧ faultE es 0 [] es = none ∧ m' = m) (fun v m' => ∃ l c, faultE es 0 [] es = some (l, c) ∧ v = pStop l c 4 ∧ m' = m) := by
  have hfe := fun (s : Str) (m : M) => findEnum_any .no es s m
  have hct := fun (o : Own) (l : List Str) (s : Str) (m : M) => contains_any o l s m
  have hfl := fun (l c : Int) (m : M) => fail_any 4 l c rfl m
  unfold lkE at *
  refine ACallsZ.enter (mu := []) ok_mix Tryd.func22 rfl (by kernel_rfl) (by kernel_rfl) (by simp only [List.length_cons, List.length_nil, Tryd.ntmps22]; omega) ?_
  (repeat (first | refine aSeq fun X hX => ?_ | refine aBlk ?_ | refine aSkip ?_ | (first | refine aExit ?_ | refine aRet ?_); try simp only [slx, ↓reduceIte, Nat.reduceEqDiff, reduceCtorEq] | (first | refine aReg ?_ | refine aIf ?_); simp -implicitDefEqProofs only [forall_eq, ↓slp, slb, ↓reduceIte, reduceCtorEq, jA, jB, jC, jD, jE, jF, jG, jH, jI, jJ, jK, tfNeC]; try simp only [Ex.fold, Ex.foldcs, ← Va.pv.eq_1] | refine hX _ _ ?_; clear hX X | clear hX X; refine hX _ _ ?_; clear hX X | clear hX X; clear hX X; refine hX _ _ ?_; clear hX X | intro hlen; unfold maxLen at hlen | apply And.intro; focus (first | omega | assumption | (repeat' apply And.intro) <;> first | omega | assumption)))
  obtain ⟨I, hI⟩ : ∃ I : F → M → Prop, ∀ f m', I f m' = (∃ (k : Nat) (o : Own) (S : List Str) (mm : M), k ≤ es.length ∧ faultE es 0 [] es = faultE es k S (es.drop k) ∧ S.length + ((es.drop k).flatMap En.ctors).length ≤ 1000000 ∧ f 0 = .ep [.sl .no (es.map En.pv), .sl .no []] ∧ f 2 = .sl o (S.map pS) ∧ f 11 = .sl .no (es.map En.pv) ∧ f 12 = pI es.length ∧ f 13 = pI k ∧ Toks m mm ∧ Mine m mm o 1 ∧ mm = m') := ⟨_, fun _ _ => rfl⟩
  refine aLoop I (fun f m => es.length - numOf (f 13)) ?_ ?_
  · rw [hI]; exact ⟨0, .full, [], m, by omega, rfl, by simpa using hc, rfl, rfl, rfl, rfl, rfl, .refl _, .full, rfl⟩
  intro f m' hrel
  rw [hI] at hrel
  obtain ⟨k, o, S, mm, hk, hF, hSl, f0, f2, f11, f12, f13, htk, hmi, rfl⟩ := hrel
  cases c1 : decide ((k : Int) < (es.length : Int)) with
  | false =>
    have hkk : k = es.length := by simp at c1; omega
    subst hkk
    rw [List.drop_length] at hF
    (repeat (first | refine aSeq fun X hX => ?_ | refine aBlk ?_ | refine aSkip ?_ | (first | refine aExit ?_ | refine aRet ?_); try simp only [slx, ↓reduceIte, Nat.reduceEqDiff, reduceCtorEq] | (first | refine aReg ?_ | refine aIf ?_); simp -implicitDefEqProofs only [forall_eq, ↓slp, slb, ↓reduceIte, reduceCtorEq, jA, jB, jC, jD, jE, jF, jG, jH, jI, jJ, jK, tfNeC, f0, f2, f11, f12, f13, pI, c1]; try simp only [Ex.fold, Ex.foldcs, ← Va.pv.eq_1] | refine hX _ _ ?_; clear hX X | clear hX X; refine hX _ _ ?_; clear hX X | clear hX X; clear hX X; refine hX _ _ ?_; clear hX X | intro hlen; unfold maxLen at hlen | apply And.intro; focus (first | omega | assumption | (repeat' apply And.intro) <;> first | omega | assumption)))
    simp only [aPost, Tryd.results22, aRes_n, aRes_t, aRes_c, pack_one, pack_two]
    exact leave_toks0 htk rfl ⟨rfl, hF, rfl⟩
  | true =>
    have hlt : k < es.length := by simpa using c1
    have g0 := getD_map En.pv es k hlt
    have hi : IntKind.i64.wrap ((k : Int) + 1) = ((k + 1 : Nat) : Int) := by rw [wrap64 (by omega)]; omega
    have hme : numOf (f 13) = k := by rw [f13]; exact Int.toNat_natCast k
    rw [List.drop_eq_getElem_cons hlt] at hF hSl
    rw [List.flatMap_cons, List.length_append] at hSl
    have hun : faultE es k S (es[k] :: es.drop (k + 1)) = if decide (findEnum es es[k].name < (k : Int)) then some (es[k].line, es[k].col) else match ctorsE S es[k].ctors with
      | none => some (es[k].line, es[k].col)
      | some T => faultE es (k + 1) T (es.drop (k + 1)) := rfl
    rw [hun] at hF
    clear hun
    have hfx := hfe es[k].name
    generalize es[k] = e at *
    (repeat (first | refine aSeq fun X hX => ?_ | refine aBlk ?_ | refine aSkip ?_ | (first | refine aExit ?_ | refine aRet ?_); try simp only [slx, ↓reduceIte, Nat.reduceEqDiff, reduceCtorEq] | (first | refine aReg ?_ | refine aIf ?_); simp -implicitDefEqProofs only [forall_eq, ↓slp, slb, ↓reduceIte, reduceCtorEq, jA, jB, jC, jD, jE, jF, jG, jH, jI, jJ, jK, tfNeC, f0, f2, f11, f12, f13, pI, c1, g0]; try simp only [Ex.fold, Ex.foldcs, ← Va.pv.eq_1] | refine hX _ _ ?_; clear hX X | clear hX X; refine hX _ _ ?_; clear hX X | clear hX X; clear hX X; refine hX _ _ ?_; clear hX X | intro hlen; unfold maxLen at hlen | apply And.intro; focus (first | omega | assumption | (repeat' apply And.intro) <;> first | omega | assumption)))
    (repeat (first | refine aSeq fun X hX => ?_ | refine aBlk ?_ | refine aSkip ?_ | (first | refine aExit ?_ | refine aRet ?_); try simp only [slx, ↓reduceIte, Nat.reduceEqDiff, reduceCtorEq] | (first | refine aReg ?_ | refine aDrE ?_ | refine aIf ?_); simp -implicitDefEqProofs only [forall_eq, ↓slp, slb, ↓reduceIte, reduceCtorEq, jA, jB, jC, jD, jE, jF, jG, jH, jI, jJ, jK, tfNeC, f0, f2, pI]; try simp only [Ex.fold, Ex.foldcs, ← Va.pv.eq_1] | refine hX _ _ ?_; clear hX X | clear hX X; refine hX _ _ ?_; clear hX X | clear hX X; clear hX X; refine hX _ _ ?_; clear hX X | intro hlen; unfold maxLen at hlen | apply And.intro; focus (first | omega | assumption | (repeat' apply And.intro) <;> first | omega | assumption)))
    refine callE (hfx _) ?_
    cases c2 : decide (findEnum es e.name < (k : Int)) with
    | true =>
      rw [c2, if_pos rfl] at hF
      simp -implicitDefEqProofs only [↓slp, slb, ↓reduceIte, reduceCtorEq, jA, jB, jC, jD, jE, jF, jG, jH, jI, jJ, jK, tfNeC, pI, c2]; try simp only [Ex.fold, Ex.foldcs, ← Va.pv.eq_1]
      (repeat (first | refine aSeq fun X hX => ?_ | refine aBlk ?_ | refine aSkip ?_ | (first | refine aExit ?_ | refine aRet ?_); try simp only [slx, ↓reduceIte, Nat.reduceEqDiff, reduceCtorEq] | (first | refine aReg ?_ | refine aIf ?_); simp -implicitDefEqProofs only [forall_eq, ↓slp, slb, ↓reduceIte, reduceCtorEq, jA, jB, jC, jD, jE, jF, jG, jH, jI, jJ, jK, tfNeC, pI, c2]; try simp only [Ex.fold, Ex.foldcs, ← Va.pv.eq_1] | refine hX _ _ ?_; clear hX X | clear hX X; refine hX _ _ ?_; clear hX X | clear hX X; clear hX X; refine hX _ _ ?_; clear hX X | intro hlen; unfold maxLen at hlen | apply And.intro; focus (first | omega | assumption | (repeat' apply And.intro) <;> first | omega | assumption)))
      refine callP (hfl _ _ mm) ?_ (fun v m' h => h.elim)
      rintro v m' ⟨rfl, rfl⟩
      exact leave_toks0 htk rfl ⟨e.line, e.col, hF, rfl, rfl⟩
    | false =>
      rw [c2, if_neg (by simp)] at hF
      simp -implicitDefEqProofs only [↓slp, slb, ↓reduceIte, reduceCtorEq, jA, jB, jC, jD, jE, jF, jG, jH, jI, jJ, jK, tfNeC, pI, c2]; try simp only [Ex.fold, Ex.foldcs, ← Va.pv.eq_1]
      (repeat (first | refine aSeq fun X hX => ?_ | refine aBlk ?_ | refine aSkip ?_ | (first | refine aExit ?_ | refine aRet ?_); try simp only [slx, ↓reduceIte, Nat.reduceEqDiff, reduceCtorEq] | (first | refine aReg ?_ | refine aIf ?_); simp -implicitDefEqProofs only [forall_eq, ↓slp, slb, ↓reduceIte, reduceCtorEq, jA, jB, jC, jD, jE, jF, jG, jH, jI, jJ, jK, tfNeC, pI, c2]; try simp only [Ex.fold, Ex.foldcs, ← Va.pv.eq_1] | refine hX _ _ ?_; clear hX X | clear hX X; refine hX _ _ ?_; clear hX X | clear hX X; clear hX X; refine hX _ _ ?_; clear hX X | intro hlen; unfold maxLen at hlen | apply And.intro; focus (first | omega | assumption | (repeat' apply And.intro) <;> first | omega | assumption)))
      obtain ⟨J, hJ⟩ : ∃ J : F → M → Prop, ∀ f m', J f m' = (∃ (j : Nat) (o : Own) (m2 : M), j ≤ e.ctors.length ∧ ctorsE S e.ctors = ctorsE (S ++ e.ctors.take j) (e.ctors.drop j) ∧ f 0 = .ep [.sl .no (es.map En.pv), .sl .no []] ∧ f 2 = .sl o ((S ++ e.ctors.take j).map pS) ∧ f 4 = .ep e.cs ∧ f 11 = .sl .no (es.map En.pv) ∧ f 12 = pI es.length ∧ f 13 = pI k ∧ f 32 = .sl .no (e.ctors.map pS) ∧ f 33 = pI e.ctors.length ∧ f 34 = pI j ∧ Toks m m2 ∧ Mine m m2 o 1 ∧ m2 = m') := ⟨_, fun _ _ => rfl⟩
      refine aLoop J (fun f m => e.ctors.length - numOf (f 34)) ?_ ?_
      · rw [hJ]; exact ⟨0, o, mm, by omega, by rw [List.take_zero, List.append_nil, List.drop_zero], f0, by rw [List.take_zero, List.append_nil]; exact f2, rfl, f11, f12, f13, rfl, rfl, rfl, htk, hmi, rfl⟩
      clear f0 f2 f11 f12 f13 htk hmi
      intro f m' hrel
      rw [hJ] at hrel
      obtain ⟨j, o, m2, hj, hcE, f0, f2, f4, f11, f12, f13, f32, f33, f34, htk, hmi, rfl⟩ := hrel
      cases c3 : decide ((j : Int) < (e.ctors.length : Int)) with
      | false =>
        have hjj : j = e.ctors.length := by simp at c3; omega
        subst hjj
        rw [List.take_length, List.drop_length] at hcE
        rw [List.take_length] at f2
        rw [hcE] at hF
        (repeat (first | refine aSeq fun X hX => ?_ | refine aBlk ?_ | refine aSkip ?_ | (first | refine aExit ?_ | refine aRet ?_); try simp only [slx, ↓reduceIte, Nat.reduceEqDiff, reduceCtorEq] | (first | refine aReg ?_ | refine aIf ?_); simp -implicitDefEqProofs only [forall_eq, ↓slp, slb, ↓reduceIte, reduceCtorEq, jA, jB, jC, jD, jE, jF, jG, jH, jI, jJ, jK, tfNeC, f2, f32, f33, f34, f13, pI, c3, hi]; try simp only [Ex.fold, Ex.foldcs, ← Va.pv.eq_1] | refine hX _ _ ?_; clear hX X | clear hX X; refine hX _ _ ?_; clear hX X | clear hX X; clear hX X; refine hX _ _ ?_; clear hX X | intro hlen; unfold maxLen at hlen | apply And.intro; focus (first | omega | assumption | (repeat' apply And.intro) <;> first | omega | assumption)))
        rw [hI]
        exact ⟨⟨k + 1, o, S ++ e.ctors, m2, hlt, hF, by rw [List.length_append]; omega, f0, f2, f11, f12, rfl, htk, hmi, rfl⟩, by omega⟩
      | true =>
        have hltj : j < e.ctors.length := by simpa using c3
        have gj := getD_map pS e.ctors j hltj
        have hij : IntKind.i64.wrap ((j : Int) + 1) = ((j + 1 : Nat) : Int) := by rw [wrap64 (by omega)]; omega
        have hmej : numOf (f 34) = j := by rw [f34]; exact Int.toNat_natCast j
        rw [List.drop_eq_getElem_cons hltj] at hcE
        have hun : ctorsE (S ++ e.ctors.take j) (e.ctors[j] :: e.ctors.drop (j + 1)) = if hasS (S ++ e.ctors.take j) e.ctors[j] then none else ctorsE (S ++ e.ctors.take j ++ [e.ctors[j]]) (e.ctors.drop (j + 1)) := rfl
        rw [hun, List.append_assoc, ← List.take_succ_eq_append_getElem hltj] at hcE
        clear hun
        have hst : S ++ e.ctors.take (j + 1) = (S ++ e.ctors.take j) ++ [e.ctors[j]] := by rw [List.take_succ_eq_append_getElem hltj, List.append_assoc]
        have hcx := hct o (S ++ e.ctors.take j) e.ctors[j]
        have hAl : (S ++ e.ctors.take j).length ≤ 1000000 := by rw [List.length_append, List.length_take]; omega
        generalize S ++ e.ctors.take j = A at *
        generalize hcj : e.ctors[j] = cc at *
        have hfr := hmi.free
        have hLa := strE_one A
        have h1 : ∀ y ∈ [pS cc], y.cells.length = 1 := strE_one [cc]
        have hmx2 : A.length + 1 ≤ maxLen := by unfold maxLen; omega
        (repeat (first | refine aSeq fun X hX => ?_ | refine aBlk ?_ | refine aSkip ?_ | (first | refine aExit ?_ | refine aRet ?_); try simp only [slx, ↓reduceIte, Nat.reduceEqDiff, reduceCtorEq] | (first | refine aReg ?_ | refine aIf ?_); simp -implicitDefEqProofs only [forall_eq, ↓slp, slb, ↓reduceIte, reduceCtorEq, jA, jB, jC, jD, jE, jF, jG, jH, jI, jJ, jK, tfNeC, f0, f2, f4, f32, f33, f34, pI, c3, gj]; try simp only [Ex.fold, Ex.foldcs, ← Va.pv.eq_1] | refine hX _ _ ?_; clear hX X | clear hX X; refine hX _ _ ?_; clear hX X | clear hX X; clear hX X; refine hX _ _ ?_; clear hX X | intro hlen; unfold maxLen at hlen | apply And.intro; focus (first | omega | assumption | (repeat' apply And.intro) <;> first | omega | assumption)))
        refine callE (hcx _) ?_
        cases hh : hasS A cc with
        | true =>
          rw [hh, if_pos rfl] at hcE
          rw [hcE] at hF
          simp -implicitDefEqProofs only [↓slp, slb, ↓reduceIte, reduceCtorEq, jA, jB, jC, jD, jE, jF, jG, jH, jI, jJ, jK, tfNeC, pB, hh]; try simp only [Ex.fold, Ex.foldcs, ← Va.pv.eq_1]
          (repeat (first | refine aSeq fun X hX => ?_ | refine aBlk ?_ | refine aSkip ?_ | (first | refine aExit ?_ | refine aRet ?_); try simp only [slx, ↓reduceIte, Nat.reduceEqDiff, reduceCtorEq] | (first | refine aReg ?_ | refine aIf ?_); simp -implicitDefEqProofs only [forall_eq, ↓slp, slb, ↓reduceIte, reduceCtorEq, jA, jB, jC, jD, jE, jF, jG, jH, jI, jJ, jK, tfNeC, hh, f4]; try simp only [Ex.fold, Ex.foldcs, ← Va.pv.eq_1] | refine hX _ _ ?_; clear hX X | clear hX X; refine hX _ _ ?_; clear hX X | clear hX X; clear hX X; refine hX _ _ ?_; clear hX X | intro hlen; unfold maxLen at hlen | apply And.intro; focus (first | omega | assumption | (repeat' apply And.intro) <;> first | omega | assumption)))
          refine callP (hfl _ _ m2) ?_ (fun v m' h => h.elim)
          rintro v m' ⟨rfl, rfl⟩
          exact leave_toks0 htk rfl ⟨e.line, e.col, hF, rfl, rfl⟩
        | false =>
          rw [hh, if_neg (by simp)] at hcE
          simp -implicitDefEqProofs only [↓slp, slb, ↓reduceIte, reduceCtorEq, jA, jB, jC, jD, jE, jF, jG, jH, jI, jJ, jK, tfNeC, pB, hh]; try simp only [Ex.fold, Ex.foldcs, ← Va.pv.eq_1]
          (repeat (first | refine aSeq fun X hX => ?_ | refine aBlk ?_ | refine aSkip ?_ | (first | refine aExit ?_ | refine aRet ?_); try simp only [slx, ↓reduceIte, Nat.reduceEqDiff, reduceCtorEq] | (first | refine aReg ?_ | refine aIf ?_); simp -implicitDefEqProofs only [forall_eq, ↓slp, slb, ↓reduceIte, reduceCtorEq, jA, jB, jC, jD, jE, jF, jG, jH, jI, jJ, jK, tfNeC, hh, f0, f2, f34, pI, hij, pS]; try simp only [Ex.fold, Ex.foldcs, ← Va.pv.eq_1] | refine hX _ _ ?_; clear hX X | clear hX X; refine hX _ _ ?_; clear hX X | clear hX X; clear hX X; refine hX _ _ ?_; clear hX X | intro hlen; unfold maxLen at hlen | apply And.intro; focus (first | omega | assumption | (repeat' apply And.intro) <;> first | omega | assumption)))
          rw [hJ]
          exact ⟨⟨j + 1, .tok m2.nt, (o.use m2).fresh 1, hltj, hcE, f0, by rw [hst, List.map_append]; rfl, f4, f11, f12, f13, f32, f33, rfl, htk.use hmi, Mine.new htk o 1, rfl⟩, by omega⟩
def errE : Option (Int × Int) → PV
  | none => .v .nilIface
  | some (l, c) => pA l c 4
theorem DRet.mono {P : Program} {h : FuncId} {args : List PV} {m : M} {Q Q' : M → Prop} (hd : DRet P h args m Q) (hq : ∀ m', Q m' → Q' m') : DRet P h args m Q' := fun G w vs a b c => (hd G w vs a b c).mono (by rintro e u w' ⟨h1, h2, m', G', h3, h4, h5⟩; exact ⟨h1, h2, m', G', hq _ h3, h4, h5⟩)
set_option maxHeartbeats 2000000 in
theorem clo_ret (x : PV) (m : M) : DRet Tryd.prog 21 [x] m (fun m' => m' = m) := by
  refine DRet.of (mu := []) ok_mix Tryd.func21 rfl rfl ⟨rfl, rfl, rfl⟩ (by kernel_rfl) (by decide) (by simp only [List.length_cons, List.length_nil, Tryd.ntmps21]; omega) ?_
  (repeat (first | refine aSeq fun X hX => ?_ | refine aBlk ?_ | refine aSkip ?_ | (first | refine aExit ?_ | refine aRet ?_); try simp only [slx, ↓reduceIte, Nat.reduceEqDiff, reduceCtorEq] | (first | refine aReg ?_ | refine aDrE ?_); simp -implicitDefEqProofs only [forall_eq, ↓slp, slb, ↓reduceIte, reduceCtorEq, jA, jB, jC, jD, jE, jF, jG, jH, jI, jJ, jK, tfNeC]; try simp only [Ex.fold, Ex.foldcs, ← Va.pv.eq_1] | refine hX _ _ ?_; clear hX X | clear hX X; refine hX _ _ ?_; clear hX X | clear hX X; clear hX X; refine hX _ _ ?_; clear hX X | intro hlen; unfold maxLen at hlen | apply And.intro; focus (first | omega | assumption | (repeat' apply And.intro) <;> first | omega | assumption)))
  refine aIf ?_; simp -implicitDefEqProofs only [↓slp, slb, ↓reduceIte, reduceCtorEq, jA, jB, jC, jD, jE, jF, jG, jH, jI, jJ, jK]
  (repeat (first | refine aSeq fun X hX => ?_ | refine aBlk ?_ | refine aSkip ?_ | (first | refine aExit ?_ | refine aRet ?_); try simp only [slx, ↓reduceIte, Nat.reduceEqDiff, reduceCtorEq] | (first | refine aReg ?_ | refine aDrE ?_); simp -implicitDefEqProofs only [forall_eq, ↓slp, slb, ↓reduceIte, reduceCtorEq, jA, jB, jC, jD, jE, jF, jG, jH, jI, jJ, jK, tfNeC]; try simp only [Ex.fold, Ex.foldcs, ← Va.pv.eq_1] | refine hX _ _ ?_; clear hX X | clear hX X; refine hX _ _ ?_; clear hX X | clear hX X; clear hX X; refine hX _ _ ?_; clear hX X | intro hlen; unfold maxLen at hlen | apply And.intro; focus (first | omega | assumption | (repeat' apply And.intro) <;> first | omega | assumption)))
set_option maxHeartbeats 2000000 in
theorem DPan.mono {P : Program} {h : FuncId} {args : List PV} {v : PV} {m : M} {Q Q' : M → Prop} (hd : DPan P h args v m Q) (hq : ∀ m', Q m' → Q' m') : DPan P h args v m Q' := fun G w vs y a b c d => (hd G w vs y a b c d).mono (by rintro e u w' ⟨h1, h2, m', G', h3, h4, h5⟩; exact ⟨h1, h2, m', G', hq _ h3, h4, h5⟩)
set_option maxHeartbeats 2000000 in
theorem clo_pan (id : Nat) (x : PV) (l c k : Int) (m : M) (hg : m.get id = some [x]) : DPan Tryd.prog 21 [.bp id 0] (pStop l c k) m (fun m' => m' = m.upd id [pA l c k]) := by
  refine DPan.of (mu := []) ok_mix Tryd.func21 rfl rfl ⟨rfl, rfl, rfl⟩ (by kernel_rfl) (by decide) (by simp only [List.length_cons, List.length_nil, Tryd.ntmps21]; omega) ?_
  have hu := Tryd.underlying69
  (repeat (first | refine aSeq fun X hX => ?_ | refine aBlk ?_ | refine aSkip ?_ | (first | refine aExit ?_ | refine aRet ?_); try simp only [slx, ↓reduceIte, Nat.reduceEqDiff, reduceCtorEq] | (first | refine aReg ?_ | refine aIf ?_); simp -implicitDefEqProofs only [forall_eq, ↓slp, slb, ↓reduceIte, reduceCtorEq, jA, jB, jC, jD, jE, jF, jG, jH, jI, jJ, jK, tfNeC, hu, hg]; try simp only [Ex.fold, Ex.foldcs, ← Va.pv.eq_1] | refine hX _ _ ?_; clear hX X | clear hX X; refine hX _ _ ?_; clear hX X | clear hX X; clear hX X; refine hX _ _ ?_; clear hX X | intro hlen; unfold maxLen at hlen | apply And.intro; focus (first | omega | assumption | (repeat' apply And.intro) <;> first | omega | assumption)))
set_option maxHeartbeats 8000000 in
theorem checkE_any (es : List En) (hl : es.length ≤ 1000000) (hc : (es.flatMap En.ctors).length ≤ 1000000) (m : M) :
    ACalls Tryd.prog 8 [.ag [.sl .no (es.map En.pv), .sl .no []]] m (fun v m' => v = errE (faultE es 0 [] es) ∧ m' = m) := by
  obtain ⟨FE, hFE⟩ : ∃ FE, faultE es 0 [] es = FE := ⟨_, rfl⟩
  refine ACalls.leave (R := fun v m' => v = errE FE ∧ m' = m.ext [some [errE FE]]) ?_ (fun v m' ⟨h1, h2⟩ => by subst h1 h2; rw [hFE]; exact leave_ext (by cases FE <;> rfl) ⟨(by cases FE <;> rfl), rfl⟩)
  have hen := fun m => enumsE_any es hl hc m
  rw [hFE] at hen
  unfold lkE at hen
  obtain ⟨Xf, hXf⟩ : ∃ Xf : F → M → Prop, ∀ f1 m1, Xf f1 m1 = ((f1 1 = .ep [.sl .no (es.map En.pv), .sl .no []] ∧ f1 2 = .bp m.nb 0) ∧ m1 = m.ext [some [.v .nilIface]]) := ⟨_, fun _ _ => rfl⟩
  refine ACalls.enterDL (mu := [2]) (l := [_]) (kps := [2]) ok_mix Tryd.func8 rfl (by kernel_rfl) (by kernel_rfl) ⟨rfl, rfl, rfl⟩ ⟨rfl, rfl, rfl, rfl, rfl⟩ ?_ (fun kv => by rw [bd_kv _ _ kv (fun _ => undef)]; kernel_rfl) ⟨by decide, by decide⟩ (by simp only [List.length_cons, List.length_nil, Tryd.ntmps8]; omega) Xf ?_ ?_
  · intro A hA
    simp only [List.mem_cons, List.not_mem_nil, or_false] at hA
    rcases hA with rfl
    kernel_rfl
  · unfold aPre
    (repeat (first | refine aSeq fun X hX => ?_ | refine aBlk ?_ | refine aSkip ?_ | (first | refine aExit ?_ | refine aRet ?_); try simp only [slx, ↓reduceIte, Nat.reduceEqDiff, reduceCtorEq] | (first | refine aReg ?_ | refine aDrE ?_); simp -implicitDefEqProofs only [forall_eq, ↓slp, slb, ↓reduceIte, reduceCtorEq, jA, jB, jC, jD, jE, jF, jG, jH, jI, jJ, jK, tfNeC]; try simp only [Ex.fold, Ex.foldcs, ← Va.pv.eq_1] | refine hX _ _ ?_; clear hX X | clear hX X; refine hX _ _ ?_; clear hX X | clear hX X; clear hX X; refine hX _ _ ?_; clear hX X | intro hlen; unfold maxLen at hlen | apply And.intro; focus (first | omega | assumption | (repeat' apply And.intro) <;> first | omega | assumption)))
    show Xf _ _
    rw [hXf]
    exact ⟨⟨rfl, rfl⟩, rfl⟩
  · intro f1 m1 hx
    rw [hXf] at hx
    obtain ⟨⟨f1', f2⟩, rfl⟩ := hx
    have hargs : (#[Operand.tmp 2] : Array Operand).toList.map (ev f1) = [.bp m.nb 0] := by
      simp only [List.map_cons, List.map_nil, ev_tmp, f2]
    have k2 : (F.only [2] f1) 2 = .bp m.nb 0 := by unfold F.only; rw [if_pos (by simp)]; exact f2
    obtain ⟨ms, hms⟩ : ∃ ms, m.ext [some [.v .nilIface]] = ms := ⟨_, rfl⟩
    have hup : ∀ c, ms.upd m.nb c = m.ext [some c] := fun c => by rw [← hms]; simp [ext_upd0]
    have hgs : ms.get m.nb = some [.v .nilIface] := by rw [← hms]; exact ext_get (i := 0) rfl
    rw [hms]
    refine ⟨fun m2 => FE = none ∧ m2 = ms, fun v m2 => ∃ l c, FE = some (l, c) ∧ v = pStop l c 4 ∧ m2 = ms, ?_, ?_, ?_⟩
    · (repeat (first | refine aSeq fun X hX => ?_ | refine aBlk ?_ | refine aSkip ?_ | (first | refine aExit ?_ | refine aRet ?_); try simp only [slx, ↓reduceIte, Nat.reduceEqDiff, reduceCtorEq] | (first | refine aReg ?_ | refine aIf ?_); simp -implicitDefEqProofs only [forall_eq, ↓slp, slb, ↓reduceIte, reduceCtorEq, jA, jB, jC, jD, jE, jF, jG, jH, jI, jJ, jK, tfNeC, f1', f2]; try simp only [Ex.fold, Ex.foldcs, ← Va.pv.eq_1] | refine hX _ _ ?_; clear hX X | clear hX X; refine hX _ _ ?_; clear hX X | clear hX X; clear hX X; refine hX _ _ ?_; clear hX X | intro hlen; unfold maxLen at hlen | apply And.intro; focus (first | omega | assumption | (repeat' apply And.intro) <;> first | omega | assumption)))
      refine callP (hen ms) ?_ ?_
      · rintro v m' ⟨l, c, h1, rfl, rfl⟩
        exact ⟨l, c, h1, rfl, rfl⟩
      rintro v m' ⟨rfl, hF, hm'⟩
      have h := hm'.symm
      subst h
      have z0 : decide (((0 : Nat) : Int) < 0) = false := rfl
      have z1 : decide ((0 : Int) < ((0 : Nat) : Int)) = false := rfl
      have z2 : decide ((0 : Int) < 0) = false := rfl
      simp -implicitDefEqProofs only [↓slp, slb, ↓reduceIte, reduceCtorEq, jA, jB, jC, jD, jE, jF, jG, jH, jI, jJ, jK, tfNeC]; try simp only [Ex.fold, Ex.foldcs, ← Va.pv.eq_1]
      (repeat (first | refine aSeq fun X hX => ?_ | refine aBlk ?_ | refine aSkip ?_ | (first | refine aExit ?_ | refine aRet ?_); try simp only [slx, ↓reduceIte, Nat.reduceEqDiff, reduceCtorEq] | (first | refine aReg ?_ | refine aIf ?_); simp -implicitDefEqProofs only [forall_eq, ↓slp, slb, ↓reduceIte, reduceCtorEq, jA, jB, jC, jD, jE, jF, jG, jH, jI, jJ, jK, tfNeC, f1', f2]; try simp only [Ex.fold, Ex.foldcs, ← Va.pv.eq_1] | refine hX _ _ ?_; clear hX X | clear hX X; refine hX _ _ ?_; clear hX X | clear hX X; clear hX X; refine hX _ _ ?_; clear hX X | intro hlen; unfold maxLen at hlen | apply And.intro; focus (first | omega | assumption | (repeat' apply And.intro) <;> first | omega | assumption)))
      obtain ⟨I1, hI1⟩ : ∃ I1 : F → M → Prop, ∀ f m', I1 f m' = (f 1 = .ep [.sl .no (es.map En.pv), .sl .no []] ∧ f 2 = .bp m.nb 0 ∧ f 18 = pI 0 ∧ f 19 = pI 0 ∧ ms = m') := ⟨_, fun _ _ => rfl⟩
      refine aLoop I1 (fun f m => 0) ?_ ?_
      · rw [hI1]; exact ⟨f1', f2, rfl, rfl, rfl⟩
      clear f1' f2
      intro f m' hrel
      rw [hI1] at hrel
      obtain ⟨f1', f2, g1, g2, rfl⟩ := hrel
      (repeat (first | refine aSeq fun X hX => ?_ | refine aBlk ?_ | refine aSkip ?_ | (first | refine aExit ?_ | refine aRet ?_); try simp only [slx, ↓reduceIte, Nat.reduceEqDiff, reduceCtorEq] | (first | refine aReg ?_ | refine aIf ?_); simp -implicitDefEqProofs only [forall_eq, ↓slp, slb, ↓reduceIte, reduceCtorEq, jA, jB, jC, jD, jE, jF, jG, jH, jI, jJ, jK, tfNeC, f1', f2, g1, g2, pI, z0, z1, z2, hgs, hup]; try simp only [Ex.fold, Ex.foldcs, ← Va.pv.eq_1] | refine hX _ _ ?_; clear hX X | clear hX X; refine hX _ _ ?_; clear hX X | clear hX X; clear hX X; refine hX _ _ ?_; clear hX X | intro hlen; unfold maxLen at hlen | apply And.intro; focus (first | omega | assumption | (repeat' apply And.intro) <;> first | omega | assumption)))
      obtain ⟨I2, hI2⟩ : ∃ I2 : F → M → Prop, ∀ f m', I2 f m' = (f 1 = .ep [.sl .no (es.map En.pv), .sl .no []] ∧ f 2 = .bp m.nb 0 ∧ f 36 = pI 0 ∧ f 37 = pI 0 ∧ ms = m') := ⟨_, fun _ _ => rfl⟩
      refine aLoop I2 (fun f m => 0) ?_ ?_
      · rw [hI2]; exact ⟨f1', f2, rfl, rfl, rfl⟩
      clear f1' f2
      intro f m' hrel
      rw [hI2] at hrel
      obtain ⟨f1', f2, g1, g2, rfl⟩ := hrel
      (repeat (first | refine aSeq fun X hX => ?_ | refine aBlk ?_ | refine aSkip ?_ | (first | refine aExit ?_ | refine aRet ?_); try simp only [slx, ↓reduceIte, Nat.reduceEqDiff, reduceCtorEq] | (first | refine aReg ?_ | refine aIf ?_); simp -implicitDefEqProofs only [forall_eq, ↓slp, slb, ↓reduceIte, reduceCtorEq, jA, jB, jC, jD, jE, jF, jG, jH, jI, jJ, jK, tfNeC, f1', f2, g1, g2, pI, z0, z1, z2, hgs, hup]; try simp only [Ex.fold, Ex.foldcs, ← Va.pv.eq_1] | refine hX _ _ ?_; clear hX X | clear hX X; refine hX _ _ ?_; clear hX X | clear hX X; clear hX X; refine hX _ _ ?_; clear hX X | intro hlen; unfold maxLen at hlen | apply And.intro; focus (first | omega | assumption | (repeat' apply And.intro) <;> first | omega | assumption)))
      obtain ⟨I3, hI3⟩ : ∃ I3 : F → M → Prop, ∀ f m', I3 f m' = (f 1 = .ep [.sl .no (es.map En.pv), .sl .no []] ∧ f 2 = .bp m.nb 0 ∧ f 47 = pI 0 ∧ f 48 = pI 0 ∧ ms = m') := ⟨_, fun _ _ => rfl⟩
      refine aLoop I3 (fun f m => 0) ?_ ?_
      · rw [hI3]; exact ⟨f1', f2, rfl, rfl, rfl⟩
      clear f1' f2
      intro f m' hrel
      rw [hI3] at hrel
      obtain ⟨f1', f2, g1, g2, rfl⟩ := hrel
      (repeat (first | refine aSeq fun X hX => ?_ | refine aBlk ?_ | refine aSkip ?_ | (first | refine aExit ?_ | refine aRet ?_); try simp only [slx, ↓reduceIte, Nat.reduceEqDiff, reduceCtorEq] | (first | refine aReg ?_ | refine aIf ?_); simp -implicitDefEqProofs only [forall_eq, ↓slp, slb, ↓reduceIte, reduceCtorEq, jA, jB, jC, jD, jE, jF, jG, jH, jI, jJ, jK, tfNeC, f1', f2, g1, g2, pI, z0, z1, z2, hgs, hup]; try simp only [Ex.fold, Ex.foldcs, ← Va.pv.eq_1] | refine hX _ _ ?_; clear hX X | clear hX X; refine hX _ _ ?_; clear hX X | clear hX X; clear hX X; refine hX _ _ ?_; clear hX X | intro hlen; unfold maxLen at hlen | apply And.intro; focus (first | omega | assumption | (repeat' apply And.intro) <;> first | omega | assumption)))
      exact ⟨.inr trivial, hF, hms⟩
    · rintro m2 ⟨hF, rfl⟩
      rw [hargs]
      refine (clo_ret _ _).mono ?_
      rintro m3 rfl
      simp only [Tryd.results8, aRes_n, aRes_t, aRes_c]
      simp -implicitDefEqProofs only [↓slp, slb, ↓reduceIte, reduceCtorEq, jA, jB, jC, jD, jE, jF, jG, jH, jI, jJ, jK, tfNeC, k2, hgs]; try simp only [Ex.fold, Ex.foldcs, ← Va.pv.eq_1]
      rw [hF]
      exact ⟨rfl, hms.symm⟩
    · rintro v m2 ⟨l, c, hF, rfl, rfl⟩
      rw [hargs]
      have hb := hms
      refine (clo_pan m.nb _ l c 4 _ hgs).mono ?_
      rintro m3 rfl
      simp only [Tryd.results8, aRes_n, aRes_t, aRes_c]
      rw [hup]
      have hg3 : (m.ext [some [pA l c 4]]).get m.nb = some [pA l c 4] := ext_get (i := 0) rfl
      simp -implicitDefEqProofs only [↓slp, slb, ↓reduceIte, reduceCtorEq, jA, jB, jC, jD, jE, jF, jG, jH, jI, jJ, jK, tfNeC, k2, hg3]; try simp only [Ex.fold, Ex.foldcs, ← Va.pv.eq_1]
      rw [hF]
      exact ⟨rfl, rfl⟩
end Go.Proofs.YteiaedmipkcfeaaDoor
