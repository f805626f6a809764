/-
  The law NamesNeeds.
-/
import Derived.Test.YteiaedmipkcfeaaDoorNdC
import Derived.Test.YteiaedmipkcfeaaDoorNdX
import Derived.Test.YteiaedmipkcfeaaDoorNdY
import Derived.Test.YteiaedmipkcfeaaDoorNmAw
set_option linter.unusedVariables false
set_option linter.unusedSimpArgs false
namespace Go.Proofs.YteiaedmipkcfeaaDoor
open Nat renaming reduceEqDiff → jA, reduceAdd → jB, reduceMul → jC, reduceLT → jD, reduceLeDiff → jE, reduceBEq → jF, reduceBNe → jG
open Int renaming reduceLE → jH, reduceLT → jI, reduceToNat → jJ, reduceEq → jK
open Go
-- EXX: Qu.settle_pv, Qu.pure_pv, Qu.cells_pv, Qu.cs, No.settle_pv, No.pure_pv, No.cells_pv, No.cs, No.pv.eq_1
set_option maxRecDepth 20000
-- TNAMES: int; uint8; int32; string; bool; []uint8; []string; []api.Expr; api.Expr; api.Pos; api.Type; api.On; []api.On; api.Var; []api.Var; api.Equation; []api.Equation; api.Block; api.Trans; []api.Trans; api.Arm; []api.Arm; api.Node; []api.Node; api.Enum; []api.Enum; api.Program; error; api.Kind
set_option linter.defProp false
def tfNdL := And.intro @tfA (And.intro @Ex.settle_pv (And.intro @Ex.pure_pv (And.intro @Ex.cells_pv (And.intro @Ex.cs.eq_1 (And.intro @On.pv.eq_1 (And.intro @Ty.pv.eq_1 (And.intro @Va.settle_pv (And.intro @Va.pure_pv (And.intro @Va.cells_pv (And.intro @Va.cs.eq_1 (And.intro @Qu.settle_pv (And.intro @Qu.pure_pv (And.intro @Qu.cells_pv (And.intro @Qu.cs.eq_1 (And.intro @No.settle_pv (And.intro @No.pure_pv (And.intro @No.cells_pv (And.intro @No.cs.eq_1 @No.pv.eq_1))))))))))))))))))

theorem kind_errL (o : Option (Int × Int)) (m : M) : ACalls Tryd.prog 12 [errL o] m (fun v m' => v = pI (kL o) ∧ m' = m) := by
  cases o with
  | none => exact kind_nil m
  | some p => exact kind_at6 p.1 p.2 m
theorem where_errL (o : Option (Int × Int)) (m : M) : ACalls Tryd.prog 13 [errL o] m (fun v m' => v = wL o ∧ m' = m) := by
  cases o with
  | none => exact where_nil m
  | some p => exact where_at p.1 p.2 6 m
set_option maxHeartbeats 1000000 in
theorem same_any (o1 o2 : Own) (l : List Str) (m : M) : ACalls Tryd.prog 15 [.sl o1 (l.map pS), .sl o2 (l.map pS)] m (fun v m' => v = pB true ∧ m' = m) := by
  have hnn : ((l.length : Int) != (l.length : Int)) = false := by simp
  refine ACalls.enter (mu := []) ok_mix Tryd.func15 rfl (by kernel_rfl) (by kernel_rfl) (by simp only [List.length_cons, List.length_nil, Tryd.ntmps15]; omega) ?_
  (repeat (first | refine aSeq fun X hX => ?_ | refine aBlk ?_ | refine aSkip ?_ | (first | refine aExit ?_ | refine aRet ?_); try simp only [slx, ↓reduceIte, Nat.reduceEqDiff, reduceCtorEq] | (first | refine aReg ?_ | refine aIf ?_); simp -implicitDefEqProofs only [forall_eq, ↓slp, slb, ↓reduceIte, reduceCtorEq, jA, jB, jC, jD, jE, jF, jG, jH, jI, jJ, jK, tfNdL, hnn]; try simp only [Ex.fold, Ex.foldcs, ← Va.pv.eq_1] | refine hX _ _ ?_; clear hX X | clear hX X; refine hX _ _ ?_; clear hX X | clear hX X; clear hX X; refine hX _ _ ?_; clear hX X | intro hlen; unfold maxLen at hlen | apply And.intro; focus (first | omega | assumption | (repeat' apply And.intro) <;> first | omega | assumption)))
  obtain ⟨I, hI⟩ : ∃ I : F → M → Prop, ∀ f m', I f m' = (∃ k : Nat, k ≤ l.length ∧ f 0 = .sl o1 (l.map pS) ∧ f 1 = .sl o2 (l.map pS) ∧ f 5 = pI k ∧ m = m') := ⟨_, fun _ _ => rfl⟩
  refine aLoop I (fun f m => l.length - numOf (f 5)) ?_ ?_
  · rw [hI]; exact ⟨0, by omega, rfl, rfl, rfl, rfl⟩
  intro f m' hrel
  rw [hI] at hrel
  obtain ⟨k, hk, f0, f1, f5, rfl⟩ := hrel
  cases c1 : decide ((k : Int) < (l.length : Int)) with
  | false =>
    (repeat (first | refine aSeq fun X hX => ?_ | refine aBlk ?_ | refine aSkip ?_ | (first | refine aExit ?_ | refine aRet ?_); try simp only [slx, ↓reduceIte, Nat.reduceEqDiff, reduceCtorEq] | (first | refine aReg ?_ | refine aIf ?_); simp -implicitDefEqProofs only [forall_eq, ↓slp, slb, ↓reduceIte, reduceCtorEq, jA, jB, jC, jD, jE, jF, jG, jH, jI, jJ, jK, tfNdL, f0, f1, f5, pI, c1]; try simp only [Ex.fold, Ex.foldcs, ← Va.pv.eq_1] | refine hX _ _ ?_; clear hX X | clear hX X; refine hX _ _ ?_; clear hX X | clear hX X; clear hX X; refine hX _ _ ?_; clear hX X | intro hlen; unfold maxLen at hlen | apply And.intro; focus (first | omega | assumption | (repeat' apply And.intro) <;> first | omega | assumption)))
    simp only [aPost, Tryd.results15, aRes_n, aRes_t, aRes_c, pack_one, pack_two]
    exact leave_same rfl ⟨rfl, rfl⟩
  | true =>
    have hlt : k < l.length := by simpa using c1
    have g0 := getD_map pS l k hlt
    have hi : IntKind.i64.wrap ((k : Int) + 1) = ((k + 1 : Nat) : Int) := by rw [wrap64 (by omega)]; omega
    have hme : numOf (f 5) = k := by rw [f5]; exact Int.toNat_natCast k
    obtain ⟨x, hx⟩ : ∃ x, l[k] = x := ⟨_, rfl⟩
    rw [hx] at g0
    have c2 : (!(x.toList == x.toList)) = false := by simp
    (repeat (first | refine aSeq fun X hX => ?_ | refine aBlk ?_ | refine aSkip ?_ | (first | refine aExit ?_ | refine aRet ?_); try simp only [slx, ↓reduceIte, Nat.reduceEqDiff, reduceCtorEq] | (first | refine aReg ?_ | refine aIf ?_); simp -implicitDefEqProofs only [forall_eq, ↓slp, slb, ↓reduceIte, reduceCtorEq, jA, jB, jC, jD, jE, jF, jG, jH, jI, jJ, jK, tfNdL, f0, f1, f5, pI, pS, c1, g0]; try simp only [Ex.fold, Ex.foldcs, ← Va.pv.eq_1] | refine hX _ _ ?_; clear hX X | clear hX X; refine hX _ _ ?_; clear hX X | clear hX X; clear hX X; refine hX _ _ ?_; clear hX X | intro hlen; unfold maxLen at hlen | apply And.intro; focus (first | omega | assumption | (repeat' apply And.intro) <;> first | omega | assumption)))
    (repeat (first | refine aSeq fun X hX => ?_ | refine aBlk ?_ | refine aSkip ?_ | (first | refine aExit ?_ | refine aRet ?_); try simp only [slx, ↓reduceIte, Nat.reduceEqDiff, reduceCtorEq] | (first | refine aReg ?_ | refine aDrE ?_ | refine aIf ?_); simp -implicitDefEqProofs only [forall_eq, ↓slp, slb, ↓reduceIte, reduceCtorEq, jA, jB, jC, jD, jE, jF, jG, jH, jI, jJ, jK, tfNdL, f0, f1, f5, pI, pS, c1, g0, hlt, c2, hi]; try simp only [Ex.fold, Ex.foldcs, ← Va.pv.eq_1] | refine hX _ _ ?_; clear hX X | clear hX X; refine hX _ _ ?_; clear hX X | clear hX X; clear hX X; refine hX _ _ ?_; clear hX X | intro hlen; unfold maxLen at hlen | apply And.intro; focus (first | omega | assumption | (repeat' apply And.intro) <;> first | omega | assumption)))
    rw [hI]
    exact ⟨⟨k + 1, hlt, f0, f1, rfl, rfl⟩, by omega⟩
def sNo : Str := ⟨#[110, 111]⟩
theorem nm_no : ∀ i, i < 8 → eqS (nmD i) sNo = false := by decide +kernel
theorem needs_none {S : List Str} {P : List No} {s : Str} (h : ∀ n ∈ P, eqS n.name s = false) : needsD S P s = [] := by
  unfold needsD
  show needsN (cfN 0 P) (2 * S.length) (addL [] (cfN 0 P s)) ([] ++ (addL [] (cfN 0 P s)).drop 0) = []
  rw [cfN_neg h]
  generalize 2 * S.length = g
  cases g <;> rfl
theorem placed_no {k : Nat} {l : List No} (hk : l.length = k) (h8 : k ≤ 8) (h : ∀ i (hi : i < l.length), RawN k i l[i]) (c : Int) : ∀ n ∈ (plNs l c).1, eqS n.name sNo = false := fun n hn => by
  have hlen := plNs_len l c
  obtain ⟨i, hi, rfl⟩ := List.getElem_of_mem hn
  obtain ⟨d, hd⟩ := plNs_at l c i (by omega) hi
  rw [hd, (plN_raw (h i (by omega)) d).1]
  exact nm_no i (by omega)
set_option maxHeartbeats 16000000 in
theorem needsLaw_any (n : Int) (hn : 0 ≤ n ∧ n ≤ 255) (l : List Int) (hel : ∀ x ∈ l, 0 ≤ x ∧ x ≤ 255) :
    ACalls Tryd.prog 5 [qU n, .sl .no (l.map qU)] M0 (fun v m' => v = .v (.bool true)) := by
  have hpc := callsP_any n hn l hel
  refine ACalls.enter (mu := [5, 9]) ok_mix Tryd.func5 rfl (by kernel_rfl) (by kernel_rfl) (by simp only [List.length_cons, List.length_nil, Tryd.ntmps5]; omega) ?_
  (repeat (first | refine aSeq fun X hX => ?_ | refine aBlk ?_ | refine aSkip ?_ | (first | refine aExit ?_ | refine aRet ?_); try simp only [slx, ↓reduceIte, Nat.reduceEqDiff, reduceCtorEq] | (first | refine aReg ?_ | refine aIf ?_); simp -implicitDefEqProofs only [forall_eq, ↓slp, slb, ↓reduceIte, reduceCtorEq, jA, jB, jC, jD, jE, jF, jG, jH, jI, jJ, jK, tfNdL]; try simp only [Ex.fold, Ex.foldcs, ← Va.pv.eq_1] | refine hX _ _ ?_; clear hX X | clear hX X; refine hX _ _ ?_; clear hX X | clear hX X; clear hX X; refine hX _ _ ?_; clear hX X | intro hlen; unfold maxLen at hlen | apply And.intro; focus (first | omega | assumption | (repeat' apply And.intro) <;> first | omega | assumption)))
  refine callE (awake_run _) ?_
  simp -implicitDefEqProofs only [↓slp, slb, ↓reduceIte, reduceCtorEq, jA, jB, jC, jD, jE, jF, jG, jH, jI, jJ, jK, tfNdL]; try simp only [Ex.fold, Ex.foldcs, ← Va.pv.eq_1]
  (repeat (first | refine aSeq fun X hX => ?_ | refine aBlk ?_ | refine aSkip ?_ | (first | refine aExit ?_ | refine aRet ?_); try simp only [slx, ↓reduceIte, Nat.reduceEqDiff, reduceCtorEq] | (first | refine aReg ?_ | refine aIf ?_); simp -implicitDefEqProofs only [forall_eq, ↓slp, slb, ↓reduceIte, reduceCtorEq, jA, jB, jC, jD, jE, jF, jG, jH, jI, jJ, jK, tfNdL]; try simp only [Ex.fold, Ex.foldcs, ← Va.pv.eq_1] | refine hX _ _ ?_; clear hX X | clear hX X; refine hX _ _ ?_; clear hX X | clear hX X; clear hX X; refine hX _ _ ?_; clear hX X | intro hlen; unfold maxLen at hlen | apply And.intro; focus (first | omega | assumption | (repeat' apply And.intro) <;> first | omega | assumption)))
  refine callM hpc ?_
  rintro v mv ⟨⟨k, ns, hk0, hk8, hnl, hraw, rfl⟩, rfl⟩
  have hD := placed_ok hnl hk8 hraw 0
  have hNo := needs_none (S := SD k) (placed_no hnl hk8 hraw 0)
  clear hraw hnl
  generalize (plNs ns 0).1 = P at *
  generalize SD k = S at *
  have hln := hD.len
  have hFC : ∀ n ∈ P, FlatC S n.b.eqs := fun n hn => ⟨hD.eqs n hn, hD.inS n hn⟩
  have hne := fun (s : Str) m => needs_any hD.lenS 0 [] P (fun n hn => calls_any hD.lenS 0 _ (fun q hq => ⟨(hD.inS n hn q hq).2, fun a ha => by rw [(hD.inS n hn q hq).1] at ha; simp at ha⟩)) s m
  have hrn := fun (s : Str) m => rNeeds_any hD.lenS [] P (by omega) hFC s m
  have hor := fun m => order_any hD.lenS [] P hFC (by omega) m
  have hro := fun m => rorder_any hD.lenS [] P hFC (by omega) m
  have hch := fun m => checkD_any hD m
  have hrc := fun m => rcheckD_any hD m
  have hsm := fun (l : List Str) m => same_any .no .no l m
  simp -implicitDefEqProofs only [↓slp, slb, ↓reduceIte, reduceCtorEq, jA, jB, jC, jD, jE, jF, jG, jH, jI, jJ, jK, tfNdL]; try simp only [Ex.fold, Ex.foldcs, ← Va.pv.eq_1]
  (repeat (first | refine aSeq fun X hX => ?_ | refine aBlk ?_ | refine aSkip ?_ | (first | refine aExit ?_ | refine aRet ?_); try simp only [slx, ↓reduceIte, Nat.reduceEqDiff, reduceCtorEq] | (first | refine aReg ?_ | refine aIf ?_); simp -implicitDefEqProofs only [forall_eq, ↓slp, slb, ↓reduceIte, reduceCtorEq, jA, jB, jC, jD, jE, jF, jG, jH, jI, jJ, jK, tfNdL]; try simp only [Ex.fold, Ex.foldcs, ← Va.pv.eq_1] | refine hX _ _ ?_; clear hX X | clear hX X; refine hX _ _ ?_; clear hX X | clear hX X; clear hX X; refine hX _ _ ?_; clear hX X | intro hlen; unfold maxLen at hlen | apply And.intro; focus (first | omega | assumption | (repeat' apply And.intro) <;> first | omega | assumption)))
  obtain ⟨ms, hms⟩ : ∃ ms, M0.ext [some [.sl .no [], .sl .no (P.map No.pv)]] = ms := ⟨_, rfl⟩
  have hg : ms.get 0 = some [.sl .no [], .sl .no (P.map No.pv)] := by rw [← hms]; exact ext_get (m := M0) (i := 0) rfl
  rw [hms]
  obtain ⟨I, hI⟩ : ∃ I : F → M → Prop, ∀ f m', I f m' = (∃ i : Nat, i ≤ P.length ∧ f 5 = .bp 0 0 ∧ f 6 = pI i ∧ ms = m') := ⟨_, fun _ _ => rfl⟩
  refine aLoop I (fun f m => P.length - numOf (f 6)) ?_ ?_
  · rw [hI]; exact ⟨0, by omega, rfl, rfl, rfl⟩
  intro f m' hrel
  rw [hI] at hrel
  obtain ⟨i, hi, f5, f6, rfl⟩ := hrel
  cases c1 : decide ((i : Int) < (P.length : Int)) with
  | true =>
    have hlt : i < P.length := by simpa using c1
    have g0 := getD_map No.pv P i hlt
    have hii : IntKind.i64.wrap ((i : Int) + 1) = ((i + 1 : Nat) : Int) := by rw [wrap64 (by omega)]; omega
    have hme : numOf (f 6) = i := by rw [f6]; exact Int.toNat_natCast i
    obtain ⟨x, hx⟩ : ∃ x, P[i] = x := ⟨_, rfl⟩
    rw [hx] at g0
    have h1 := hne x.name
    have h2 := hrn x.name
    generalize needsN (cfN 0 P) (2 * S.length + 1) [] [x.name] = R at *
    have h3 := hsm R
    (repeat (first | refine aSeq fun X hX => ?_ | refine aBlk ?_ | refine aSkip ?_ | (first | refine aExit ?_ | refine aRet ?_); try simp only [slx, ↓reduceIte, Nat.reduceEqDiff, reduceCtorEq] | (first | refine aReg ?_ | refine aIf ?_); simp -implicitDefEqProofs only [forall_eq, ↓slp, slb, ↓reduceIte, reduceCtorEq, jA, jB, jC, jD, jE, jF, jG, jH, jI, jJ, jK, tfNdL, f5, f6, pI, c1, hg]; try simp only [Ex.fold, Ex.foldcs, ← Va.pv.eq_1] | refine hX _ _ ?_; clear hX X | clear hX X; refine hX _ _ ?_; clear hX X | clear hX X; clear hX X; refine hX _ _ ?_; clear hX X | intro hlen; unfold maxLen at hlen | apply And.intro; focus (first | omega | assumption | (repeat' apply And.intro) <;> first | omega | assumption)))
    (repeat (first | refine aSeq fun X hX => ?_ | refine aBlk ?_ | refine aSkip ?_ | (first | refine aExit ?_ | refine aRet ?_); try simp only [slx, ↓reduceIte, Nat.reduceEqDiff, reduceCtorEq] | (first | refine aReg ?_ | refine aDrE ?_ | refine aIf ?_); simp -implicitDefEqProofs only [forall_eq, ↓slp, slb, ↓reduceIte, reduceCtorEq, jA, jB, jC, jD, jE, jF, jG, jH, jI, jJ, jK, tfNdL, f5, f6, pI, hg, g0, hlt]; try simp only [Ex.fold, Ex.foldcs, ← Va.pv.eq_1] | refine hX _ _ ?_; clear hX X | clear hX X; refine hX _ _ ?_; clear hX X | clear hX X; clear hX X; refine hX _ _ ?_; clear hX X | intro hlen; unfold maxLen at hlen | apply And.intro; focus (first | omega | assumption | (repeat' apply And.intro) <;> first | omega | assumption)))
    refine callM (h1 _) ?_
    rintro v mv ⟨rfl, _, hmv⟩
    subst hmv
    simp -implicitDefEqProofs only [↓slp, slb, ↓reduceIte, reduceCtorEq, jA, jB, jC, jD, jE, jF, jG, jH, jI, jJ, jK, tfNdL, f5, f6, pI, hg, g0, hlt]; try simp only [Ex.fold, Ex.foldcs, ← Va.pv.eq_1]
    first | refine callE (h2 _) ?_ | refine ⟨hlt, callE (h2 _) ?_⟩
    simp -implicitDefEqProofs only [↓slp, slb, ↓reduceIte, reduceCtorEq, jA, jB, jC, jD, jE, jF, jG, jH, jI, jJ, jK, tfNdL]; try simp only [Ex.fold, Ex.foldcs, ← Va.pv.eq_1]
    refine callE (h3 _) ?_
    simp -implicitDefEqProofs only [↓slp, slb, ↓reduceIte, reduceCtorEq, jA, jB, jC, jD, jE, jF, jG, jH, jI, jJ, jK, tfNdL, pB]; try simp only [Ex.fold, Ex.foldcs, ← Va.pv.eq_1]
    (repeat (first | refine aSeq fun X hX => ?_ | refine aBlk ?_ | refine aSkip ?_ | (first | refine aExit ?_ | refine aRet ?_); try simp only [slx, ↓reduceIte, Nat.reduceEqDiff, reduceCtorEq] | (first | refine aReg ?_ | refine aIf ?_); simp -implicitDefEqProofs only [forall_eq, ↓slp, slb, ↓reduceIte, reduceCtorEq, jA, jB, jC, jD, jE, jF, jG, jH, jI, jJ, jK, tfNdL, f6, pI, hii]; try simp only [Ex.fold, Ex.foldcs, ← Va.pv.eq_1] | refine hX _ _ ?_; clear hX X | clear hX X; refine hX _ _ ?_; clear hX X | clear hX X; clear hX X; refine hX _ _ ?_; clear hX X | intro hlen; unfold maxLen at hlen | apply And.intro; focus (first | omega | assumption | (repeat' apply And.intro) <;> first | omega | assumption)))
    rw [hI]
    exact ⟨⟨i + 1, hlt, f5, rfl, rfl⟩, by omega⟩
  | false =>
    have hNo2 : needsN (cfN 0 P) (2 * S.length + 1) [] [sNo] = [] := hNo
    have h1 := hne sNo
    rw [hNo2] at h1
    generalize orderN P P.length [] = O at *
    have h3 := hsm O
    generalize loopF S P P = T at *
    obtain ⟨a, b, hab⟩ : ∃ a b, wL T = pP a b := by
      cases T with
      | none => exact ⟨0, 0, rfl⟩
      | some p => exact ⟨p.1, p.2, rfl⟩
    have hW := fun m => where_errL T m
    have hKd := fun m => kind_errL T m
    rw [hab] at hrc hW
    generalize kL T = kd at *
    generalize errL T = er at *
    (repeat (first | refine aSeq fun X hX => ?_ | refine aBlk ?_ | refine aSkip ?_ | (first | refine aExit ?_ | refine aRet ?_); try simp only [slx, ↓reduceIte, Nat.reduceEqDiff, reduceCtorEq] | (first | refine aReg ?_ | refine aIf ?_); simp -implicitDefEqProofs only [forall_eq, ↓slp, slb, ↓reduceIte, reduceCtorEq, jA, jB, jC, jD, jE, jF, jG, jH, jI, jJ, jK, tfNdL, f5, f6, pI, c1, hg]; try simp only [Ex.fold, Ex.foldcs, ← Va.pv.eq_1] | refine hX _ _ ?_; clear hX X | clear hX X; refine hX _ _ ?_; clear hX X | clear hX X; clear hX X; refine hX _ _ ?_; clear hX X | intro hlen; unfold maxLen at hlen | apply And.intro; focus (first | omega | assumption | (repeat' apply And.intro) <;> first | omega | assumption)))
    refine callE (hch _) ?_
    simp -implicitDefEqProofs only [↓slp, slb, ↓reduceIte, reduceCtorEq, jA, jB, jC, jD, jE, jF, jG, jH, jI, jJ, jK, tfNdL]; try simp only [Ex.fold, Ex.foldcs, ← Va.pv.eq_1]
    (repeat (first | refine aSeq fun X hX => ?_ | refine aBlk ?_ | refine aSkip ?_ | (first | refine aExit ?_ | refine aRet ?_); try simp only [slx, ↓reduceIte, Nat.reduceEqDiff, reduceCtorEq] | (first | refine aReg ?_ | refine aIf ?_); simp -implicitDefEqProofs only [forall_eq, ↓slp, slb, ↓reduceIte, reduceCtorEq, jA, jB, jC, jD, jE, jF, jG, jH, jI, jJ, jK, tfNdL, f5, pI, hg]; try simp only [Ex.fold, Ex.foldcs, ← Va.pv.eq_1] | refine hX _ _ ?_; clear hX X | clear hX X; refine hX _ _ ?_; clear hX X | clear hX X; clear hX X; refine hX _ _ ?_; clear hX X | intro hlen; unfold maxLen at hlen | apply And.intro; focus (first | omega | assumption | (repeat' apply And.intro) <;> first | omega | assumption)))
    refine callE (hrc _) ?_
    simp -implicitDefEqProofs only [↓slp, slb, ↓reduceIte, reduceCtorEq, jA, jB, jC, jD, jE, jF, jG, jH, jI, jJ, jK, tfNdL, f5]; try simp only [Ex.fold, Ex.foldcs, ← Va.pv.eq_1]
    (repeat (first | refine aSeq fun X hX => ?_ | refine aBlk ?_ | refine aSkip ?_ | (first | refine aExit ?_ | refine aRet ?_); try simp only [slx, ↓reduceIte, Nat.reduceEqDiff, reduceCtorEq] | (first | refine aReg ?_ | refine aIf ?_); simp -implicitDefEqProofs only [forall_eq, ↓slp, slb, ↓reduceIte, reduceCtorEq, jA, jB, jC, jD, jE, jF, jG, jH, jI, jJ, jK, tfNdL, f5, pI, hg]; try simp only [Ex.fold, Ex.foldcs, ← Va.pv.eq_1] | refine hX _ _ ?_; clear hX X | clear hX X; refine hX _ _ ?_; clear hX X | clear hX X; clear hX X; refine hX _ _ ?_; clear hX X | intro hlen; unfold maxLen at hlen | apply And.intro; focus (first | omega | assumption | (repeat' apply And.intro) <;> first | omega | assumption)))
    obtain ⟨m3, hm3⟩ : ∃ m3, ms.ext [some [PV.v (Value.int IntKind.i64 a), PV.v (Value.int IntKind.i64 b)]] = m3 := ⟨_, rfl⟩
    have hg3 : m3.get 0 = some [.sl .no [], .sl .no (P.map No.pv)] := by rw [← hm3]; exact ext_old hg
    have hg4 : m3.get ms.nb = some [PV.v (Value.int IntKind.i64 a), PV.v (Value.int IntKind.i64 b)] := by rw [← hm3]; exact ext_get (i := 0) rfl
    rw [hm3]
    (repeat (first | refine aSeq fun X hX => ?_ | refine aBlk ?_ | refine aSkip ?_ | (first | refine aExit ?_ | refine aRet ?_); try simp only [slx, ↓reduceIte, Nat.reduceEqDiff, reduceCtorEq] | (first | refine aReg ?_ | refine aDrE ?_ | refine aIf ?_); simp -implicitDefEqProofs only [forall_eq, ↓slp, slb, ↓reduceIte, reduceCtorEq, jA, jB, jC, jD, jE, jF, jG, jH, jI, jJ, jK, tfNdL, f5, pI, hg3]; try simp only [Ex.fold, Ex.foldcs, ← Va.pv.eq_1] | refine hX _ _ ?_; clear hX X | clear hX X; refine hX _ _ ?_; clear hX X | clear hX X; clear hX X; refine hX _ _ ?_; clear hX X | intro hlen; unfold maxLen at hlen | apply And.intro; focus (first | omega | assumption | (repeat' apply And.intro) <;> first | omega | assumption)))
    refine callE (hor _) ?_
    simp -implicitDefEqProofs only [↓slp, slb, ↓reduceIte, reduceCtorEq, jA, jB, jC, jD, jE, jF, jG, jH, jI, jJ, jK, tfNdL, f5, pI, hg3]; try simp only [Ex.fold, Ex.foldcs, ← Va.pv.eq_1]
    refine callE (hro _) ?_
    simp -implicitDefEqProofs only [↓slp, slb, ↓reduceIte, reduceCtorEq, jA, jB, jC, jD, jE, jF, jG, jH, jI, jJ, jK, tfNdL, f5, pI, hg3]; try simp only [Ex.fold, Ex.foldcs, ← Va.pv.eq_1]
    refine callE (h3 _) ?_
    simp -implicitDefEqProofs only [↓slp, slb, ↓reduceIte, reduceCtorEq, jA, jB, jC, jD, jE, jF, jG, jH, jI, jJ, jK, tfNdL, pB, pI]; try simp only [Ex.fold, Ex.foldcs, ← Va.pv.eq_1]
    refine callE (hKd _) ?_
    simp -implicitDefEqProofs only [↓slp, slb, ↓reduceIte, reduceCtorEq, jA, jB, jC, jD, jE, jF, jG, jH, jI, jJ, jK, tfNdL, pI]; try simp only [Ex.fold, Ex.foldcs, ← Va.pv.eq_1]
    refine callE (hW _) ?_
    simp -implicitDefEqProofs only [↓slp, slb, ↓reduceIte, reduceCtorEq, jA, jB, jC, jD, jE, jF, jG, jH, jI, jJ, jK, tfNdL, f5, pI, hg3, hg4]; try simp only [Ex.fold, Ex.foldcs, ← Va.pv.eq_1]
    refine callM (h1 _) ?_
    rintro v mv ⟨rfl, _, hmv⟩
    subst hmv
    simp -implicitDefEqProofs only [↓slp, slb, ↓reduceIte, reduceCtorEq, jA, jB, jC, jD, jE, jF, jG, jH, jI, jJ, jK, tfNdL]; try simp only [Ex.fold, Ex.foldcs, ← Va.pv.eq_1]
    (repeat (first | refine aSeq fun X hX => ?_ | refine aBlk ?_ | refine aSkip ?_ | (first | refine aExit ?_ | refine aRet ?_); try simp only [slx, ↓reduceIte, Nat.reduceEqDiff, reduceCtorEq] | (first | refine aReg ?_ | refine aIf ?_); simp -implicitDefEqProofs only [forall_eq, ↓slp, slb, ↓reduceIte, reduceCtorEq, jA, jB, jC, jD, jE, jF, jG, jH, jI, jJ, jK, tfNdL]; try simp only [Ex.fold, Ex.foldcs, ← Va.pv.eq_1] | refine hX _ _ ?_; clear hX X | clear hX X; refine hX _ _ ?_; clear hX X | clear hX X; clear hX X; refine hX _ _ ?_; clear hX X | intro hlen; unfold maxLen at hlen | apply And.intro; focus (first | omega | assumption | (repeat' apply And.intro) <;> first | omega | assumption)))
    simp only [aPost, Tryd.results5, aRes_n, aRes_t, aRes_c, pack_one, pack_two]
    rw [← hm3, ← hms]
    exact leave_ext (bs := [_, _]) rfl rfl
end Go.Proofs.YteiaedmipkcfeaaDoor
