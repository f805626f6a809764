/-
  The law ClocksWhens.
-/
import Derived.Test.YtamdnlnoioglnaaCkR
set_option linter.unusedVariables false
set_option linter.unusedSimpArgs false
namespace Go.Proofs.Ytamdnlnoioglnaa
open Nat renaming reduceEqDiff → jA, reduceAdd → jB, reduceMul → jC, reduceLT → jD, reduceLeDiff → jE, reduceBEq → jF, reduceBNe → jG
open Int renaming reduceLE → jH, reduceLT → jI, reduceToNat → jJ, reduceEq → jK
open Go
set_option maxRecDepth 20000
-- TNAMES: int; uint8; int32; string; bool; []string; []api.Expr; api.Expr; []bool; api.Pos; api.Program; []api.Enum; []api.Node; error
set_option linter.defProp false
def tfCkL := And.intro @tfA (And.intro @Ex.settle_pv (And.intro @Ex.pure_pv (And.intro @Ex.cells_pv (And.intro @Ex.cs.eq_1 (And.intro @On.pv.eq_1 (And.intro @Ty.pv.eq_1 (And.intro @Va.settle_pv (And.intro @Va.pure_pv (And.intro @Va.cells_pv @Va.cs.eq_1)))))))))

/-- An expression's cells in a box of its own. -/
def csF (e : Ex) : List PV := [.v (.int .u8 e.kind), .v (.int .u8 e.op), .v (.int .i32 e.n), .v (.string e.name), .sl .full (e.names.map pS), .sl .full (e.kids.map Ex.pv), .v (.int .i64 e.line), .v (.int .i64 e.col)]
def lab (b : Bool) : Str := if b then wT else wN
def nest (w : Bool) (l : List Bool) : Ex := l.foldl (fun e b => whE (lab b) e) (bsE w)
theorem nest_snoc (w : Bool) (l : List Bool) (b : Bool) : nest w (l ++ [b]) = whE (lab b) (nest w l) := by unfold nest; rw [List.foldl_append]; rfl
theorem nest_nar (w : Bool) : ∀ (l : List Bool), (nest w l).nar := by
  have : ∀ (l : List Bool) (e : Ex), e.nar → (l.foldl (fun e b => whE (lab b) e) e).nar := by
    intro l
    induction l with
    | nil => exact fun e h => h
    | cons b l ih => exact fun e h => ih _ ⟨by show 1 ≤ 1000000; omega, h, trivial⟩
  intro l
  refine this l _ ?_
  cases w
  · exact ⟨by show 0 ≤ 1000000; omega, trivial⟩
  · exact ⟨by show 0 ≤ 1000000; omega, trivial⟩
theorem mg_nar {e : Ex} (h : e.nar) : (mgE e).nar := ⟨by show 2 ≤ 1000000; omega, h, ⟨by show 0 ≤ 1000000; omega, trivial⟩, trivial⟩
theorem whens_cases (w : Bool) (l : List Bool) : (Rt (nest w l) ∧ (l = [] ∨ (l = [true] ∧ w = false))) ∨ (Wr (nest w l) ∧ ((∃ b, l = [b] ∧ (b && !w) = false) ∨ 2 ≤ l.length)) := by
  match l with
  | [] => cases w; exact .inl ⟨rt0, .inl rfl⟩; exact .inl ⟨rt1, .inl rfl⟩
  | [true] =>
    cases w
    · exact .inl ⟨rt2, .inr ⟨rfl, rfl⟩⟩
    · exact .inr ⟨wr0, .inl ⟨true, rfl, rfl⟩⟩
  | [false] => exact .inr ⟨wr1 w, .inl ⟨false, rfl, rfl⟩⟩
  | b1 :: b2 :: r =>
    refine .inr ⟨?_, .inr (by simp)⟩
    obtain ⟨q, c, b, hq⟩ : ∃ q c b, b1 :: b2 :: r = q ++ [c] ++ [b] := by
      have h1 : (b1 :: b2 :: r) ≠ [] := by simp
      refine ⟨(b1 :: b2 :: r).dropLast.dropLast, (b1 :: b2 :: r).dropLast.getLast (by simp), (b1 :: b2 :: r).getLast h1, ?_⟩
      rw [List.dropLast_concat_getLast, List.dropLast_concat_getLast]
    rw [hq, nest_snoc, nest_snoc]
    cases b
    · exact wr3 _ _
    · exact wr2 _ _
set_option maxHeartbeats 8000000 in
theorem whens_main (l : List Bool) (w : Bool) (hl : l.length ≤ 10) :
    ACalls Try.prog 5 [.sl .no (l.map pB), pB w] M0 (fun v m' => v = .v (.bool true)) := by
  have c1 : decide ((l.length : Int) > 10) = false := by simp; omega
  refine ACalls.enter (mu := [5]) ok_mix Try.func5 rfl (by kernel_rfl) (by kernel_rfl) (by simp only [List.length_cons, List.length_nil, Try.ntmps5]; omega) ?_
  (repeat (first | refine aSeq fun X hX => ?_ | refine aBlk ?_ | refine aSkip ?_ | (first | refine aExit ?_ | refine aRet ?_); try simp only [slx, ↓reduceIte, Nat.reduceEqDiff, reduceCtorEq] | (first | refine aReg ?_ | refine aDrE ?_); simp -implicitDefEqProofs only [forall_eq, ↓slp, slb, ↓reduceIte, reduceCtorEq, jA, jB, jC, jD, jE, jF, jG, jH, jI, jJ, jK, tfCkL, c1]; try simp only [Ex.fold, Ex.foldcs, ← Va.pv.eq_1] | refine hX _ _ ?_; clear hX X | clear hX X; refine hX _ _ ?_; clear hX X | clear hX X; clear hX X; refine hX _ _ ?_; clear hX X | intro hlen; unfold maxLen at hlen | apply And.intro; focus (first | omega | assumption | (repeat' apply And.intro) <;> first | omega | assumption)))
  refine callE (awake_run _) ?_
  simp -implicitDefEqProofs only [↓slp, slb, ↓reduceIte, reduceCtorEq, jA, jB, jC, jD, jE, jF, jG, jH, jI, jJ, jK, tfCkL, c1]; try simp only [Ex.fold, Ex.foldcs, ← Va.pv.eq_1]
  (repeat (first | refine aSeq fun X hX => ?_ | refine aBlk ?_ | refine aSkip ?_ | (first | refine aExit ?_ | refine aRet ?_); try simp only [slx, ↓reduceIte, Nat.reduceEqDiff, reduceCtorEq] | (first | refine aReg ?_ | refine aDrE ?_); simp -implicitDefEqProofs only [forall_eq, ↓slp, slb, ↓reduceIte, reduceCtorEq, jA, jB, jC, jD, jE, jF, jG, jH, jI, jJ, jK, tfCkL, c1]; try simp only [Ex.fold, Ex.foldcs, ← Va.pv.eq_1] | refine hX _ _ ?_; clear hX X | clear hX X; refine hX _ _ ?_; clear hX X | clear hX X; clear hX X; refine hX _ _ ?_; clear hX X | intro hlen; unfold maxLen at hlen | apply And.intro; focus (first | omega | assumption | (repeat' apply And.intro) <;> first | omega | assumption)))
  refine aIf ?_; simp -implicitDefEqProofs only [↓slp, slb, ↓reduceIte, reduceCtorEq, jA, jB, jC, jD, jE, jF, jG, jH, jI, jJ, jK]
  (repeat (first | refine aSeq fun X hX => ?_ | refine aBlk ?_ | refine aSkip ?_ | (first | refine aExit ?_ | refine aRet ?_); try simp only [slx, ↓reduceIte, Nat.reduceEqDiff, reduceCtorEq] | (first | refine aReg ?_ | refine aDrE ?_); simp -implicitDefEqProofs only [forall_eq, ↓slp, slb, ↓reduceIte, reduceCtorEq, jA, jB, jC, jD, jE, jF, jG, jH, jI, jJ, jK, tfCkL]; try simp only [Ex.fold, Ex.foldcs, ← Va.pv.eq_1] | refine hX _ _ ?_; clear hX X | clear hX X; refine hX _ _ ?_; clear hX X | clear hX X; clear hX X; refine hX _ _ ?_; clear hX X | intro hlen; unfold maxLen at hlen | apply And.intro; focus (first | omega | assumption | (repeat' apply And.intro) <;> first | omega | assumption)))
  have join : ∀ (f : F) (e : Ex), e = bsE w → f 0 = .sl .no (l.map pB) → f 1 = pB w → f 5 = .bp 0 0 → X f (M0.ext [some (csF e)]) := by
    intro f e he f0 f1 f5
    have hget : ∀ c : List PV, (M0.ext [some c]).get 0 = some c := fun _ => rfl
    have hupd : ∀ c c' : List PV, (M0.ext [some c]).upd 0 c' = M0.ext [some c'] := fun _ _ => rfl
    refine hX _ _ ?_
    clear hX X
    (repeat (first | refine aSeq fun X hX => ?_ | refine aBlk ?_ | refine aSkip ?_ | (first | refine aExit ?_ | refine aRet ?_); try simp only [slx, ↓reduceIte, Nat.reduceEqDiff, reduceCtorEq] | (first | refine aReg ?_ | refine aDrE ?_); simp -implicitDefEqProofs only [forall_eq, ↓slp, slb, ↓reduceIte, reduceCtorEq, jA, jB, jC, jD, jE, jF, jG, jH, jI, jJ, jK, tfCkL, f0, f1, f5]; try simp only [Ex.fold, Ex.foldcs, ← Va.pv.eq_1] | refine hX _ _ ?_; clear hX X | clear hX X; refine hX _ _ ?_; clear hX X | clear hX X; clear hX X; refine hX _ _ ?_; clear hX X | intro hlen; unfold maxLen at hlen | apply And.intro; focus (first | omega | assumption | (repeat' apply And.intro) <;> first | omega | assumption)))
    obtain ⟨I, hI⟩ : ∃ I : F → M → Prop, ∀ f m', I f m' = (∃ k : Nat, k ≤ l.length ∧ f 0 = .sl .no (l.map pB) ∧ f 1 = pB w ∧ f 5 = .bp 0 0 ∧ f 6 = pI k ∧ m' = M0.ext [some (csF (nest w (l.take k)))]) := ⟨_, fun _ _ => rfl⟩
    refine aLoop I (fun f m => l.length - numOf (f 6)) ?_ ?_
    · rw [hI]; exact ⟨0, by omega, f0, f1, f5, rfl, by rw [he]; rfl⟩
    clear f0 f1 f5
    intro f m' hrel
    rw [hI] at hrel
    obtain ⟨k, hk, f0, f1, f5, f6, rfl⟩ := hrel
    cases c2 : decide ((k : Int) < (l.length : Int)) with
    | true =>
      have hlt : k < l.length := by simpa using c2
      have hg := getD_map pB l k hlt
      have hi : IntKind.i64.wrap ((k : Int) + 1) = ((k + 1 : Nat) : Int) := by rw [wrap64 (by omega)]; omega
      have hme : numOf (f 6) = k := by rw [f6]; exact Int.toNat_natCast k
      have hns := nest_snoc w (l.take k) l[k]
      rw [← List.take_succ_eq_append_getElem hlt] at hns
      generalize l[k] = b at *
      generalize nest w (l.take k) = e1 at *
      (repeat (first | refine aSeq fun X hX => ?_ | refine aBlk ?_ | refine aSkip ?_ | (first | refine aExit ?_ | refine aRet ?_); try simp only [slx, ↓reduceIte, Nat.reduceEqDiff, reduceCtorEq] | (first | refine aReg ?_ | refine aDrE ?_); simp -implicitDefEqProofs only [forall_eq, ↓slp, slb, ↓reduceIte, reduceCtorEq, jA, jB, jC, jD, jE, jF, jG, jH, jI, jJ, jK, tfCkL, f0, f6, c2, pI]; try simp only [Ex.fold, Ex.foldcs, ← Va.pv.eq_1] | refine hX _ _ ?_; clear hX X | clear hX X; refine hX _ _ ?_; clear hX X | clear hX X; clear hX X; refine hX _ _ ?_; clear hX X | intro hlen; unfold maxLen at hlen | apply And.intro; focus (first | omega | assumption | (repeat' apply And.intro) <;> first | omega | assumption)))
      refine aIf ?_; simp -implicitDefEqProofs only [↓slp, slb, ↓reduceIte, reduceCtorEq, jA, jB, jC, jD, jE, jF, jG, jH, jI, jJ, jK]
      (repeat (first | refine aSeq fun X hX => ?_ | refine aBlk ?_ | refine aSkip ?_ | (first | refine aExit ?_ | refine aRet ?_); try simp only [slx, ↓reduceIte, Nat.reduceEqDiff, reduceCtorEq] | (refine hX _ _ ?_; clear hX X) | (clear hX X; refine hX _ _ ?_; clear hX X)))
      refine aReg ?_; simp -implicitDefEqProofs only [↓slp, slb, ↓reduceIte, reduceCtorEq, jA, jB, jC, jD, jE, jF, jG, jH, jI, jJ, jK, tfCkL]
      refine hX _ _ ?_
      clear hX X
      refine aSeq fun X hX => ?_
      have fin : ∀ (f : F) (c : Str), c = lab b → f 0 = .sl .no (l.map pB) → f 1 = pB w → f 5 = .bp 0 0 → f 6 = pI k → f 7 = pS c → X f (M0.ext [some (csF e1)]) := by
        clear f0 f1 f5 f6
        intro f c hc f0 f1 f5 f6' f7
        refine hX _ _ ?_
        clear hX X
        (repeat (first | refine aSeq fun X hX => ?_ | refine aBlk ?_ | refine aSkip ?_ | (first | refine aExit ?_ | refine aRet ?_); try simp only [slx, ↓reduceIte, Nat.reduceEqDiff, reduceCtorEq] | (first | refine aReg ?_ | refine aDrE ?_); simp -implicitDefEqProofs only [forall_eq, ↓slp, slb, ↓reduceIte, reduceCtorEq, jA, jB, jC, jD, jE, jF, jG, jH, jI, jJ, jK, tfCkL, f0, f1, f5, f6', f7, pI, pS, hget, hupd, csF, hi]; try simp only [Ex.fold, Ex.foldcs, ← Va.pv.eq_1] | refine hX _ _ ?_; clear hX X | clear hX X; refine hX _ _ ?_; clear hX X | clear hX X; clear hX X; refine hX _ _ ?_; clear hX X | intro hlen; unfold maxLen at hlen | apply And.intro; focus (first | omega | assumption | (repeat' apply And.intro) <;> first | omega | assumption)))
        rw [hI]
        refine ⟨⟨k + 1, hlt, f0, f1, f5, rfl, ?_⟩, ?_⟩
        · rw [hns, ← hc]
          rfl
        · omega
      (repeat (first | refine aSeq fun X hX => ?_ | refine aBlk ?_ | refine aSkip ?_ | (first | refine aExit ?_ | refine aRet ?_); try simp only [slx, ↓reduceIte, Nat.reduceEqDiff, reduceCtorEq] | (first | refine aReg ?_ | refine aDrE ?_); simp -implicitDefEqProofs only [forall_eq, ↓slp, slb, ↓reduceIte, reduceCtorEq, jA, jB, jC, jD, jE, jF, jG, jH, jI, jJ, jK, tfCkL, f0, f6, pI, hg, pB]; try simp only [Ex.fold, Ex.foldcs, ← Va.pv.eq_1] | refine hX _ _ ?_; clear hX X | clear hX X; refine hX _ _ ?_; clear hX X | clear hX X; clear hX X; refine hX _ _ ?_; clear hX X | intro hlen; unfold maxLen at hlen | apply And.intro; focus (first | omega | assumption | (repeat' apply And.intro) <;> first | omega | assumption)))
      cases b with
      | true =>
        refine aIf ?_; simp -implicitDefEqProofs only [↓slp, slb, ↓reduceIte, reduceCtorEq, jA, jB, jC, jD, jE, jF, jG, jH, jI, jJ, jK]
        (repeat (first | refine aSeq fun X hX => ?_ | refine aBlk ?_ | refine aSkip ?_ | (first | refine aExit ?_ | refine aRet ?_); try simp only [slx, ↓reduceIte, Nat.reduceEqDiff, reduceCtorEq] | (first | refine aReg ?_ | refine aDrE ?_); simp -implicitDefEqProofs only [forall_eq, ↓slp, slb, ↓reduceIte, reduceCtorEq, jA, jB, jC, jD, jE, jF, jG, jH, jI, jJ, jK, tfCkL]; try simp only [Ex.fold, Ex.foldcs, ← Va.pv.eq_1] | refine hX _ _ ?_; clear hX X | clear hX X; refine hX _ _ ?_; clear hX X | clear hX X; clear hX X; refine hX _ _ ?_; clear hX X | intro hlen; unfold maxLen at hlen | apply And.intro; focus (first | omega | assumption | (repeat' apply And.intro) <;> first | omega | assumption)))
        exact fin _ wT rfl f0 f1 f5 f6 rfl
      | false =>
        refine aIf ?_; simp -implicitDefEqProofs only [↓slp, slb, ↓reduceIte, reduceCtorEq, jA, jB, jC, jD, jE, jF, jG, jH, jI, jJ, jK]
        exact fin _ wN rfl f0 f1 f5 f6 rfl
    | false =>
      have hk' : k = l.length := by simp at c2; omega
      subst hk'
      rw [List.take_length]
      have hnr := mg_nar (nest_nar w l)
      generalize hE : nest w l = E at *
      (repeat (first | refine aSeq fun X hX => ?_ | refine aBlk ?_ | refine aSkip ?_ | (first | refine aExit ?_ | refine aRet ?_); try simp only [slx, ↓reduceIte, Nat.reduceEqDiff, reduceCtorEq] | (first | refine aReg ?_ | refine aDrE ?_); simp -implicitDefEqProofs only [forall_eq, ↓slp, slb, ↓reduceIte, reduceCtorEq, jA, jB, jC, jD, jE, jF, jG, jH, jI, jJ, jK, tfCkL, f0, f5, f6, c2, pI]; try simp only [Ex.fold, Ex.foldcs, ← Va.pv.eq_1] | refine hX _ _ ?_; clear hX X | clear hX X; refine hX _ _ ?_; clear hX X | clear hX X; clear hX X; refine hX _ _ ?_; clear hX X | intro hlen; unfold maxLen at hlen | apply And.intro; focus (first | omega | assumption | (repeat' apply And.intro) <;> first | omega | assumption)))
      refine aIf ?_; simp -implicitDefEqProofs only [↓slp, slb, ↓reduceIte, reduceCtorEq, jA, jB, jC, jD, jE, jF, jG, jH, jI, jJ, jK]
      (repeat (first | refine aSeq fun X hX => ?_ | refine aBlk ?_ | refine aSkip ?_ | (first | refine aExit ?_ | refine aRet ?_); try simp only [slx, ↓reduceIte, Nat.reduceEqDiff, reduceCtorEq] | (first | refine aReg ?_ | refine aDrE ?_); simp -implicitDefEqProofs only [forall_eq, ↓slp, slb, ↓reduceIte, reduceCtorEq, jA, jB, jC, jD, jE, jF, jG, jH, jI, jJ, jK, tfCkL, f0, f1, f5, csF, hget]; try simp only [Ex.fold, Ex.foldcs, ← Va.pv.eq_1] | refine hX _ _ ?_; clear hX X | clear hX X; refine hX _ _ ?_; clear hX X | clear hX X; clear hX X; refine hX _ _ ?_; clear hX X | intro hlen; unfold maxLen at hlen | apply And.intro; focus (first | omega | assumption | (repeat' apply And.intro) <;> first | omega | assumption)))
      refine callE (program_any (mgE E) hnr _) ?_
      obtain ⟨x, hx⟩ : ∃ x, (plN (progOf (mgE E)) 0).1.pv = x := ⟨_, rfl⟩
      have hpg : PG E = .ag [.sl .no [], .sl .no [x]] := by rw [← hx]; rfl
      rw [hx]
      simp -implicitDefEqProofs only [↓slp, slb, ↓reduceIte, reduceCtorEq, jA, jB, jC, jD, jE, jF, jG, jH, jI, jJ, jK, tfCkL]; try simp only [Ex.fold, Ex.foldcs, ← Va.pv.eq_1]
      (repeat (first | refine aSeq fun X hX => ?_ | refine aBlk ?_ | refine aSkip ?_ | (first | refine aExit ?_ | refine aRet ?_); try simp only [slx, ↓reduceIte, Nat.reduceEqDiff, reduceCtorEq] | (first | refine aReg ?_ | refine aDrE ?_); simp -implicitDefEqProofs only [forall_eq, ↓slp, slb, ↓reduceIte, reduceCtorEq, jA, jB, jC, jD, jE, jF, jG, jH, jI, jJ, jK, tfCkL]; try simp only [Ex.fold, Ex.foldcs, ← Va.pv.eq_1] | refine hX _ _ ?_; clear hX X | clear hX X; refine hX _ _ ?_; clear hX X | clear hX X; clear hX X; refine hX _ _ ?_; clear hX X | intro hlen; unfold maxLen at hlen | apply And.intro; focus (first | omega | assumption | (repeat' apply And.intro) <;> first | omega | assumption)))
      rcases whens_cases w l with ⟨hrt, hcs⟩ | ⟨hwr, hcs⟩
      · rw [hE] at hrt
        obtain ⟨h1, h2⟩ := hrt
        rw [hpg] at h1 h2
        refine callE (h1 _) ?_
        simp -implicitDefEqProofs only [↓slp, slb, ↓reduceIte, reduceCtorEq, jA, jB, jC, jD, jE, jF, jG, jH, jI, jJ, jK, tfCkL]; try simp only [Ex.fold, Ex.foldcs, ← Va.pv.eq_1]
        (repeat (first | refine aSeq fun X hX => ?_ | refine aBlk ?_ | refine aSkip ?_ | (first | refine aExit ?_ | refine aRet ?_); try simp only [slx, ↓reduceIte, Nat.reduceEqDiff, reduceCtorEq] | (first | refine aReg ?_ | refine aDrE ?_); simp -implicitDefEqProofs only [forall_eq, ↓slp, slb, ↓reduceIte, reduceCtorEq, jA, jB, jC, jD, jE, jF, jG, jH, jI, jJ, jK, tfCkL]; try simp only [Ex.fold, Ex.foldcs, ← Va.pv.eq_1] | refine hX _ _ ?_; clear hX X | clear hX X; refine hX _ _ ?_; clear hX X | clear hX X; clear hX X; refine hX _ _ ?_; clear hX X | intro hlen; unfold maxLen at hlen | apply And.intro; focus (first | omega | assumption | (repeat' apply And.intro) <;> first | omega | assumption)))
        refine callM (h2 _) ?_
        rintro v m' ⟨ln, cl, rfl, rfl⟩
        have z0 : (((0 : Nat) : Int) == 0) = true := rfl
        have z1 : (((1 : Nat) : Int) == 0) = false := rfl
        have z2 : (((1 : Nat) : Int) == 1) = true := rfl
        rcases hcs with rfl | ⟨rfl, rfl⟩
        · have f0' : f 0 = .sl .no [] := f0
          simp -implicitDefEqProofs only [↓slp, slb, ↓reduceIte, reduceCtorEq, jA, jB, jC, jD, jE, jF, jG, jH, jI, jJ, jK, tfCkL, f0', f1, pB, z0]; try simp only [Ex.fold, Ex.foldcs, ← Va.pv.eq_1]
          (repeat (first | refine aSeq fun X hX => ?_ | refine aBlk ?_ | refine aSkip ?_ | (first | refine aExit ?_ | refine aRet ?_); try simp only [slx, ↓reduceIte, Nat.reduceEqDiff, reduceCtorEq] | (first | refine aReg ?_ | refine aDrE ?_); simp -implicitDefEqProofs only [forall_eq, ↓slp, slb, ↓reduceIte, reduceCtorEq, jA, jB, jC, jD, jE, jF, jG, jH, jI, jJ, jK, tfCkL, f0', f1, pB, z0]; try simp only [Ex.fold, Ex.foldcs, ← Va.pv.eq_1] | refine hX _ _ ?_; clear hX X | clear hX X; refine hX _ _ ?_; clear hX X | clear hX X; clear hX X; refine hX _ _ ?_; clear hX X | intro hlen; unfold maxLen at hlen | apply And.intro; focus (first | omega | assumption | (repeat' apply And.intro) <;> first | omega | assumption)))
          simp only [aPost, Try.results5, aRes_n, aRes_t, aRes_c, pack_one, pack_two]
          exact leave_ext rfl rfl
        · have f0' : f 0 = .sl .no [.v (.bool true)] := f0
          simp -implicitDefEqProofs only [↓slp, slb, ↓reduceIte, reduceCtorEq, jA, jB, jC, jD, jE, jF, jG, jH, jI, jJ, jK, tfCkL, f0', f1, pB, z1, z2]; try simp only [Ex.fold, Ex.foldcs, ← Va.pv.eq_1]
          (repeat (first | refine aSeq fun X hX => ?_ | refine aBlk ?_ | refine aSkip ?_ | (first | refine aExit ?_ | refine aRet ?_); try simp only [slx, ↓reduceIte, Nat.reduceEqDiff, reduceCtorEq] | (first | refine aReg ?_ | refine aDrE ?_); simp -implicitDefEqProofs only [forall_eq, ↓slp, slb, ↓reduceIte, reduceCtorEq, jA, jB, jC, jD, jE, jF, jG, jH, jI, jJ, jK, tfCkL, f0', f1, pB, z1, z2]; try simp only [Ex.fold, Ex.foldcs, ← Va.pv.eq_1] | refine hX _ _ ?_; clear hX X | clear hX X; refine hX _ _ ?_; clear hX X | clear hX X; clear hX X; refine hX _ _ ?_; clear hX X | intro hlen; unfold maxLen at hlen | apply And.intro; focus (first | omega | assumption | (repeat' apply And.intro) <;> first | omega | assumption)))
          simp only [aPost, Try.results5, aRes_n, aRes_t, aRes_c, pack_one, pack_two]
          exact leave_ext rfl rfl
      · rw [hE] at hwr
        obtain ⟨t, h1, h2⟩ := hwr
        rw [hpg] at h1 h2
        refine callE (h1 _) ?_
        simp -implicitDefEqProofs only [↓slp, slb, ↓reduceIte, reduceCtorEq, jA, jB, jC, jD, jE, jF, jG, jH, jI, jJ, jK, tfCkL]; try simp only [Ex.fold, Ex.foldcs, ← Va.pv.eq_1]
        (repeat (first | refine aSeq fun X hX => ?_ | refine aBlk ?_ | refine aSkip ?_ | (first | refine aExit ?_ | refine aRet ?_); try simp only [slx, ↓reduceIte, Nat.reduceEqDiff, reduceCtorEq] | (first | refine aReg ?_ | refine aDrE ?_); simp -implicitDefEqProofs only [forall_eq, ↓slp, slb, ↓reduceIte, reduceCtorEq, jA, jB, jC, jD, jE, jF, jG, jH, jI, jJ, jK, tfCkL]; try simp only [Ex.fold, Ex.foldcs, ← Va.pv.eq_1] | refine hX _ _ ?_; clear hX X | clear hX X; refine hX _ _ ?_; clear hX X | clear hX X; clear hX X; refine hX _ _ ?_; clear hX X | intro hlen; unfold maxLen at hlen | apply And.intro; focus (first | omega | assumption | (repeat' apply And.intro) <;> first | omega | assumption)))
        refine callM (h2 _) ?_
        rintro v m' ⟨ln, cl, rfl, rfl⟩
        have z1 : (((1 : Nat) : Int) == 0) = false := rfl
        have z2 : (((1 : Nat) : Int) == 1) = true := rfl
        rcases hcs with ⟨b, rfl, hbw⟩ | hl2
        · have f0' : f 0 = .sl .no [.v (.bool b)] := f0
          cases b
          · simp -implicitDefEqProofs only [↓slp, slb, ↓reduceIte, reduceCtorEq, jA, jB, jC, jD, jE, jF, jG, jH, jI, jJ, jK, tfCkL, f0', f1, pB, z1, z2]; try simp only [Ex.fold, Ex.foldcs, ← Va.pv.eq_1]
            (repeat (first | refine aSeq fun X hX => ?_ | refine aBlk ?_ | refine aSkip ?_ | (first | refine aExit ?_ | refine aRet ?_); try simp only [slx, ↓reduceIte, Nat.reduceEqDiff, reduceCtorEq] | (first | refine aReg ?_ | refine aDrE ?_); simp -implicitDefEqProofs only [forall_eq, ↓slp, slb, ↓reduceIte, reduceCtorEq, jA, jB, jC, jD, jE, jF, jG, jH, jI, jJ, jK, tfCkL, f0', f1, pB, z1, z2]; try simp only [Ex.fold, Ex.foldcs, ← Va.pv.eq_1] | refine hX _ _ ?_; clear hX X | clear hX X; refine hX _ _ ?_; clear hX X | clear hX X; clear hX X; refine hX _ _ ?_; clear hX X | intro hlen; unfold maxLen at hlen | apply And.intro; focus (first | omega | assumption | (repeat' apply And.intro) <;> first | omega | assumption)))
            simp only [aPost, Try.results5, aRes_n, aRes_t, aRes_c, pack_one, pack_two]
            exact leave_ext rfl rfl
          · obtain rfl : w = true := by cases w <;> simp at hbw ⊢
            simp -implicitDefEqProofs only [↓slp, slb, ↓reduceIte, reduceCtorEq, jA, jB, jC, jD, jE, jF, jG, jH, jI, jJ, jK, tfCkL, f0', f1, pB, z1, z2]; try simp only [Ex.fold, Ex.foldcs, ← Va.pv.eq_1]
            (repeat (first | refine aSeq fun X hX => ?_ | refine aBlk ?_ | refine aSkip ?_ | (first | refine aExit ?_ | refine aRet ?_); try simp only [slx, ↓reduceIte, Nat.reduceEqDiff, reduceCtorEq] | (first | refine aReg ?_ | refine aDrE ?_); simp -implicitDefEqProofs only [forall_eq, ↓slp, slb, ↓reduceIte, reduceCtorEq, jA, jB, jC, jD, jE, jF, jG, jH, jI, jJ, jK, tfCkL, f0', f1, pB, z1, z2]; try simp only [Ex.fold, Ex.foldcs, ← Va.pv.eq_1] | refine hX _ _ ?_; clear hX X | clear hX X; refine hX _ _ ?_; clear hX X | clear hX X; clear hX X; refine hX _ _ ?_; clear hX X | intro hlen; unfold maxLen at hlen | apply And.intro; focus (first | omega | assumption | (repeat' apply And.intro) <;> first | omega | assumption)))
            simp only [aPost, Try.results5, aRes_n, aRes_t, aRes_c, pack_one, pack_two]
            exact leave_ext rfl rfl
        · have z3 : ((l.length : Int) == 0) = false := beq_eq_false_iff_ne.2 (by omega)
          have z4 : ((l.length : Int) == 1) = false := beq_eq_false_iff_ne.2 (by omega)
          simp -implicitDefEqProofs only [↓slp, slb, ↓reduceIte, reduceCtorEq, jA, jB, jC, jD, jE, jF, jG, jH, jI, jJ, jK, tfCkL, f0, f1, pB, z3, z4]; try simp only [Ex.fold, Ex.foldcs, ← Va.pv.eq_1]
          (repeat (first | refine aSeq fun X hX => ?_ | refine aBlk ?_ | refine aSkip ?_ | (first | refine aExit ?_ | refine aRet ?_); try simp only [slx, ↓reduceIte, Nat.reduceEqDiff, reduceCtorEq] | (first | refine aReg ?_ | refine aDrE ?_); simp -implicitDefEqProofs only [forall_eq, ↓slp, slb, ↓reduceIte, reduceCtorEq, jA, jB, jC, jD, jE, jF, jG, jH, jI, jJ, jK, tfCkL, f0, f1, pB, z3, z4]; try simp only [Ex.fold, Ex.foldcs, ← Va.pv.eq_1] | refine hX _ _ ?_; clear hX X | clear hX X; refine hX _ _ ?_; clear hX X | clear hX X; clear hX X; refine hX _ _ ?_; clear hX X | intro hlen; unfold maxLen at hlen | apply And.intro; focus (first | omega | assumption | (repeat' apply And.intro) <;> first | omega | assumption)))
          simp only [aPost, Try.results5, aRes_n, aRes_t, aRes_c, pack_one, pack_two]
          exact leave_ext rfl rfl
  cases w with
  | true =>
    (repeat (first | refine aSeq fun X hX => ?_ | refine aBlk ?_ | refine aSkip ?_ | (first | refine aExit ?_ | refine aRet ?_); try simp only [slx, ↓reduceIte, Nat.reduceEqDiff, reduceCtorEq] | (first | refine aReg ?_ | refine aDrE ?_); simp -implicitDefEqProofs only [forall_eq, ↓slp, slb, ↓reduceIte, reduceCtorEq, jA, jB, jC, jD, jE, jF, jG, jH, jI, jJ, jK, tfCkL, pB]; try simp only [Ex.fold, Ex.foldcs, ← Va.pv.eq_1] | refine hX _ _ ?_; clear hX X | clear hX X; refine hX _ _ ?_; clear hX X | clear hX X; clear hX X; refine hX _ _ ?_; clear hX X | intro hlen; unfold maxLen at hlen | apply And.intro; focus (first | omega | assumption | (repeat' apply And.intro) <;> first | omega | assumption)))
    refine aIf ?_; simp -implicitDefEqProofs only [↓slp, slb, ↓reduceIte, reduceCtorEq, jA, jB, jC, jD, jE, jF, jG, jH, jI, jJ, jK]
    (repeat (first | refine aSeq fun X hX => ?_ | refine aBlk ?_ | refine aSkip ?_ | (first | refine aExit ?_ | refine aRet ?_); try simp only [slx, ↓reduceIte, Nat.reduceEqDiff, reduceCtorEq] | (first | refine aReg ?_ | refine aDrE ?_); simp -implicitDefEqProofs only [forall_eq, ↓slp, slb, ↓reduceIte, reduceCtorEq, jA, jB, jC, jD, jE, jF, jG, jH, jI, jJ, jK, tfCkL]; try simp only [Ex.fold, Ex.foldcs, ← Va.pv.eq_1] | refine hX _ _ ?_; clear hX X | clear hX X; refine hX _ _ ?_; clear hX X | clear hX X; clear hX X; refine hX _ _ ?_; clear hX X | intro hlen; unfold maxLen at hlen | apply And.intro; focus (first | omega | assumption | (repeat' apply And.intro) <;> first | omega | assumption)))
    exact join _ (bsE true) rfl rfl rfl rfl
  | false =>
    (repeat (first | refine aSeq fun X hX => ?_ | refine aBlk ?_ | refine aSkip ?_ | (first | refine aExit ?_ | refine aRet ?_); try simp only [slx, ↓reduceIte, Nat.reduceEqDiff, reduceCtorEq] | (first | refine aReg ?_ | refine aDrE ?_); simp -implicitDefEqProofs only [forall_eq, ↓slp, slb, ↓reduceIte, reduceCtorEq, jA, jB, jC, jD, jE, jF, jG, jH, jI, jJ, jK, tfCkL, pB]; try simp only [Ex.fold, Ex.foldcs, ← Va.pv.eq_1] | refine hX _ _ ?_; clear hX X | clear hX X; refine hX _ _ ?_; clear hX X | clear hX X; clear hX X; refine hX _ _ ?_; clear hX X | intro hlen; unfold maxLen at hlen | apply And.intro; focus (first | omega | assumption | (repeat' apply And.intro) <;> first | omega | assumption)))
    refine aIf ?_; simp -implicitDefEqProofs only [↓slp, slb, ↓reduceIte, reduceCtorEq, jA, jB, jC, jD, jE, jF, jG, jH, jI, jJ, jK]
    exact join _ (bsE false) rfl rfl rfl rfl
/-- The law. -/
theorem whens_any (l : List Bool) (w : Bool) : ACalls Try.prog 5 [.sl .no (l.map pB), pB w] M0 (fun v m' => v = .v (.bool true)) := by
  cases c1 : decide ((l.length : Int) > 10) with
  | true =>
    refine ACalls.enter (mu := [5]) ok_mix Try.func5 rfl (by kernel_rfl) (by kernel_rfl) (by simp only [List.length_cons, List.length_nil, Try.ntmps5]; omega) ?_
    (repeat (first | refine aSeq fun X hX => ?_ | refine aBlk ?_ | refine aSkip ?_ | (first | refine aExit ?_ | refine aRet ?_); try simp only [slx, ↓reduceIte, Nat.reduceEqDiff, reduceCtorEq] | (first | refine aReg ?_ | refine aDrE ?_); simp -implicitDefEqProofs only [forall_eq, ↓slp, slb, ↓reduceIte, reduceCtorEq, jA, jB, jC, jD, jE, jF, jG, jH, jI, jJ, jK, tfCkL, c1]; try simp only [Ex.fold, Ex.foldcs, ← Va.pv.eq_1] | refine hX _ _ ?_; clear hX X | clear hX X; refine hX _ _ ?_; clear hX X | clear hX X; clear hX X; refine hX _ _ ?_; clear hX X | intro hlen; unfold maxLen at hlen | apply And.intro; focus (first | omega | assumption | (repeat' apply And.intro) <;> first | omega | assumption)))
    refine callE (awake_run _) ?_
    simp -implicitDefEqProofs only [↓slp, slb, ↓reduceIte, reduceCtorEq, jA, jB, jC, jD, jE, jF, jG, jH, jI, jJ, jK, tfCkL, c1]; try simp only [Ex.fold, Ex.foldcs, ← Va.pv.eq_1]
    (repeat (first | refine aSeq fun X hX => ?_ | refine aBlk ?_ | refine aSkip ?_ | (first | refine aExit ?_ | refine aRet ?_); try simp only [slx, ↓reduceIte, Nat.reduceEqDiff, reduceCtorEq] | (first | refine aReg ?_ | refine aDrE ?_); simp -implicitDefEqProofs only [forall_eq, ↓slp, slb, ↓reduceIte, reduceCtorEq, jA, jB, jC, jD, jE, jF, jG, jH, jI, jJ, jK, tfCkL, c1]; try simp only [Ex.fold, Ex.foldcs, ← Va.pv.eq_1] | refine hX _ _ ?_; clear hX X | clear hX X; refine hX _ _ ?_; clear hX X | clear hX X; clear hX X; refine hX _ _ ?_; clear hX X | intro hlen; unfold maxLen at hlen | apply And.intro; focus (first | omega | assumption | (repeat' apply And.intro) <;> first | omega | assumption)))
    refine aIf ?_; simp -implicitDefEqProofs only [↓slp, slb, ↓reduceIte, reduceCtorEq, jA, jB, jC, jD, jE, jF, jG, jH, jI, jJ, jK]
    (repeat (first | refine aSeq fun X hX => ?_ | refine aBlk ?_ | refine aSkip ?_ | (first | refine aExit ?_ | refine aRet ?_); try simp only [slx, ↓reduceIte, Nat.reduceEqDiff, reduceCtorEq] | (first | refine aReg ?_ | refine aDrE ?_); simp -implicitDefEqProofs only [forall_eq, ↓slp, slb, ↓reduceIte, reduceCtorEq, jA, jB, jC, jD, jE, jF, jG, jH, jI, jJ, jK, tfCkL]; try simp only [Ex.fold, Ex.foldcs, ← Va.pv.eq_1] | refine hX _ _ ?_; clear hX X | clear hX X; refine hX _ _ ?_; clear hX X | clear hX X; clear hX X; refine hX _ _ ?_; clear hX X | intro hlen; unfold maxLen at hlen | apply And.intro; focus (first | omega | assumption | (repeat' apply And.intro) <;> first | omega | assumption)))
    refine callE (awake_run _) ?_
    simp -implicitDefEqProofs only [↓slp, slb, ↓reduceIte, reduceCtorEq, jA, jB, jC, jD, jE, jF, jG, jH, jI, jJ, jK, tfCkL]; try simp only [Ex.fold, Ex.foldcs, ← Va.pv.eq_1]
    (repeat (first | refine aSeq fun X hX => ?_ | refine aBlk ?_ | refine aSkip ?_ | (first | refine aExit ?_ | refine aRet ?_); try simp only [slx, ↓reduceIte, Nat.reduceEqDiff, reduceCtorEq] | (first | refine aReg ?_ | refine aDrE ?_); simp -implicitDefEqProofs only [forall_eq, ↓slp, slb, ↓reduceIte, reduceCtorEq, jA, jB, jC, jD, jE, jF, jG, jH, jI, jJ, jK, tfCkL]; try simp only [Ex.fold, Ex.foldcs, ← Va.pv.eq_1] | refine hX _ _ ?_; clear hX X | clear hX X; refine hX _ _ ?_; clear hX X | clear hX X; clear hX X; refine hX _ _ ?_; clear hX X | intro hlen; unfold maxLen at hlen | apply And.intro; focus (first | omega | assumption | (repeat' apply And.intro) <;> first | omega | assumption)))
    simp only [aPost, Try.results5, aRes_n, aRes_t, aRes_c, pack_one, pack_two]
    exact leave_same rfl rfl
  | false => exact whens_main l w (by simp at c1; omega)
end Go.Proofs.Ytamdnlnoioglnaa
