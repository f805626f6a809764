/-
  Texts that belong together: InD, InM.
-/
import Derived.Test.YtfemdelaciccmaaAbPr
import Derived.Test.YtfemdelaciccmaaAbKit
import Derived.Test.YtfemdelaciccmaaAbT
/-
  Which variables may have no value at first: passes over a list of names.
-/
set_option linter.unusedVariables false
set_option linter.unusedSimpArgs false
namespace Go.Proofs.Ytfemdelaciccmaa
open Go

/-- Is a name there? -/
def hasN (l : List Str) (s : Str) : Bool := l.any fun a => eqS a s
theorem hasN_iff (l : List Str) (s : Str) : hasN l s = true ↔ s ∈ l := by
  unfold hasN
  rw [List.any_eq_true]
  constructor
  · rintro ⟨a, ha, h⟩; rw [eqS_iff] at h; exact h ▸ ha
  · intro h; exact ⟨s, h, eqS_iff.2 rfl⟩
theorem hasN_app (l : List Str) (a s : Str) : hasN (l ++ [a]) s = (hasN l s || eqS a s) := by unfold hasN; simp
mutual
def mayB (L : Str → Bool) : Ex → Bool
  | .mk k _ _ nm _ ks _ _ => if k = 4 then L nm else if k = 10 then true else if k = 9 ∨ k = 11 then mayH L ks else mays L ks
def mayH (L : Str → Bool) : List Ex → Bool
  | [] => false
  | a :: _ => mayB L a
def mays (L : Str → Bool) : List Ex → Bool
  | [] => false
  | e :: l => mayB L e || mays L l
end
theorem mays_any (L : Str → Bool) : ∀ l : List Ex, mays L l = l.any (mayB L)
  | [] => by rw [mays]; rfl
  | a :: l => by rw [mays, mays_any L l]; rfl
theorem mayB_eq (L : Str → Bool) (e : Ex) : mayB L e = if e.kind = 4 then L e.name else if e.kind = 10 then true else if e.kind = 9 ∨ e.kind = 11 then mayH L e.kids else e.kids.any (mayB L) := by
  cases e
  rw [mayB, mays_any]
  rfl
/-- What is late: of what is about, and of the block's own. -/
def lkA (A : Str → Bool) (late : List Str) (s : Str) : Bool := A s || hasN late s
/-- What an equation defines first. -/
def Qu.x (q : Qu) : Str := q.lhs.headD ⟨#[]⟩
/-- Is an equation's variable late from now on? -/
def turns (A : Str → Bool) (names late : List Str) (q : Qu) : Bool := (q.kind == 1) && (hasN names q.x && !hasN late q.x && mayB (lkA A late) q.e)
/-- A look through the equations. -/
def pass (A : Str → Bool) (names : List Str) : List Qu → List Str → Bool → List Str × Bool
  | [], late, ag => (late, ag)
  | q :: l, late, ag => if turns A names late q = true then pass A names l (late ++ [q.x]) true else pass A names l late ag
def fixL (A : Str → Bool) (names : List Str) (eqs : List Qu) : Nat → List Str → List Str
  | 0, late => late
  | k + 1, late => if (pass A names eqs late false).2 = true then fixL A names eqs k (pass A names eqs late false).1 else (pass A names eqs late false).1
/-- What stands: each once, and among the names. -/
structure LateOk (names late : List Str) : Prop where
  nd : late.Nodup
  sub : ∀ s ∈ late, s ∈ names
theorem nd_len {α : Type} [DecidableEq α] : ∀ (l m : List α), l.Nodup → (∀ s ∈ l, s ∈ m) → l.length ≤ m.length
  | [], m, _, _ => Nat.zero_le _
  | a :: l, m, h, hs => by
    rw [List.nodup_cons] at h
    have ha := hs a (List.mem_cons_self ..)
    have := nd_len l (m.erase a) h.2 (fun s hsl => by
      have h1 := hs s (List.mem_cons_of_mem _ hsl)
      have hne : s ≠ a := fun e => h.1 (e ▸ hsl)
      exact (List.mem_erase_of_ne hne).2 h1)
    rw [List.length_erase_of_mem ha] at this
    have hp : 0 < m.length := List.length_pos_of_mem ha
    simp only [List.length_cons]
    omega
theorem LateOk.len {names late : List Str} (h : LateOk names late) : late.length ≤ names.length := nd_len late names h.nd h.sub
theorem pass_ok (A : Str → Bool) (names : List Str) : ∀ (l : List Qu) (late : List Str) (ag : Bool), LateOk names late → LateOk names (pass A names l late ag).1 ∧ late.length ≤ (pass A names l late ag).1.length ∧ (ag = false → (pass A names l late ag).2 = true → late.length + 1 ≤ (pass A names l late ag).1.length) ∧ (ag = true → (pass A names l late ag).2 = true) ∧ ((pass A names l late false).2 = false → (pass A names l late false).1 = late)
  | [], late, ag, h => ⟨h, Nat.le_refl _, (fun h1 h2 => by subst h1; cases h2), (fun h1 => h1), (fun _ => rfl)⟩
  | q :: l, late, ag, h => by
    by_cases hc : turns A names late q = true
    · have e1 : ∀ ag, pass A names (q :: l) late ag = pass A names l (late ++ [q.x]) true := fun ag => by rw [pass, if_pos hc]
      rw [e1, e1]
      unfold turns at hc
      simp only [Bool.and_eq_true, Bool.not_eq_true'] at hc
      have h' : LateOk names (late ++ [q.x]) := by
        refine ⟨?_, fun s hs => ?_⟩
        · rw [List.nodup_append]
          refine ⟨h.nd, by simp, fun a ha b hb => ?_⟩
          rw [List.mem_singleton] at hb
          subst hb
          rintro rfl
          have := (hasN_iff late q.x).2 ha
          rw [hc.2.1.2] at this
          cases this
        · rcases List.mem_append.1 hs with hs | hs
          · exact h.sub s hs
          · rw [List.mem_singleton] at hs
            subst hs
            exact (hasN_iff names q.x).1 hc.2.1.1
      obtain ⟨a1, a2, a3, a4, a5⟩ := pass_ok A names l (late ++ [q.x]) true h'
      have hl : (late ++ [q.x]).length = late.length + 1 := by simp
      refine ⟨a1, by omega, fun _ _ => by omega, fun _ => a4 rfl, fun h2 => ?_⟩
      rw [a4 rfl] at h2
      cases h2
    · have e1 : ∀ ag, pass A names (q :: l) late ag = pass A names l late ag := fun ag => by rw [pass, if_neg hc]
      rw [e1, e1]
      exact pass_ok A names l late ag h
/-- Enough fuel is enough. -/
theorem fixL_step (A : Str → Bool) (names : List Str) (eqs : List Qu) (k : Nat) (late : List Str) (h : LateOk names late) (hk : names.length + 1 ≤ k + late.length) :
    ∃ k', k = k' + 1 ∧ (((pass A names eqs late false).2 = true ∧ fixL A names eqs k late = fixL A names eqs k' (pass A names eqs late false).1 ∧ LateOk names (pass A names eqs late false).1 ∧ names.length + 1 ≤ k' + (pass A names eqs late false).1.length ∧ late.length + 1 ≤ (pass A names eqs late false).1.length) ∨
      ((pass A names eqs late false).2 = false ∧ fixL A names eqs k late = late ∧ (pass A names eqs late false).1 = late)) := by
  have hl := h.len
  refine ⟨k - 1, by omega, ?_⟩
  obtain ⟨a1, a2, a3, a4, a5⟩ := pass_ok A names eqs late false h
  have hk' : k = (k - 1) + 1 := by omega
  cases hp : (pass A names eqs late false).2 with
  | true =>
    have := a3 rfl hp
    refine .inl ⟨rfl, ?_, a1, by omega, this⟩
    conv => lhs; rw [hk']
    rw [fixL, if_pos hp]
  | false =>
    refine .inr ⟨rfl, ?_, a5 hp⟩
    rw [hk', fixL, if_neg (by rw [hp]; simp), a5 hp]
theorem fixL_ok (A : Str → Bool) (names : List Str) (eqs : List Qu) : ∀ (k : Nat) (late : List Str), LateOk names late → LateOk names (fixL A names eqs k late)
  | 0, late, h => h
  | k + 1, late, h => by
    rw [fixL]
    have := (pass_ok A names eqs late false h).1
    split
    · exact fixL_ok A names eqs k _ this
    · exact this
end Go.Proofs.Ytfemdelaciccmaa

/-
  May an expression have no value at first: the look into a map.
-/
set_option linter.unusedVariables false
set_option linter.unusedSimpArgs false
namespace Go.Proofs.Ytfemdelaciccmaa
open Nat renaming reduceEqDiff → jA, reduceAdd → jB, reduceMul → jC, reduceLT → jD, reduceLeDiff → jE, reduceBEq → jF, reduceBNe → jG
open Int renaming reduceLE → jH, reduceLT → jI, reduceToNat → jJ, reduceEq → jK
open Go
set_option maxRecDepth 20000
-- TNAMES: int; uint8; int32; string; bool; []string; []api.Expr; api.Expr
set_option linter.defProp false
def tfInM := And.intro @tfA (And.intro @Ex.settle_pv (And.intro @Ex.pure_pv (And.intro @Ex.cells_pv (And.intro @Ex.cs.eq_1 (And.intro @On.pv.eq_1 (And.intro @Ty.pv.eq_1 (And.intro @Va.settle_pv (And.intro @Va.pure_pv (And.intro @Va.cells_pv @Va.cs.eq_1)))))))))

/-- A map's names with their truths, and a look. -/
def lkB : List Str → List Bool → Str → Bool
  | a :: N, b :: B, s => if a.toList == s.toList then b else lkB N B s
  | _, _, _ => false
theorem lkB_res : ∀ (N : List Str) (B : List Bool) (s : Str), lookRes false (PV.v (.bool false)) (mapGet (N.map pS) (B.map pB) s) = pB (lkB N B s)
  | [], _, s => by simp [mapGet, lookRes, lkB]
  | a :: N, [], s => by simp [mapGet, lookRes, lkB]
  | a :: N, b :: B, s => by
    simp only [List.map_cons, mapGet, lkB]
    split
    · rfl
    · exact lkB_res N B s
theorem tmL : tmap Try.prog 60 = some 4 := by kernel_rfl
set_option maxHeartbeats 1000000 in
theorem idxMay_any (N : List Str) (B : List Bool) (id : Nat) (o : Own) (l : List Ex) (m : M) (hf : ∀ k (hk : k < l.length), ACalls Try.prog 35 [.mp id, l[k].pv] m (fun v m' => v = pB (mayB (lkB N B) l[k]) ∧ m' = m)) :
    ACalls Try.prog 62 [.sl o (l.map Ex.pv), .fn (.func 35) [.mp id] []] m (fun v m' => ∃ i : Int, v = pI i ∧ decide (i ≥ 0) = l.any (mayB (lkB N B)) ∧ m' = m) := by
  refine ACalls.enter (mu := []) ok_mix Try.func62 rfl (by kernel_rfl) (by kernel_rfl) (by simp only [List.length_cons, List.length_nil, Try.ntmps62]; omega) ?_
  (repeat (first | refine aSeq fun X hX => ?_ | refine aBlk ?_ | refine aSkip ?_ | (first | refine aExit ?_ | refine aRet ?_); try simp only [slx, ↓reduceIte, Nat.reduceEqDiff, reduceCtorEq] | (first | refine aReg ?_ | refine aDrE ?_); simp -implicitDefEqProofs only [forall_eq, ↓slp, slb, ↓reduceIte, reduceCtorEq, jA, jB, jC, jD, jE, jF, jG, jH, jI, jJ, jK, tfInM]; try simp only [Ex.fold, Ex.foldcs, ← Va.pv.eq_1] | refine hX _ _ ?_; clear hX X | clear hX X; refine hX _ _ ?_; clear hX X | clear hX X; clear hX X; refine hX _ _ ?_; clear hX X | intro hlen; unfold maxLen at hlen | apply And.intro; focus (first | omega | assumption | (repeat' apply And.intro) <;> first | omega | assumption)))
  obtain ⟨I, hI⟩ : ∃ I : F → M → Prop, ∀ f m', I f m' = (∃ k : Nat, k ≤ l.length ∧ f 0 = .sl o (l.map Ex.pv) ∧ f 1 = .fn (.func 35) [.mp id] [] ∧ f 7 = pI l.length ∧ f 8 = pI k ∧ l.any (mayB (lkB N B)) = (l.drop k).any (mayB (lkB N B)) ∧ m' = m) := ⟨_, fun _ _ => rfl⟩
  refine aLoop I (fun f m => l.length - numOf (f 8)) ?_ ?_
  · rw [hI]; exact ⟨0, by omega, rfl, rfl, rfl, rfl, rfl, rfl⟩
  intro f m' hrel
  rw [hI] at hrel
  obtain ⟨k, hk, h0, h1, h7, h8, hs, rfl⟩ := hrel
  cases c1 : decide ((k : Int) < (l.length : Int)) with
  | false =>
    have hk' : k = l.length := by simp at c1; omega
    subst hk'
    rw [List.drop_length] at hs
    (repeat (first | refine aSeq fun X hX => ?_ | refine aBlk ?_ | refine aSkip ?_ | (first | refine aExit ?_ | refine aRet ?_); try simp only [slx, ↓reduceIte, Nat.reduceEqDiff, reduceCtorEq] | (first | refine aReg ?_ | refine aDrE ?_); simp -implicitDefEqProofs only [forall_eq, ↓slp, slb, ↓reduceIte, reduceCtorEq, jA, jB, jC, jD, jE, jF, jG, jH, jI, jJ, jK, tfInM, h0, h1, h7, h8, pI, c1]; try simp only [Ex.fold, Ex.foldcs, ← Va.pv.eq_1] | refine hX _ _ ?_; clear hX X | clear hX X; refine hX _ _ ?_; clear hX X | clear hX X; clear hX X; refine hX _ _ ?_; clear hX X | intro hlen; unfold maxLen at hlen | apply And.intro; focus (first | omega | assumption | (repeat' apply And.intro) <;> first | omega | assumption)))
    refine aIf ?_; simp -implicitDefEqProofs only [↓slp, slb, ↓reduceIte, reduceCtorEq, jA, jB, jC, jD, jE, jF, jG, jH, jI, jJ, jK]
    (repeat (first | refine aSeq fun X hX => ?_ | refine aBlk ?_ | refine aSkip ?_ | (first | refine aExit ?_ | refine aRet ?_); try simp only [slx, ↓reduceIte, Nat.reduceEqDiff, reduceCtorEq] | (first | refine aReg ?_ | refine aDrE ?_); simp -implicitDefEqProofs only [forall_eq, ↓slp, slb, ↓reduceIte, reduceCtorEq, jA, jB, jC, jD, jE, jF, jG, jH, jI, jJ, jK, tfInM]; try simp only [Ex.fold, Ex.foldcs, ← Va.pv.eq_1] | refine hX _ _ ?_; clear hX X | clear hX X; refine hX _ _ ?_; clear hX X | clear hX X; clear hX X; refine hX _ _ ?_; clear hX X | intro hlen; unfold maxLen at hlen | apply And.intro; focus (first | omega | assumption | (repeat' apply And.intro) <;> first | omega | assumption)))
    simp only [aPost, Try.results62, aRes_n, aRes_t, aRes_c, pack_one, pack_two]
    exact leave_same rfl ⟨-1, rfl, by rw [hs]; rfl, rfl⟩
  | true =>
    have hlt : k < l.length := by simpa using c1
    have hg := getD_map Ex.pv l k hlt
    have hi : IntKind.i64.wrap ((k : Int) + 1) = ((k + 1 : Nat) : Int) := by rw [wrap64 (by omega)]; omega
    have hme : numOf (f 8) = k := by rw [h8]; exact Int.toNat_natCast k
    rw [List.drop_eq_getElem_cons hlt, List.any_cons] at hs
    have hc := hf k hlt
    cases c2 : mayB (lkB N B) l[k] with
    | true =>
      rw [c2] at hc hs
      (repeat (first | refine aSeq fun X hX => ?_ | refine aBlk ?_ | refine aSkip ?_ | (first | refine aExit ?_ | refine aRet ?_); try simp only [slx, ↓reduceIte, Nat.reduceEqDiff, reduceCtorEq] | (first | refine aReg ?_ | refine aDrE ?_); simp -implicitDefEqProofs only [forall_eq, ↓slp, slb, ↓reduceIte, reduceCtorEq, jA, jB, jC, jD, jE, jF, jG, jH, jI, jJ, jK, tfInM, h0, h1, h7, h8, pI, c1, hg]; try simp only [Ex.fold, Ex.foldcs, ← Va.pv.eq_1] | refine hX _ _ ?_; clear hX X | clear hX X; refine hX _ _ ?_; clear hX X | clear hX X; clear hX X; refine hX _ _ ?_; clear hX X | intro hlen; unfold maxLen at hlen | apply And.intro; focus (first | omega | assumption | (repeat' apply And.intro) <;> first | omega | assumption)))
      refine aIf ?_; simp -implicitDefEqProofs only [↓slp, slb, ↓reduceIte, reduceCtorEq, jA, jB, jC, jD, jE, jF, jG, jH, jI, jJ, jK]
      (repeat (first | refine aSeq fun X hX => ?_ | refine aBlk ?_ | refine aSkip ?_ | (first | refine aExit ?_ | refine aRet ?_); try simp only [slx, ↓reduceIte, Nat.reduceEqDiff, reduceCtorEq] | (first | refine aReg ?_ | refine aDrE ?_); simp -implicitDefEqProofs only [forall_eq, ↓slp, slb, ↓reduceIte, reduceCtorEq, jA, jB, jC, jD, jE, jF, jG, jH, jI, jJ, jK, tfInM, h0, h1, h7, h8, pI, hg]; try simp only [Ex.fold, Ex.foldcs, ← Va.pv.eq_1] | refine hX _ _ ?_; clear hX X | clear hX X; refine hX _ _ ?_; clear hX X | clear hX X; clear hX X; refine hX _ _ ?_; clear hX X | intro hlen; unfold maxLen at hlen | apply And.intro; focus (first | omega | assumption | (repeat' apply And.intro) <;> first | omega | assumption)))
      refine callE hc ?_
      simp -implicitDefEqProofs only [↓slp, slb, ↓reduceIte, reduceCtorEq, jA, jB, jC, jD, jE, jF, jG, jH, jI, jJ, jK, tfInM, pB]; try simp only [Ex.fold, Ex.foldcs, ← Va.pv.eq_1]
      (repeat (first | refine aSeq fun X hX => ?_ | refine aBlk ?_ | refine aSkip ?_ | (first | refine aExit ?_ | refine aRet ?_); try simp only [slx, ↓reduceIte, Nat.reduceEqDiff, reduceCtorEq] | (first | refine aReg ?_ | refine aDrE ?_); simp -implicitDefEqProofs only [forall_eq, ↓slp, slb, ↓reduceIte, reduceCtorEq, jA, jB, jC, jD, jE, jF, jG, jH, jI, jJ, jK, tfInM]; try simp only [Ex.fold, Ex.foldcs, ← Va.pv.eq_1] | refine hX _ _ ?_; clear hX X | clear hX X; refine hX _ _ ?_; clear hX X | clear hX X; clear hX X; refine hX _ _ ?_; clear hX X | intro hlen; unfold maxLen at hlen | apply And.intro; focus (first | omega | assumption | (repeat' apply And.intro) <;> first | omega | assumption)))
      refine aIf ?_; simp -implicitDefEqProofs only [↓slp, slb, ↓reduceIte, reduceCtorEq, jA, jB, jC, jD, jE, jF, jG, jH, jI, jJ, jK]
      (repeat (first | refine aSeq fun X hX => ?_ | refine aBlk ?_ | refine aSkip ?_ | (first | refine aExit ?_ | refine aRet ?_); try simp only [slx, ↓reduceIte, Nat.reduceEqDiff, reduceCtorEq] | (first | refine aReg ?_ | refine aDrE ?_); simp -implicitDefEqProofs only [forall_eq, ↓slp, slb, ↓reduceIte, reduceCtorEq, jA, jB, jC, jD, jE, jF, jG, jH, jI, jJ, jK, tfInM]; try simp only [Ex.fold, Ex.foldcs, ← Va.pv.eq_1] | refine hX _ _ ?_; clear hX X | clear hX X; refine hX _ _ ?_; clear hX X | clear hX X; clear hX X; refine hX _ _ ?_; clear hX X | intro hlen; unfold maxLen at hlen | apply And.intro; focus (first | omega | assumption | (repeat' apply And.intro) <;> first | omega | assumption)))
      simp only [aPost, Try.results62, aRes_n, aRes_t, aRes_c, pack_one, pack_two]
      exact leave_same rfl ⟨k, rfl, by rw [hs]; simp, rfl⟩
    | false =>
      rw [c2] at hc hs
      (repeat (first | refine aSeq fun X hX => ?_ | refine aBlk ?_ | refine aSkip ?_ | (first | refine aExit ?_ | refine aRet ?_); try simp only [slx, ↓reduceIte, Nat.reduceEqDiff, reduceCtorEq] | (first | refine aReg ?_ | refine aDrE ?_); simp -implicitDefEqProofs only [forall_eq, ↓slp, slb, ↓reduceIte, reduceCtorEq, jA, jB, jC, jD, jE, jF, jG, jH, jI, jJ, jK, tfInM, h0, h1, h7, h8, pI, c1, hg]; try simp only [Ex.fold, Ex.foldcs, ← Va.pv.eq_1] | refine hX _ _ ?_; clear hX X | clear hX X; refine hX _ _ ?_; clear hX X | clear hX X; clear hX X; refine hX _ _ ?_; clear hX X | intro hlen; unfold maxLen at hlen | apply And.intro; focus (first | omega | assumption | (repeat' apply And.intro) <;> first | omega | assumption)))
      refine aIf ?_; simp -implicitDefEqProofs only [↓slp, slb, ↓reduceIte, reduceCtorEq, jA, jB, jC, jD, jE, jF, jG, jH, jI, jJ, jK]
      (repeat (first | refine aSeq fun X hX => ?_ | refine aBlk ?_ | refine aSkip ?_ | (first | refine aExit ?_ | refine aRet ?_); try simp only [slx, ↓reduceIte, Nat.reduceEqDiff, reduceCtorEq] | (first | refine aReg ?_ | refine aDrE ?_); simp -implicitDefEqProofs only [forall_eq, ↓slp, slb, ↓reduceIte, reduceCtorEq, jA, jB, jC, jD, jE, jF, jG, jH, jI, jJ, jK, tfInM, h0, h1, h7, h8, pI, hg]; try simp only [Ex.fold, Ex.foldcs, ← Va.pv.eq_1] | refine hX _ _ ?_; clear hX X | clear hX X; refine hX _ _ ?_; clear hX X | clear hX X; clear hX X; refine hX _ _ ?_; clear hX X | intro hlen; unfold maxLen at hlen | apply And.intro; focus (first | omega | assumption | (repeat' apply And.intro) <;> first | omega | assumption)))
      refine callE hc ?_
      simp -implicitDefEqProofs only [↓slp, slb, ↓reduceIte, reduceCtorEq, jA, jB, jC, jD, jE, jF, jG, jH, jI, jJ, jK, tfInM, pB]; try simp only [Ex.fold, Ex.foldcs, ← Va.pv.eq_1]
      (repeat (first | refine aSeq fun X hX => ?_ | refine aBlk ?_ | refine aSkip ?_ | (first | refine aExit ?_ | refine aRet ?_); try simp only [slx, ↓reduceIte, Nat.reduceEqDiff, reduceCtorEq] | (first | refine aReg ?_ | refine aDrE ?_); simp -implicitDefEqProofs only [forall_eq, ↓slp, slb, ↓reduceIte, reduceCtorEq, jA, jB, jC, jD, jE, jF, jG, jH, jI, jJ, jK, tfInM]; try simp only [Ex.fold, Ex.foldcs, ← Va.pv.eq_1] | refine hX _ _ ?_; clear hX X | clear hX X; refine hX _ _ ?_; clear hX X | clear hX X; clear hX X; refine hX _ _ ?_; clear hX X | intro hlen; unfold maxLen at hlen | apply And.intro; focus (first | omega | assumption | (repeat' apply And.intro) <;> first | omega | assumption)))
      refine aIf ?_; simp -implicitDefEqProofs only [↓slp, slb, ↓reduceIte, reduceCtorEq, jA, jB, jC, jD, jE, jF, jG, jH, jI, jJ, jK]
      (repeat (first | refine aSeq fun X hX => ?_ | refine aBlk ?_ | refine aSkip ?_ | (first | refine aExit ?_ | refine aRet ?_); try simp only [slx, ↓reduceIte, Nat.reduceEqDiff, reduceCtorEq] | (first | refine aReg ?_ | refine aDrE ?_); simp -implicitDefEqProofs only [forall_eq, ↓slp, slb, ↓reduceIte, reduceCtorEq, jA, jB, jC, jD, jE, jF, jG, jH, jI, jJ, jK, tfInM, h8, pI, hi]; try simp only [Ex.fold, Ex.foldcs, ← Va.pv.eq_1] | refine hX _ _ ?_; clear hX X | clear hX X; refine hX _ _ ?_; clear hX X | clear hX X; clear hX X; refine hX _ _ ?_; clear hX X | intro hlen; unfold maxLen at hlen | apply And.intro; focus (first | omega | assumption | (repeat' apply And.intro) <;> first | omega | assumption)))
      rw [hI]
      exact ⟨⟨k + 1, hlt, h0, h1, h7, rfl, by rw [hs]; simp, rfl⟩, by omega⟩
theorem containsMay_any (N : List Str) (B : List Bool) (id : Nat) (o : Own) (l : List Ex) (m : M) (hf : ∀ k (hk : k < l.length), ACalls Try.prog 35 [.mp id, l[k].pv] m (fun v m' => v = pB (mayB (lkB N B) l[k]) ∧ m' = m)) :
    ACalls Try.prog 54 [.sl o (l.map Ex.pv), .fn (.func 35) [.mp id] []] m (fun v m' => v = pB (l.any (mayB (lkB N B))) ∧ m' = m) := by
  refine ACalls.enter (mu := []) ok_mix Try.func54 rfl (by kernel_rfl) (by kernel_rfl) (by simp only [List.length_cons, List.length_nil, Try.ntmps54]; omega) ?_
  (repeat (first | refine aSeq fun X hX => ?_ | refine aBlk ?_ | refine aSkip ?_ | (first | refine aExit ?_ | refine aRet ?_); try simp only [slx, ↓reduceIte, Nat.reduceEqDiff, reduceCtorEq] | (first | refine aReg ?_ | refine aDrE ?_); simp -implicitDefEqProofs only [forall_eq, ↓slp, slb, ↓reduceIte, reduceCtorEq, jA, jB, jC, jD, jE, jF, jG, jH, jI, jJ, jK, tfInM]; try simp only [Ex.fold, Ex.foldcs, ← Va.pv.eq_1] | refine hX _ _ ?_; clear hX X | clear hX X; refine hX _ _ ?_; clear hX X | clear hX X; clear hX X; refine hX _ _ ?_; clear hX X | intro hlen; unfold maxLen at hlen | apply And.intro; focus (first | omega | assumption | (repeat' apply And.intro) <;> first | omega | assumption)))
  refine callM (idxMay_any N B id o l m hf) ?_
  rintro v m' ⟨i, rfl, hi, rfl⟩
  simp -implicitDefEqProofs only [↓slp, slb, ↓reduceIte, reduceCtorEq, jA, jB, jC, jD, jE, jF, jG, jH, jI, jJ, jK, tfInM, pI, hi]; try simp only [Ex.fold, Ex.foldcs, ← Va.pv.eq_1]
  (repeat (first | refine aSeq fun X hX => ?_ | refine aBlk ?_ | refine aSkip ?_ | (first | refine aExit ?_ | refine aRet ?_); try simp only [slx, ↓reduceIte, Nat.reduceEqDiff, reduceCtorEq] | (first | refine aReg ?_ | refine aDrE ?_); simp -implicitDefEqProofs only [forall_eq, ↓slp, slb, ↓reduceIte, reduceCtorEq, jA, jB, jC, jD, jE, jF, jG, jH, jI, jJ, jK, tfInM, hi]; try simp only [Ex.fold, Ex.foldcs, ← Va.pv.eq_1] | refine hX _ _ ?_; clear hX X | clear hX X; refine hX _ _ ?_; clear hX X | clear hX X; clear hX X; refine hX _ _ ?_; clear hX X | intro hlen; unfold maxLen at hlen | apply And.intro; focus (first | omega | assumption | (repeat' apply And.intro) <;> first | omega | assumption)))
  simp only [aPost, Try.results54, aRes_n, aRes_t, aRes_c, pack_one, pack_two]
  exact leave_same rfl ⟨rfl, rfl⟩
mutual
/-- Where something behind a fby or an arrow is looked at, it is there. -/
def Ex.fed : Ex → Prop
  | .mk k _ _ _ _ ks _ _ => ((k = 9 ∨ k = 11) → ks ≠ []) ∧ Ex.feds ks
def Ex.feds : List Ex → Prop
  | [] => True
  | e :: l => e.fed ∧ Ex.feds l
end
theorem Ex.fed_x {e : Ex} (h : e.fed) : ((e.kind = 9 ∨ e.kind = 11) → e.kids ≠ []) ∧ ∀ k (hk : k < e.kids.length), e.kids[k].fed := by
  have hm : ∀ l : List Ex, Ex.feds l → ∀ k (hk : k < l.length), l[k].fed := by
    intro l
    induction l with
    | nil => intro _ k hk; exact absurd hk (Nat.not_lt_zero k)
    | cons a l ih =>
      intro h k hk
      cases k with
      | zero => exact h.1
      | succ k => exact ih h.2 k (by simpa using hk)
  cases e
  exact ⟨h.1, hm _ h.2⟩
set_option maxHeartbeats 1000000 in
theorem may_any (N : List Str) (B : List Bool) (id : Nat) (m : M) (hid : m.get id = some [.tp (N.map pS), .tp (B.map pB)]) (e : Ex) : e.fed → ACalls Try.prog 35 [.mp id, e.pv] m (fun v m' => v = pB (mayB (lkB N B) e) ∧ m' = m) := by
  refine Ex.ind (motive := fun e => e.fed → ACalls Try.prog 35 [.mp id, e.pv] m (fun v m' => v = pB (mayB (lkB N B) e) ∧ m' = m)) (fun e IH hfd => ?_) e
  obtain ⟨hk0, hkf⟩ := Ex.fed_x hfd
  have he := mayB_eq (lkB N B) e
  have hl := lkB_res N B e.name
  have ht := tmL
  refine ACalls.enter (mu := []) ok_mix Try.func35 rfl (by kernel_rfl) (by kernel_rfl) (by simp only [List.length_cons, List.length_nil, Try.ntmps35]; omega) ?_
  by_cases k4 : e.kind = 4
  · have b4 : (e.kind == 4) = true := by simp [k4]
    rw [if_pos k4] at he
    (repeat (first | refine aSeq fun X hX => ?_ | refine aBlk ?_ | refine aSkip ?_ | (first | refine aExit ?_ | refine aRet ?_); try simp only [slx, ↓reduceIte, Nat.reduceEqDiff, reduceCtorEq] | (first | refine aReg ?_ | refine aDrE ?_); simp -implicitDefEqProofs only [forall_eq, ↓slp, slb, ↓reduceIte, reduceCtorEq, jA, jB, jC, jD, jE, jF, jG, jH, jI, jJ, jK, tfInM, b4]; try simp only [Ex.fold, Ex.foldcs, ← Va.pv.eq_1] | refine hX _ _ ?_; clear hX X | clear hX X; refine hX _ _ ?_; clear hX X | clear hX X; clear hX X; refine hX _ _ ?_; clear hX X | intro hlen; unfold maxLen at hlen | apply And.intro; focus (first | omega | assumption | (repeat' apply And.intro) <;> first | omega | assumption)))
    refine aIf ?_; simp -implicitDefEqProofs only [↓slp, slb, ↓reduceIte, reduceCtorEq, jA, jB, jC, jD, jE, jF, jG, jH, jI, jJ, jK]
    (repeat (first | refine aSeq fun X hX => ?_ | refine aBlk ?_ | refine aSkip ?_ | (first | refine aExit ?_ | refine aRet ?_); try simp only [slx, ↓reduceIte, Nat.reduceEqDiff, reduceCtorEq] | (first | refine aReg ?_ | refine aDrE ?_); simp -implicitDefEqProofs only [forall_eq, ↓slp, slb, ↓reduceIte, reduceCtorEq, jA, jB, jC, jD, jE, jF, jG, jH, jI, jJ, jK, tfInM, hid, ht, hl]; try simp only [Ex.fold, Ex.foldcs, ← Va.pv.eq_1] | refine hX _ _ ?_; clear hX X | clear hX X; refine hX _ _ ?_; clear hX X | clear hX X; clear hX X; refine hX _ _ ?_; clear hX X | intro hlen; unfold maxLen at hlen | apply And.intro; focus (first | omega | assumption | (repeat' apply And.intro) <;> first | omega | assumption)))
    simp only [aPost, Try.results35, aRes_n, aRes_t, aRes_c, pack_one, pack_two]
    exact leave_same rfl ⟨by rw [he]; rfl, rfl⟩
  have b4 : (e.kind == 4) = false := by simp [k4]
  rw [if_neg k4] at he
  by_cases k10 : e.kind = 10
  · have b10 : (e.kind == 10) = true := by simp [k10]
    rw [if_pos k10] at he
    (repeat (first | refine aSeq fun X hX => ?_ | refine aBlk ?_ | refine aSkip ?_ | (first | refine aExit ?_ | refine aRet ?_); try simp only [slx, ↓reduceIte, Nat.reduceEqDiff, reduceCtorEq] | (first | refine aReg ?_ | refine aDrE ?_); simp -implicitDefEqProofs only [forall_eq, ↓slp, slb, ↓reduceIte, reduceCtorEq, jA, jB, jC, jD, jE, jF, jG, jH, jI, jJ, jK, tfInM, b4, b10]; try simp only [Ex.fold, Ex.foldcs, ← Va.pv.eq_1] | refine hX _ _ ?_; clear hX X | clear hX X; refine hX _ _ ?_; clear hX X | clear hX X; clear hX X; refine hX _ _ ?_; clear hX X | intro hlen; unfold maxLen at hlen | apply And.intro; focus (first | omega | assumption | (repeat' apply And.intro) <;> first | omega | assumption)))
    refine aIf ?_; simp -implicitDefEqProofs only [↓slp, slb, ↓reduceIte, reduceCtorEq, jA, jB, jC, jD, jE, jF, jG, jH, jI, jJ, jK]
    (repeat (first | refine aSeq fun X hX => ?_ | refine aBlk ?_ | refine aSkip ?_ | (first | refine aExit ?_ | refine aRet ?_); try simp only [slx, ↓reduceIte, Nat.reduceEqDiff, reduceCtorEq] | (first | refine aReg ?_ | refine aDrE ?_); simp -implicitDefEqProofs only [forall_eq, ↓slp, slb, ↓reduceIte, reduceCtorEq, jA, jB, jC, jD, jE, jF, jG, jH, jI, jJ, jK, tfInM, b10]; try simp only [Ex.fold, Ex.foldcs, ← Va.pv.eq_1] | refine hX _ _ ?_; clear hX X | clear hX X; refine hX _ _ ?_; clear hX X | clear hX X; clear hX X; refine hX _ _ ?_; clear hX X | intro hlen; unfold maxLen at hlen | apply And.intro; focus (first | omega | assumption | (repeat' apply And.intro) <;> first | omega | assumption)))
    refine aIf ?_; simp -implicitDefEqProofs only [↓slp, slb, ↓reduceIte, reduceCtorEq, jA, jB, jC, jD, jE, jF, jG, jH, jI, jJ, jK]
    (repeat (first | refine aSeq fun X hX => ?_ | refine aBlk ?_ | refine aSkip ?_ | (first | refine aExit ?_ | refine aRet ?_); try simp only [slx, ↓reduceIte, Nat.reduceEqDiff, reduceCtorEq] | (first | refine aReg ?_ | refine aDrE ?_); simp -implicitDefEqProofs only [forall_eq, ↓slp, slb, ↓reduceIte, reduceCtorEq, jA, jB, jC, jD, jE, jF, jG, jH, jI, jJ, jK, tfInM]; try simp only [Ex.fold, Ex.foldcs, ← Va.pv.eq_1] | refine hX _ _ ?_; clear hX X | clear hX X; refine hX _ _ ?_; clear hX X | clear hX X; clear hX X; refine hX _ _ ?_; clear hX X | intro hlen; unfold maxLen at hlen | apply And.intro; focus (first | omega | assumption | (repeat' apply And.intro) <;> first | omega | assumption)))
    simp only [aPost, Try.results35, aRes_n, aRes_t, aRes_c, pack_one, pack_two]
    exact leave_same rfl ⟨by rw [he]; rfl, rfl⟩
  have b10 : (e.kind == 10) = false := by simp [k10]
  rw [if_neg k10] at he
  have fin1 : (e.kind = 9 ∨ e.kind = 11) → ∃ a r, e.kids = a :: r := fun h => by
    cases hq : e.kids with
    | nil => exact absurd hq (hk0 h)
    | cons a r => exact ⟨a, r, rfl⟩
  by_cases k9 : e.kind = 9
  · have b9 : (e.kind == 9) = true := by simp [k9]
    rw [if_pos (.inl k9)] at he
    obtain ⟨a, r, hkr⟩ := fin1 (.inl k9)
    have ha := IH 0 (by rw [hkr]; simp) (hkf 0 (by rw [hkr]; simp))
    simp only [hkr, List.getElem_cons_zero] at ha
    rw [hkr, mayH] at he
    (repeat (first | refine aSeq fun X hX => ?_ | refine aBlk ?_ | refine aSkip ?_ | (first | refine aExit ?_ | refine aRet ?_); try simp only [slx, ↓reduceIte, Nat.reduceEqDiff, reduceCtorEq] | (first | refine aReg ?_ | refine aIf ?_); simp -implicitDefEqProofs only [forall_eq, ↓slp, slb, ↓reduceIte, reduceCtorEq, jA, jB, jC, jD, jE, jF, jG, jH, jI, jJ, jK, tfInM, b4, b10, b9, hkr]; try simp only [Ex.fold, Ex.foldcs, ← Va.pv.eq_1] | refine hX _ _ ?_; clear hX X | clear hX X; refine hX _ _ ?_; clear hX X | clear hX X; clear hX X; refine hX _ _ ?_; clear hX X | intro hlen; unfold maxLen at hlen | apply And.intro; focus (first | omega | assumption | (repeat' apply And.intro) <;> first | omega | assumption)))
    refine callE ha ?_
    simp -implicitDefEqProofs only [↓slp, slb, ↓reduceIte, reduceCtorEq, jA, jB, jC, jD, jE, jF, jG, jH, jI, jJ, jK, tfInM]; try simp only [Ex.fold, Ex.foldcs, ← Va.pv.eq_1]
    (repeat (first | refine aSeq fun X hX => ?_ | refine aBlk ?_ | refine aSkip ?_ | (first | refine aExit ?_ | refine aRet ?_); try simp only [slx, ↓reduceIte, Nat.reduceEqDiff, reduceCtorEq] | (first | refine aReg ?_ | refine aDrE ?_); simp -implicitDefEqProofs only [forall_eq, ↓slp, slb, ↓reduceIte, reduceCtorEq, jA, jB, jC, jD, jE, jF, jG, jH, jI, jJ, jK, tfInM]; try simp only [Ex.fold, Ex.foldcs, ← Va.pv.eq_1] | refine hX _ _ ?_; clear hX X | clear hX X; refine hX _ _ ?_; clear hX X | clear hX X; clear hX X; refine hX _ _ ?_; clear hX X | intro hlen; unfold maxLen at hlen | apply And.intro; focus (first | omega | assumption | (repeat' apply And.intro) <;> first | omega | assumption)))
    simp only [aPost, Try.results35, aRes_n, aRes_t, aRes_c, pack_one, pack_two]
    exact leave_same rfl ⟨by rw [he]; rfl, rfl⟩
  have b9 : (e.kind == 9) = false := by simp [k9]
  by_cases k11 : e.kind = 11
  · have b11 : (e.kind == 11) = true := by simp [k11]
    rw [if_pos (.inr k11)] at he
    obtain ⟨a, r, hkr⟩ := fin1 (.inr k11)
    have ha := IH 0 (by rw [hkr]; simp) (hkf 0 (by rw [hkr]; simp))
    simp only [hkr, List.getElem_cons_zero] at ha
    rw [hkr, mayH] at he
    (repeat (first | refine aSeq fun X hX => ?_ | refine aBlk ?_ | refine aSkip ?_ | (first | refine aExit ?_ | refine aRet ?_); try simp only [slx, ↓reduceIte, Nat.reduceEqDiff, reduceCtorEq] | (first | refine aReg ?_ | refine aIf ?_); simp -implicitDefEqProofs only [forall_eq, ↓slp, slb, ↓reduceIte, reduceCtorEq, jA, jB, jC, jD, jE, jF, jG, jH, jI, jJ, jK, tfInM, b4, b10, b9, b11, hkr]; try simp only [Ex.fold, Ex.foldcs, ← Va.pv.eq_1] | refine hX _ _ ?_; clear hX X | clear hX X; refine hX _ _ ?_; clear hX X | clear hX X; clear hX X; refine hX _ _ ?_; clear hX X | intro hlen; unfold maxLen at hlen | apply And.intro; focus (first | omega | assumption | (repeat' apply And.intro) <;> first | omega | assumption)))
    refine callE ha ?_
    simp -implicitDefEqProofs only [↓slp, slb, ↓reduceIte, reduceCtorEq, jA, jB, jC, jD, jE, jF, jG, jH, jI, jJ, jK, tfInM]; try simp only [Ex.fold, Ex.foldcs, ← Va.pv.eq_1]
    (repeat (first | refine aSeq fun X hX => ?_ | refine aBlk ?_ | refine aSkip ?_ | (first | refine aExit ?_ | refine aRet ?_); try simp only [slx, ↓reduceIte, Nat.reduceEqDiff, reduceCtorEq] | (first | refine aReg ?_ | refine aDrE ?_); simp -implicitDefEqProofs only [forall_eq, ↓slp, slb, ↓reduceIte, reduceCtorEq, jA, jB, jC, jD, jE, jF, jG, jH, jI, jJ, jK, tfInM]; try simp only [Ex.fold, Ex.foldcs, ← Va.pv.eq_1] | refine hX _ _ ?_; clear hX X | clear hX X; refine hX _ _ ?_; clear hX X | clear hX X; clear hX X; refine hX _ _ ?_; clear hX X | intro hlen; unfold maxLen at hlen | apply And.intro; focus (first | omega | assumption | (repeat' apply And.intro) <;> first | omega | assumption)))
    simp only [aPost, Try.results35, aRes_n, aRes_t, aRes_c, pack_one, pack_two]
    exact leave_same rfl ⟨by rw [he]; rfl, rfl⟩
  have b11 : (e.kind == 11) = false := by simp [k11]
  rw [if_neg (by rintro (h | h); exact k9 h; exact k11 h)] at he
  (repeat (first | refine aSeq fun X hX => ?_ | refine aBlk ?_ | refine aSkip ?_ | (first | refine aExit ?_ | refine aRet ?_); try simp only [slx, ↓reduceIte, Nat.reduceEqDiff, reduceCtorEq] | (first | refine aReg ?_ | refine aIf ?_); simp -implicitDefEqProofs only [forall_eq, ↓slp, slb, ↓reduceIte, reduceCtorEq, jA, jB, jC, jD, jE, jF, jG, jH, jI, jJ, jK, tfInM, b4, b10, b9, b11]; try simp only [Ex.fold, Ex.foldcs, ← Va.pv.eq_1] | refine hX _ _ ?_; clear hX X | clear hX X; refine hX _ _ ?_; clear hX X | clear hX X; clear hX X; refine hX _ _ ?_; clear hX X | intro hlen; unfold maxLen at hlen | apply And.intro; focus (first | omega | assumption | (repeat' apply And.intro) <;> first | omega | assumption)))
  refine callM (containsMay_any N B id .no e.kids m (fun k hk => IH k hk (hkf k hk))) ?_
  rintro v m' ⟨rfl, rfl⟩
  simp -implicitDefEqProofs only [↓slp, slb, ↓reduceIte, reduceCtorEq, jA, jB, jC, jD, jE, jF, jG, jH, jI, jJ, jK, tfInM]; try simp only [Ex.fold, Ex.foldcs, ← Va.pv.eq_1]
  (repeat (first | refine aSeq fun X hX => ?_ | refine aBlk ?_ | refine aSkip ?_ | (first | refine aExit ?_ | refine aRet ?_); try simp only [slx, ↓reduceIte, Nat.reduceEqDiff, reduceCtorEq] | (first | refine aReg ?_ | refine aDrE ?_); simp -implicitDefEqProofs only [forall_eq, ↓slp, slb, ↓reduceIte, reduceCtorEq, jA, jB, jC, jD, jE, jF, jG, jH, jI, jJ, jK, tfInM]; try simp only [Ex.fold, Ex.foldcs, ← Va.pv.eq_1] | refine hX _ _ ?_; clear hX X | clear hX X; refine hX _ _ ?_; clear hX X | clear hX X; clear hX X; refine hX _ _ ?_; clear hX X | intro hlen; unfold maxLen at hlen | apply And.intro; focus (first | omega | assumption | (repeat' apply And.intro) <;> first | omega | assumption)))
  simp only [aPost, Try.results35, aRes_n, aRes_t, aRes_c, pack_one, pack_two]
  exact leave_same rfl ⟨by rw [he]; rfl, rfl⟩
end Go.Proofs.Ytfemdelaciccmaa
