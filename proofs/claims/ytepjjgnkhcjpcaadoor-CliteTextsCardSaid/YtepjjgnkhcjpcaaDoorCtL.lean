/-
  The law CliteTexts.
-/
import Derived.Test.YtepjjgnkhcjpcaaDoorCtU
import Derived.Test.YtepjjgnkhcjpcaaDoorCtSame
import Derived.Test.YtepjjgnkhcjpcaaDoorCtAw
set_option linter.unusedVariables false
set_option linter.unusedSimpArgs false
namespace Go.Proofs.YtepjjgnkhcjpcaaDoor
open Nat renaming reduceEqDiff → jA, reduceAdd → jB, reduceMul → jC, reduceLT → jD, reduceLeDiff → jE, reduceBEq → jF, reduceBNe → jG
open Int renaming reduceLE → jH, reduceLT → jI, reduceToNat → jJ, reduceEq → jK
open Go
-- EXX: CE.settle_pv, CE.pure_pv, CE.cells_pv, CE.cs
set_option maxRecDepth 20000
-- TNAMES: int; uint8; int32; string; bool; []uint8; *int; []clite.Expr; clite.Expr
set_option linter.defProp false
def tfCtL := And.intro @tfA (And.intro @Ex.settle_pv (And.intro @Ex.pure_pv (And.intro @Ex.cells_pv (And.intro @Ex.cs.eq_1 (And.intro @On.pv.eq_1 (And.intro @Ty.pv.eq_1 (And.intro @Va.settle_pv (And.intro @Va.pure_pv (And.intro @Va.cells_pv (And.intro @Va.cs.eq_1 (And.intro @CE.settle_pv (And.intro @CE.pure_pv (And.intro @CE.cells_pv @CE.cs.eq_1)))))))))))))

theorem CE.same_to (a : CE) : ∀ b : CE, a.same b = true → a = b := by
  refine CE.ind (motive := fun a => ∀ b : CE, a.same b = true → a = b) (fun a IH b h => ?_) a
  rw [CE.same_eq] at h
  simp only [Bool.and_eq_true, beq_iff_eq] at h
  obtain ⟨⟨⟨⟨h1, h2⟩, h3⟩, h4⟩, h5⟩ := h
  have h4' := eqS_iff.1 h4
  have key : ∀ (l r : List CE), (∀ (k : Nat) (hk : k < l.length), ∀ b : CE, l[k].same b = true → l[k] = b) → sameL CE.same l r = true → l = r := by
    intro l
    induction l with
    | nil => intro r _ hs; cases r with
      | nil => rfl
      | cons b r => simp [sameL] at hs
    | cons a l ih =>
      intro r hI hs
      cases r with
      | nil => simp [sameL] at hs
      | cons b r =>
        simp only [sameL, Bool.and_eq_true] at hs
        have e1 := hI 0 (by simp) b hs.1
        simp only [List.getElem_cons_zero] at e1
        have e2 := ih r (fun k hk c hc => by
          have := hI (k + 1) (by simpa using hk) c
          simp only [List.getElem_cons_succ] at this
          exact this hc) hs.2
        rw [e1, e2]
  have h6 := key _ _ IH h5
  cases a; cases b
  simp only [CE.kind, CE.op, CE.n, CE.name, CE.kids] at h1 h2 h3 h4' h6
  rw [h1, h2, h3, h4', h6]
theorem tx_kind : ∀ {d : Nat} {e : CE}, TX d e → ∃ k : Nat, e.kind = (k : Int) ∧ k ≤ 8 := by
  intro d e h
  cases h with
  | num d n h0 h1 => exact ⟨1, rfl, by omega⟩
  | loc d t ht => exact ⟨2, rfl, by omega⟩
  | fld d nm hn => exact ⟨3, rfl, by omega⟩
  | un d t a h0 h1 ha => exact ⟨4, rfl, by omega⟩
  | cond d a b c ha hb hc => exact ⟨6, rfl, by omega⟩
  | bin d u a b h0 h1 ha hb => exact ⟨5, rfl, by omega⟩
  | odd d t ht => exact ⟨t, rfl, by omega⟩
theorem num1_plain (m : M) : ACalls Tryd.prog 6 [(CE.mk 1 0 1 eS []).pv] m (fun v m' => v = pB (CE.mk 1 0 1 eS []).plain ∧ m' = m) :=
  plain_step _ 1 rfl (by omega) (fun j h => absurd h (by simp [CE.kids])) m
theorem tx_kids {d : Nat} {e : CE} (h : TX d e) : ∀ j (hj : j < e.kids.length), (∃ d', d = d' + 1 ∧ TX d' e.kids[j]) ∨ e.kids[j] = .mk 1 0 1 eS [] := by
  cases h with
  | num d n h0 h1 => intro j hj; simp [CE.kids] at hj
  | loc d t ht => intro j hj; simp [CE.kids] at hj
  | fld d nm hn => intro j hj; simp [CE.kids] at hj
  | un d t a h0 h1 ha => intro j hj; obtain rfl : j = 0 := by simpa [CE.kids] using hj
                         exact .inl ⟨d, rfl, ha⟩
  | cond d a b c ha hb hc =>
    intro j hj
    have : j < 3 := hj
    have : j = 0 ∨ j = 1 ∨ j = 2 := by omega
    rcases this with rfl | rfl | rfl
    · exact .inl ⟨d, rfl, ha⟩
    · exact .inl ⟨d, rfl, hb⟩
    · exact .inl ⟨d, rfl, hc⟩
  | bin d u a b h0 h1 ha hb =>
    intro j hj
    have : j < 2 := hj
    have : j = 0 ∨ j = 1 := by omega
    rcases this with rfl | rfl
    · exact .inl ⟨d, rfl, ha⟩
    · exact .inl ⟨d, rfl, hb⟩
  | odd d t ht => intro j hj; obtain rfl : j = 0 := by simpa [CE.kids] using hj
                  exact .inr rfl
theorem plain_any : ∀ {d : Nat} {e : CE}, TX d e → ∀ m : M, ACalls Tryd.prog 6 [e.pv] m (fun v m' => v = pB e.plain ∧ m' = m) := by
  intro d
  induction d with
  | zero =>
    intro e h m
    obtain ⟨k, hk, hk8⟩ := tx_kind h
    refine plain_step e k hk hk8 (fun j hj m => ?_) m
    rcases tx_kids h j hj with ⟨d', hd, _⟩ | h1
    · omega
    · rw [h1]; exact num1_plain m
  | succ d ih =>
    intro e h m
    obtain ⟨k, hk, hk8⟩ := tx_kind h
    refine plain_step e k hk hk8 (fun j hj m => ?_) m
    rcases tx_kids h j hj with ⟨d', hd, h1⟩ | h1
    · obtain rfl : d = d' := by omega
      exact ih h1 m
    · rw [h1]; exact num1_plain m
theorem tdy_of {d : Nat} {e : CE} (h : TX d e) (hp : e.plain = true) : Tdy e ∧ (e.kind = 1 ∨ e.kind = 2 ∨ e.kind = 3 ∨ e.kind = 4 ∨ e.kind = 5 ∨ e.kind = 6) ∧ e.kids.length ≤ 3 := by
  cases h with
  | num d n h0 h1 => exact ⟨⟨fun h => absurd rfl h, fun _ _ => rfl, fun _ _ => rfl⟩, .inl rfl, by simp [CE.kids]⟩
  | loc d t ht => exact ⟨⟨fun _ => rfl, fun h => absurd rfl h, fun _ _ => rfl⟩, .inr (.inl rfl), by simp [CE.kids]⟩
  | fld d nm hn => exact ⟨⟨fun _ => rfl, fun _ h => absurd rfl h, fun _ _ => rfl⟩, .inr (.inr (.inl rfl)), by simp [CE.kids]⟩
  | un d t a h0 h1 ha => exact ⟨⟨fun _ => rfl, fun _ _ => rfl, fun h => absurd rfl h⟩, .inr (.inr (.inr (.inl rfl))), by simp [CE.kids]⟩
  | cond d a b c ha hb hc => exact ⟨⟨fun _ => rfl, fun _ _ => rfl, fun _ _ => rfl⟩, .inr (.inr (.inr (.inr (.inr rfl)))), by simp [CE.kids]⟩
  | bin d u a b h0 h1 ha hb => exact ⟨⟨fun _ => rfl, fun _ _ => rfl, fun _ h => absurd rfl h⟩, .inr (.inr (.inr (.inr (.inl rfl)))), by simp [CE.kids]⟩
  | odd d t ht =>
    have : t = 0 ∨ t = 1 ∨ t = 2 ∨ t = 3 ∨ t = 4 ∨ t = 5 ∨ t = 6 ∨ t = 7 ∨ t = 8 := by omega
    rcases this with rfl | rfl | rfl | rfl | rfl | rfl | rfl | rfl | rfl <;> first | (exfalso; revert hp; decide) | skip
    exact ⟨⟨fun _ => rfl, fun _ _ => rfl, fun _ _ => rfl⟩, .inr (.inr (.inr (.inl rfl))), by simp [CE.kids]⟩
theorem num1_tidy (m : M) : ACalls Tryd.prog 8 [(CE.mk 1 0 1 eS []).pv] m (fun v m' => v = (CE.mk 1 0 1 eS []).pv ∧ m' = m) :=
  tidy_step _ ⟨fun h => absurd rfl h, fun _ _ => rfl, fun _ _ => rfl⟩ (.inl rfl) (by simp [CE.kids]) (fun j h => absurd h (by simp [CE.kids])) m
theorem plain_kid {e : CE} (hp : e.plain = true) : ∀ j (hj : j < e.kids.length), e.kids[j].plain = true := fun j hj => by
  rw [CE.plain_eq, Bool.and_eq_true] at hp
  exact List.all_eq_true.1 hp.2 _ (List.getElem_mem hj)
theorem tidy_any : ∀ {d : Nat} {e : CE}, TX d e → e.plain = true → ∀ m : M, ACalls Tryd.prog 8 [e.pv] m (fun v m' => v = e.pv ∧ m' = m) := by
  intro d
  induction d with
  | zero =>
    intro e h hp m
    obtain ⟨q1, q2, q3⟩ := tdy_of h hp
    refine tidy_step e q1 q2 q3 (fun j hj m => ?_) m
    rcases tx_kids h j hj with ⟨d', hd, _⟩ | h1
    · omega
    · rw [h1]; exact num1_tidy m
  | succ d ih =>
    intro e h hp m
    obtain ⟨q1, q2, q3⟩ := tdy_of h hp
    refine tidy_step e q1 q2 q3 (fun j hj m => ?_) m
    rcases tx_kids h j hj with ⟨d', hd, h1⟩ | h1
    · obtain rfl : d = d' := by omega
      exact ih h1 (plain_kid hp j hj) m
    · rw [h1]; exact num1_tidy m
set_option maxHeartbeats 8000000 in
theorem textsLaw_any (a b : List Int) (ha : ∀ x ∈ a, 0 ≤ x ∧ x ≤ 255) (hb : ∀ x ∈ b, 0 ≤ x ∧ x ≤ 255) :
    ACalls Tryd.prog 3 [.sl .no (a.map pU), .sl .no (b.map pU)] M0 (fun v m' => v = .v (.bool true)) := by
  refine ACalls.enter (mu := [5]) ok_mix Tryd.func3 rfl (by kernel_rfl) (by kernel_rfl) (by simp only [List.length_cons, List.length_nil, Tryd.ntmps3]; omega) ?_
  cases c1 : decide ((a.length : Int) > 100) with
  | true =>
    (repeat (first | refine aSeq fun X hX => ?_ | refine aBlk ?_ | refine aSkip ?_ | (first | refine aExit ?_ | refine aRet ?_); try simp only [slx, ↓reduceIte, Nat.reduceEqDiff, reduceCtorEq] | (first | refine aReg ?_ | refine aDrE ?_); simp -implicitDefEqProofs only [forall_eq, ↓slp, slb, ↓reduceIte, reduceCtorEq, jA, jB, jC, jD, jE, jF, jG, jH, jI, jJ, jK, tfCtL, c1]; try simp only [Ex.fold, Ex.foldcs, ← Va.pv.eq_1] | refine hX _ _ ?_; clear hX X | clear hX X; refine hX _ _ ?_; clear hX X | clear hX X; clear hX X; refine hX _ _ ?_; clear hX X | intro hlen; unfold maxLen at hlen | apply And.intro; focus (first | omega | assumption | (repeat' apply And.intro) <;> first | omega | assumption)))
    refine callE (awakeC _) ?_
    simp -implicitDefEqProofs only [↓slp, slb, ↓reduceIte, reduceCtorEq, jA, jB, jC, jD, jE, jF, jG, jH, jI, jJ, jK, tfCtL, c1]; try simp only [Ex.fold, Ex.foldcs, ← Va.pv.eq_1]
    (repeat (first | refine aSeq fun X hX => ?_ | refine aBlk ?_ | refine aSkip ?_ | (first | refine aExit ?_ | refine aRet ?_); try simp only [slx, ↓reduceIte, Nat.reduceEqDiff, reduceCtorEq] | (first | refine aReg ?_ | refine aDrE ?_); simp -implicitDefEqProofs only [forall_eq, ↓slp, slb, ↓reduceIte, reduceCtorEq, jA, jB, jC, jD, jE, jF, jG, jH, jI, jJ, jK, tfCtL, c1]; try simp only [Ex.fold, Ex.foldcs, ← Va.pv.eq_1] | refine hX _ _ ?_; clear hX X | clear hX X; refine hX _ _ ?_; clear hX X | clear hX X; clear hX X; refine hX _ _ ?_; clear hX X | intro hlen; unfold maxLen at hlen | apply And.intro; focus (first | omega | assumption | (repeat' apply And.intro) <;> first | omega | assumption)))
    refine aIf ?_; simp -implicitDefEqProofs only [↓slp, slb, ↓reduceIte, reduceCtorEq, jA, jB, jC, jD, jE, jF, jG, jH, jI, jJ, jK]
    (repeat (first | refine aSeq fun X hX => ?_ | refine aBlk ?_ | refine aSkip ?_ | (first | refine aExit ?_ | refine aRet ?_); try simp only [slx, ↓reduceIte, Nat.reduceEqDiff, reduceCtorEq] | (first | refine aReg ?_ | refine aDrE ?_); simp -implicitDefEqProofs only [forall_eq, ↓slp, slb, ↓reduceIte, reduceCtorEq, jA, jB, jC, jD, jE, jF, jG, jH, jI, jJ, jK, tfCtL]; try simp only [Ex.fold, Ex.foldcs, ← Va.pv.eq_1] | refine hX _ _ ?_; clear hX X | clear hX X; refine hX _ _ ?_; clear hX X | clear hX X; clear hX X; refine hX _ _ ?_; clear hX X | intro hlen; unfold maxLen at hlen | apply And.intro; focus (first | omega | assumption | (repeat' apply And.intro) <;> first | omega | assumption)))
    refine callE (awakeC _) ?_
    simp -implicitDefEqProofs only [↓slp, slb, ↓reduceIte, reduceCtorEq, jA, jB, jC, jD, jE, jF, jG, jH, jI, jJ, jK, tfCtL]; try simp only [Ex.fold, Ex.foldcs, ← Va.pv.eq_1]
    (repeat (first | refine aSeq fun X hX => ?_ | refine aBlk ?_ | refine aSkip ?_ | (first | refine aExit ?_ | refine aRet ?_); try simp only [slx, ↓reduceIte, Nat.reduceEqDiff, reduceCtorEq] | (first | refine aReg ?_ | refine aDrE ?_); simp -implicitDefEqProofs only [forall_eq, ↓slp, slb, ↓reduceIte, reduceCtorEq, jA, jB, jC, jD, jE, jF, jG, jH, jI, jJ, jK, tfCtL]; try simp only [Ex.fold, Ex.foldcs, ← Va.pv.eq_1] | refine hX _ _ ?_; clear hX X | clear hX X; refine hX _ _ ?_; clear hX X | clear hX X; clear hX X; refine hX _ _ ?_; clear hX X | intro hlen; unfold maxLen at hlen | apply And.intro; focus (first | omega | assumption | (repeat' apply And.intro) <;> first | omega | assumption)))
    simp only [aPost, Tryd.results3, aRes_n, aRes_t, aRes_c, pack_one, pack_two]
    exact leave_same rfl rfl
  | false =>
  cases c2 : decide ((b.length : Int) > 100) with
  | true =>
    (repeat (first | refine aSeq fun X hX => ?_ | refine aBlk ?_ | refine aSkip ?_ | (first | refine aExit ?_ | refine aRet ?_); try simp only [slx, ↓reduceIte, Nat.reduceEqDiff, reduceCtorEq] | (first | refine aReg ?_ | refine aDrE ?_); simp -implicitDefEqProofs only [forall_eq, ↓slp, slb, ↓reduceIte, reduceCtorEq, jA, jB, jC, jD, jE, jF, jG, jH, jI, jJ, jK, tfCtL, c1, c2]; try simp only [Ex.fold, Ex.foldcs, ← Va.pv.eq_1] | refine hX _ _ ?_; clear hX X | clear hX X; refine hX _ _ ?_; clear hX X | clear hX X; clear hX X; refine hX _ _ ?_; clear hX X | intro hlen; unfold maxLen at hlen | apply And.intro; focus (first | omega | assumption | (repeat' apply And.intro) <;> first | omega | assumption)))
    refine callE (awakeC _) ?_
    simp -implicitDefEqProofs only [↓slp, slb, ↓reduceIte, reduceCtorEq, jA, jB, jC, jD, jE, jF, jG, jH, jI, jJ, jK, tfCtL, c1, c2]; try simp only [Ex.fold, Ex.foldcs, ← Va.pv.eq_1]
    (repeat (first | refine aSeq fun X hX => ?_ | refine aBlk ?_ | refine aSkip ?_ | (first | refine aExit ?_ | refine aRet ?_); try simp only [slx, ↓reduceIte, Nat.reduceEqDiff, reduceCtorEq] | (first | refine aReg ?_ | refine aDrE ?_); simp -implicitDefEqProofs only [forall_eq, ↓slp, slb, ↓reduceIte, reduceCtorEq, jA, jB, jC, jD, jE, jF, jG, jH, jI, jJ, jK, tfCtL, c1, c2]; try simp only [Ex.fold, Ex.foldcs, ← Va.pv.eq_1] | refine hX _ _ ?_; clear hX X | clear hX X; refine hX _ _ ?_; clear hX X | clear hX X; clear hX X; refine hX _ _ ?_; clear hX X | intro hlen; unfold maxLen at hlen | apply And.intro; focus (first | omega | assumption | (repeat' apply And.intro) <;> first | omega | assumption)))
    refine aIf ?_; simp -implicitDefEqProofs only [↓slp, slb, ↓reduceIte, reduceCtorEq, jA, jB, jC, jD, jE, jF, jG, jH, jI, jJ, jK]
    (repeat (first | refine aSeq fun X hX => ?_ | refine aBlk ?_ | refine aSkip ?_ | (first | refine aExit ?_ | refine aRet ?_); try simp only [slx, ↓reduceIte, Nat.reduceEqDiff, reduceCtorEq] | (first | refine aReg ?_ | refine aDrE ?_); simp -implicitDefEqProofs only [forall_eq, ↓slp, slb, ↓reduceIte, reduceCtorEq, jA, jB, jC, jD, jE, jF, jG, jH, jI, jJ, jK, tfCtL]; try simp only [Ex.fold, Ex.foldcs, ← Va.pv.eq_1] | refine hX _ _ ?_; clear hX X | clear hX X; refine hX _ _ ?_; clear hX X | clear hX X; clear hX X; refine hX _ _ ?_; clear hX X | intro hlen; unfold maxLen at hlen | apply And.intro; focus (first | omega | assumption | (repeat' apply And.intro) <;> first | omega | assumption)))
    refine callE (awakeC _) ?_
    simp -implicitDefEqProofs only [↓slp, slb, ↓reduceIte, reduceCtorEq, jA, jB, jC, jD, jE, jF, jG, jH, jI, jJ, jK, tfCtL]; try simp only [Ex.fold, Ex.foldcs, ← Va.pv.eq_1]
    (repeat (first | refine aSeq fun X hX => ?_ | refine aBlk ?_ | refine aSkip ?_ | (first | refine aExit ?_ | refine aRet ?_); try simp only [slx, ↓reduceIte, Nat.reduceEqDiff, reduceCtorEq] | (first | refine aReg ?_ | refine aDrE ?_); simp -implicitDefEqProofs only [forall_eq, ↓slp, slb, ↓reduceIte, reduceCtorEq, jA, jB, jC, jD, jE, jF, jG, jH, jI, jJ, jK, tfCtL]; try simp only [Ex.fold, Ex.foldcs, ← Va.pv.eq_1] | refine hX _ _ ?_; clear hX X | clear hX X; refine hX _ _ ?_; clear hX X | clear hX X; clear hX X; refine hX _ _ ?_; clear hX X | intro hlen; unfold maxLen at hlen | apply And.intro; focus (first | omega | assumption | (repeat' apply And.intro) <;> first | omega | assumption)))
    simp only [aPost, Tryd.results3, aRes_n, aRes_t, aRes_c, pack_one, pack_two]
    exact leave_same rfl rfl
  | false =>
  have ok1 : (⟨a, 0⟩ : CP).ok (M0.ext [some [.v (.int .i64 0)]]) := ⟨show (0 : Nat) < 1 by omega, show a.length ≤ 300 by (simp at c1; omega), ha⟩
  have ok2 : ∀ i : Nat, (⟨b, 0⟩ : CP).ok (M0.ext [some [.v (.int .i64 i)]]) := fun i => ⟨show (0 : Nat) < 1 by omega, show b.length ≤ 300 by (simp at c2; omega), hb⟩
  have x1 : ACalls Tryd.prog 5 [.sl .no (a.map pU), .bp 0 0, .v (.int .i64 3)] (M0.ext [some [.v (.int .i64 0)]]) (fun v m' => ∃ e i', v = CE.pv e ∧ TX 3 e ∧ m' = M0.ext [some [.v (.int .i64 ((i' : Nat) : Int))]]) := exprR_any 3 (by omega) ⟨a, 0⟩ _ ok1 0
  have x2 : ACalls Tryd.prog 5 [.sl .no (b.map pU), .bp 0 0, .v (.int .i64 3)] (M0.ext [some [.v (.int .i64 0)]]) (fun v m' => ∃ e i', v = CE.pv e ∧ TX 3 e ∧ m' = M0.ext [some [.v (.int .i64 ((i' : Nat) : Int))]]) := exprR_any 3 (by omega) ⟨b, 0⟩ _ (ok2 0) 0
  (repeat (first | refine aSeq fun X hX => ?_ | refine aBlk ?_ | refine aSkip ?_ | (first | refine aExit ?_ | refine aRet ?_); try simp only [slx, ↓reduceIte, Nat.reduceEqDiff, reduceCtorEq] | (first | refine aReg ?_ | refine aDrE ?_); simp -implicitDefEqProofs only [forall_eq, ↓slp, slb, ↓reduceIte, reduceCtorEq, jA, jB, jC, jD, jE, jF, jG, jH, jI, jJ, jK, tfCtL, c1, c2]; try simp only [Ex.fold, Ex.foldcs, ← Va.pv.eq_1] | refine hX _ _ ?_; clear hX X | clear hX X; refine hX _ _ ?_; clear hX X | clear hX X; clear hX X; refine hX _ _ ?_; clear hX X | intro hlen; unfold maxLen at hlen | apply And.intro; focus (first | omega | assumption | (repeat' apply And.intro) <;> first | omega | assumption)))
  refine callE (awakeC _) ?_
  simp -implicitDefEqProofs only [↓slp, slb, ↓reduceIte, reduceCtorEq, jA, jB, jC, jD, jE, jF, jG, jH, jI, jJ, jK, tfCtL, c1, c2]; try simp only [Ex.fold, Ex.foldcs, ← Va.pv.eq_1]
  (repeat (first | refine aSeq fun X hX => ?_ | refine aBlk ?_ | refine aSkip ?_ | (first | refine aExit ?_ | refine aRet ?_); try simp only [slx, ↓reduceIte, Nat.reduceEqDiff, reduceCtorEq] | (first | refine aReg ?_ | refine aDrE ?_); simp -implicitDefEqProofs only [forall_eq, ↓slp, slb, ↓reduceIte, reduceCtorEq, jA, jB, jC, jD, jE, jF, jG, jH, jI, jJ, jK, tfCtL, c1, c2]; try simp only [Ex.fold, Ex.foldcs, ← Va.pv.eq_1] | refine hX _ _ ?_; clear hX X | clear hX X; refine hX _ _ ?_; clear hX X | clear hX X; clear hX X; refine hX _ _ ?_; clear hX X | intro hlen; unfold maxLen at hlen | apply And.intro; focus (first | omega | assumption | (repeat' apply And.intro) <;> first | omega | assumption)))
  refine aIf ?_; simp -implicitDefEqProofs only [↓slp, slb, ↓reduceIte, reduceCtorEq, jA, jB, jC, jD, jE, jF, jG, jH, jI, jJ, jK]
  (repeat (first | refine aSeq fun X hX => ?_ | refine aBlk ?_ | refine aSkip ?_ | (first | refine aExit ?_ | refine aRet ?_); try simp only [slx, ↓reduceIte, Nat.reduceEqDiff, reduceCtorEq] | (first | refine aReg ?_ | refine aDrE ?_); simp -implicitDefEqProofs only [forall_eq, ↓slp, slb, ↓reduceIte, reduceCtorEq, jA, jB, jC, jD, jE, jF, jG, jH, jI, jJ, jK, tfCtL]; try simp only [Ex.fold, Ex.foldcs, ← Va.pv.eq_1] | refine hX _ _ ?_; clear hX X | clear hX X; refine hX _ _ ?_; clear hX X | clear hX X; clear hX X; refine hX _ _ ?_; clear hX X | intro hlen; unfold maxLen at hlen | apply And.intro; focus (first | omega | assumption | (repeat' apply And.intro) <;> first | omega | assumption)))
  refine callM x1 ?_
  rintro v m' ⟨e1, i1, rfl, g1, rfl⟩
  simp -implicitDefEqProofs only [↓slp, slb, ↓reduceIte, reduceCtorEq, jA, jB, jC, jD, jE, jF, jG, jH, jI, jJ, jK, tfCtL]; try simp only [Ex.fold, Ex.foldcs, ← Va.pv.eq_1]
  (repeat (first | refine aSeq fun X hX => ?_ | refine aBlk ?_ | refine aSkip ?_ | (first | refine aExit ?_ | refine aRet ?_); try simp only [slx, ↓reduceIte, Nat.reduceEqDiff, reduceCtorEq] | (first | refine aReg ?_ | refine aDrE ?_); simp -implicitDefEqProofs only [forall_eq, ↓slp, slb, ↓reduceIte, reduceCtorEq, jA, jB, jC, jD, jE, jF, jG, jH, jI, jJ, jK, tfCtL]; try simp only [Ex.fold, Ex.foldcs, ← Va.pv.eq_1] | refine hX _ _ ?_; clear hX X | clear hX X; refine hX _ _ ?_; clear hX X | clear hX X; clear hX X; refine hX _ _ ?_; clear hX X | intro hlen; unfold maxLen at hlen | apply And.intro; focus (first | omega | assumption | (repeat' apply And.intro) <;> first | omega | assumption)))
  refine callM x2 ?_
  rintro v m' ⟨e2, i2, rfl, g2, rfl⟩
  have p1 := fun m => plain_any g1 m
  have p2 := fun m => plain_any g2 m
  simp only [CE.pv_eq, CE.cs] at p1 p2
  simp -implicitDefEqProofs only [↓slp, slb, ↓reduceIte, reduceCtorEq, jA, jB, jC, jD, jE, jF, jG, jH, jI, jJ, jK, tfCtL]; try simp only [Ex.fold, Ex.foldcs, ← Va.pv.eq_1]
  (repeat (first | refine aSeq fun X hX => ?_ | refine aBlk ?_ | refine aSkip ?_ | (first | refine aExit ?_ | refine aRet ?_); try simp only [slx, ↓reduceIte, Nat.reduceEqDiff, reduceCtorEq] | (first | refine aReg ?_ | refine aDrE ?_); simp -implicitDefEqProofs only [forall_eq, ↓slp, slb, ↓reduceIte, reduceCtorEq, jA, jB, jC, jD, jE, jF, jG, jH, jI, jJ, jK, tfCtL]; try simp only [Ex.fold, Ex.foldcs, ← Va.pv.eq_1] | refine hX _ _ ?_; clear hX X | clear hX X; refine hX _ _ ?_; clear hX X | clear hX X; clear hX X; refine hX _ _ ?_; clear hX X | intro hlen; unfold maxLen at hlen | apply And.intro; focus (first | omega | assumption | (repeat' apply And.intro) <;> first | omega | assumption)))
  refine callM (p1 _) ?_
  rintro v m' ⟨rfl, rfl⟩
  cases h1 : e1.plain with
  | false =>
    simp -implicitDefEqProofs only [↓slp, slb, ↓reduceIte, reduceCtorEq, jA, jB, jC, jD, jE, jF, jG, jH, jI, jJ, jK, tfCtL, pB, h1, Bool.not_false]; try simp only [Ex.fold, Ex.foldcs, ← Va.pv.eq_1]
    (repeat (first | refine aSeq fun X hX => ?_ | refine aBlk ?_ | refine aSkip ?_ | (first | refine aExit ?_ | refine aRet ?_); try simp only [slx, ↓reduceIte, Nat.reduceEqDiff, reduceCtorEq] | (first | refine aReg ?_ | refine aIf ?_); simp -implicitDefEqProofs only [forall_eq, ↓slp, slb, ↓reduceIte, reduceCtorEq, jA, jB, jC, jD, jE, jF, jG, jH, jI, jJ, jK, tfCtL, pB, h1, Bool.not_false]; try simp only [Ex.fold, Ex.foldcs, ← Va.pv.eq_1] | refine hX _ _ ?_; clear hX X | clear hX X; refine hX _ _ ?_; clear hX X | clear hX X; clear hX X; refine hX _ _ ?_; clear hX X | intro hlen; unfold maxLen at hlen | apply And.intro; focus (first | omega | assumption | (repeat' apply And.intro) <;> first | omega | assumption)))
    simp only [aPost, Tryd.results3, aRes_n, aRes_t, aRes_c, pack_one, pack_two]
    exact leave_ext rfl rfl
  | true =>
  simp -implicitDefEqProofs only [↓slp, slb, ↓reduceIte, reduceCtorEq, jA, jB, jC, jD, jE, jF, jG, jH, jI, jJ, jK, tfCtL, pB, h1, Bool.not_true]; try simp only [Ex.fold, Ex.foldcs, ← Va.pv.eq_1]
  refine callM (p2 _) ?_
  rintro v m' ⟨rfl, rfl⟩
  cases h2 : e2.plain with
  | false =>
    simp -implicitDefEqProofs only [↓slp, slb, ↓reduceIte, reduceCtorEq, jA, jB, jC, jD, jE, jF, jG, jH, jI, jJ, jK, tfCtL, pB, h2, Bool.not_false]; try simp only [Ex.fold, Ex.foldcs, ← Va.pv.eq_1]
    (repeat (first | refine aSeq fun X hX => ?_ | refine aBlk ?_ | refine aSkip ?_ | (first | refine aExit ?_ | refine aRet ?_); try simp only [slx, ↓reduceIte, Nat.reduceEqDiff, reduceCtorEq] | (first | refine aReg ?_ | refine aIf ?_); simp -implicitDefEqProofs only [forall_eq, ↓slp, slb, ↓reduceIte, reduceCtorEq, jA, jB, jC, jD, jE, jF, jG, jH, jI, jJ, jK, tfCtL, pB, h2, Bool.not_false]; try simp only [Ex.fold, Ex.foldcs, ← Va.pv.eq_1] | refine hX _ _ ?_; clear hX X | clear hX X; refine hX _ _ ?_; clear hX X | clear hX X; clear hX X; refine hX _ _ ?_; clear hX X | intro hlen; unfold maxLen at hlen | apply And.intro; focus (first | omega | assumption | (repeat' apply And.intro) <;> first | omega | assumption)))
    simp only [aPost, Tryd.results3, aRes_n, aRes_t, aRes_c, pack_one, pack_two]
    exact leave_ext rfl rfl
  | true =>
  have y1 := fun m => tidy_any g1 h1 m
  have y2 := fun m => tidy_any g2 h2 m
  have z1 := fun m => print_any 3 (by omega) e1 g1 h1 m
  have z2 := fun m => print_any 3 (by omega) e2 g2 h2 m
  have sm := fun m => sameR_any e1 e2 m
  simp only [CE.pv_eq, CE.cs] at y1 y2 z1 z2 sm
  have heq : e1.same e2 = ((bS e1.txt).toList == (bS e2.txt).toList) := by
    show _ = eqS (bS e1.txt) (bS e2.txt)
    cases hs : e1.same e2 with
    | true =>
      rw [CE.same_to e1 e2 hs]
      exact (eqS_iff.2 rfl).symm
    | false =>
      cases hq : eqS (bS e1.txt) (bS e2.txt) with
      | false => rfl
      | true =>
        have h3 := eqS_iff.1 hq
        have h4 : e1.txt = e2.txt := by
          have := congrArg (fun s : ByteArray => s.data.toList) h3
          simpa [bS] using this
        rw [txt_inj g1 g2 h1 h2 h4, CE.same_refl] at hs
        cases hs
  simp -implicitDefEqProofs only [↓slp, slb, ↓reduceIte, reduceCtorEq, jA, jB, jC, jD, jE, jF, jG, jH, jI, jJ, jK, tfCtL, pB, h2, Bool.not_true]; try simp only [Ex.fold, Ex.foldcs, ← Va.pv.eq_1]
  (repeat (first | refine aSeq fun X hX => ?_ | refine aBlk ?_ | refine aSkip ?_ | (first | refine aExit ?_ | refine aRet ?_); try simp only [slx, ↓reduceIte, Nat.reduceEqDiff, reduceCtorEq] | (first | refine aReg ?_ | refine aIf ?_); simp -implicitDefEqProofs only [forall_eq, ↓slp, slb, ↓reduceIte, reduceCtorEq, jA, jB, jC, jD, jE, jF, jG, jH, jI, jJ, jK, tfCtL, pB, h2, Bool.not_true]; try simp only [Ex.fold, Ex.foldcs, ← Va.pv.eq_1] | refine hX _ _ ?_; clear hX X | clear hX X; refine hX _ _ ?_; clear hX X | clear hX X; clear hX X; refine hX _ _ ?_; clear hX X | intro hlen; unfold maxLen at hlen | apply And.intro; focus (first | omega | assumption | (repeat' apply And.intro) <;> first | omega | assumption)))
  (repeat (first | refine aSeq fun X hX => ?_ | refine aBlk ?_ | refine aSkip ?_ | (first | refine aExit ?_ | refine aRet ?_); try simp only [slx, ↓reduceIte, Nat.reduceEqDiff, reduceCtorEq] | (first | refine aReg ?_ | refine aDrE ?_ | refine aIf ?_); simp -implicitDefEqProofs only [forall_eq, ↓slp, slb, ↓reduceIte, reduceCtorEq, jA, jB, jC, jD, jE, jF, jG, jH, jI, jJ, jK, tfCtL, pB, h2, Bool.not_true]; try simp only [Ex.fold, Ex.foldcs, ← Va.pv.eq_1] | refine hX _ _ ?_; clear hX X | clear hX X; refine hX _ _ ?_; clear hX X | clear hX X; clear hX X; refine hX _ _ ?_; clear hX X | intro hlen; unfold maxLen at hlen | apply And.intro; focus (first | omega | assumption | (repeat' apply And.intro) <;> first | omega | assumption)))
  refine callM (y1 _) ?_
  rintro v m' ⟨rfl, rfl⟩
  simp -implicitDefEqProofs only [↓slp, slb, ↓reduceIte, reduceCtorEq, jA, jB, jC, jD, jE, jF, jG, jH, jI, jJ, jK, tfCtL]; try simp only [Ex.fold, Ex.foldcs, ← Va.pv.eq_1]
  refine callM (y2 _) ?_
  rintro v m' ⟨rfl, rfl⟩
  simp -implicitDefEqProofs only [↓slp, slb, ↓reduceIte, reduceCtorEq, jA, jB, jC, jD, jE, jF, jG, jH, jI, jJ, jK, tfCtL]; try simp only [Ex.fold, Ex.foldcs, ← Va.pv.eq_1]
  refine callM (sm _) ?_
  rintro v m' ⟨rfl, rfl⟩
  simp -implicitDefEqProofs only [↓slp, slb, ↓reduceIte, reduceCtorEq, jA, jB, jC, jD, jE, jF, jG, jH, jI, jJ, jK, tfCtL, pB]; try simp only [Ex.fold, Ex.foldcs, ← Va.pv.eq_1]
  refine callM (z1 _) ?_
  rintro v m' ⟨rfl, rfl⟩
  simp -implicitDefEqProofs only [↓slp, slb, ↓reduceIte, reduceCtorEq, jA, jB, jC, jD, jE, jF, jG, jH, jI, jJ, jK, tfCtL]; try simp only [Ex.fold, Ex.foldcs, ← Va.pv.eq_1]
  refine callM (z2 _) ?_
  rintro v m' ⟨rfl, rfl⟩
  have hbb : (((bS e1.txt).toList == (bS e2.txt).toList) == ((bS e1.txt).toList == (bS e2.txt).toList)) = true := by simp
  simp -implicitDefEqProofs only [↓slp, slb, ↓reduceIte, reduceCtorEq, jA, jB, jC, jD, jE, jF, jG, jH, jI, jJ, jK, tfCtL, heq, hbb]; try simp only [Ex.fold, Ex.foldcs, ← Va.pv.eq_1]
  (repeat (first | refine aSeq fun X hX => ?_ | refine aBlk ?_ | refine aSkip ?_ | (first | refine aExit ?_ | refine aRet ?_); try simp only [slx, ↓reduceIte, Nat.reduceEqDiff, reduceCtorEq] | (first | refine aReg ?_ | refine aIf ?_); simp -implicitDefEqProofs only [forall_eq, ↓slp, slb, ↓reduceIte, reduceCtorEq, jA, jB, jC, jD, jE, jF, jG, jH, jI, jJ, jK, tfCtL]; try simp only [Ex.fold, Ex.foldcs, ← Va.pv.eq_1] | refine hX _ _ ?_; clear hX X | clear hX X; refine hX _ _ ?_; clear hX X | clear hX X; clear hX X; refine hX _ _ ?_; clear hX X | intro hlen; unfold maxLen at hlen | apply And.intro; focus (first | omega | assumption | (repeat' apply And.intro) <;> first | omega | assumption)))
  simp only [aPost, Tryd.results3, aRes_n, aRes_t, aRes_c, pack_one, pack_two]
  exact leave_ext rfl rfl
end Go.Proofs.YtepjjgnkhcjpcaaDoor
