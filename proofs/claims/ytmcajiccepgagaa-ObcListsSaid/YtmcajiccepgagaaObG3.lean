/-
  Texts that belong together: ObSz, ObSame, ObSets.
-/
import Derived.Test.YtmcajiccepgagaaObCn
import Derived.Test.YtmcajiccepgagaaObG2
import Derived.Test.YtmcajiccepgagaaSlcO
/-
  How many statements there are.
-/
set_option linter.unusedVariables false
set_option linter.unusedSimpArgs false
namespace Go.Proofs.Ytmcajiccepgagaa
open Nat renaming reduceEqDiff → jA, reduceAdd → jB, reduceMul → jC, reduceLT → jD, reduceLeDiff → jE, reduceBEq → jF, reduceBNe → jG
open Int renaming reduceLE → jH, reduceLT → jI, reduceToNat → jJ, reduceEq → jK
open Go
-- EXX: OS.settle_pv, OS.pure_pv, OS.cells_pv, OS.cs
set_option maxRecDepth 20000
-- TNAMES: int; uint8; int32; string; bool; []api.Expr; api.Expr; []string; obc.Stmt; []obc.Stmt
set_option linter.defProp false
def tfObSz := And.intro @tfA (And.intro @Ex.settle_pv (And.intro @Ex.pure_pv (And.intro @Ex.cells_pv (And.intro @Ex.cs.eq_1 (And.intro @On.pv.eq_1 (And.intro @Ty.pv.eq_1 (And.intro @Va.settle_pv (And.intro @Va.pure_pv (And.intro @Va.cells_pv (And.intro @Va.cs.eq_1 (And.intro @OS.settle_pv (And.intro @OS.pure_pv (And.intro @OS.cells_pv @OS.cs.eq_1)))))))))))))

theorem OS.indQ {Q : List OS → Prop} (h0 : Q []) (h1 : ∀ s l, Q s.th → Q s.el → Q l → Q (s :: l)) : ∀ l, Q l
  | [] => h0
  | .mk k n e th el :: l => h1 (.mk k n e th el) l (OS.indQ h0 h1 th) (OS.indQ h0 h1 el) (OS.indQ h0 h1 l)
theorem OS.indM {P : List OS → Prop} (h : ∀ l, (∀ x ∈ l, P x.th ∧ P x.el) → P l) : ∀ l, P l := by
  have : ∀ l : List OS, ∀ x ∈ l, P x.th ∧ P x.el := by
    refine OS.indQ (Q := fun l => ∀ x ∈ l, P x.th ∧ P x.el) (fun x hx => by cases hx) (fun s l a b c x hx => ?_)
    rcases List.mem_cons.1 hx with rfl | hx
    · exact ⟨h _ a, h _ b⟩
    · exact c x hx
  exact fun l => h l (this l)
mutual
def OS.sz : OS → Int
  | .mk _ _ _ th el => IntKind.i64.wrap (IntKind.i64.wrap (1 + OS.szs 0 th) + OS.szs 0 el)
def OS.szs : Int → List OS → Int
  | n, [] => n
  | n, s :: l => OS.szs (IntKind.i64.wrap (n + s.sz)) l
end
theorem OS.sz_eq (s : OS) : s.sz = IntKind.i64.wrap (IntKind.i64.wrap (1 + OS.szs 0 s.th) + OS.szs 0 s.el) := by cases s; rw [OS.sz]; rfl
theorem OS.szs_drop {n : Int} {l : List OS} {k : Nat} (h : k < l.length) : OS.szs n (l.drop k) = OS.szs (IntKind.i64.wrap (n + IntKind.i64.wrap (IntKind.i64.wrap (1 + OS.szs 0 l[k].th) + OS.szs 0 l[k].el))) (l.drop (k + 1)) := by
  rw [List.drop_eq_getElem_cons h, OS.szs, OS.sz_eq]
theorem OS.szs_end {n : Int} {l : List OS} : OS.szs n (l.drop l.length) = n := by rw [List.drop_length, OS.szs]

set_option maxHeartbeats 1000000 in
theorem sizeO_any (l : List OS) : ∀ (m : M), ACalls Try.prog 18 [.sl .no (l.map OS.pv)] m (fun v m' => v = pI (OS.szs 0 l) ∧ m' = m) := by
  refine OS.indM (P := fun l => ∀ (m : M), ACalls Try.prog 18 [.sl .no (l.map OS.pv)] m (fun v m' => v = pI (OS.szs 0 l) ∧ m' = m)) (fun l IH m => ?_) l
  refine ACalls.enter (mu := []) ok_mix Try.func18 rfl (by kernel_rfl) (by kernel_rfl) (by simp only [List.length_cons, List.length_nil, Try.ntmps18]; omega) ?_
  (repeat (first | refine aSeq fun X hX => ?_ | refine aBlk ?_ | refine aSkip ?_ | (first | refine aExit ?_ | refine aRet ?_); try simp only [slx, ↓reduceIte, Nat.reduceEqDiff, reduceCtorEq] | (first | refine aReg ?_ | refine aDrE ?_); simp -implicitDefEqProofs only [forall_eq, ↓slp, slb, ↓reduceIte, reduceCtorEq, jA, jB, jC, jD, jE, jF, jG, jH, jI, jJ, jK, tfObSz]; try simp only [Ex.fold, Ex.foldcs, ← Va.pv.eq_1] | refine hX _ _ ?_; clear hX X | clear hX X; refine hX _ _ ?_; clear hX X | clear hX X; clear hX X; refine hX _ _ ?_; clear hX X | intro hlen; unfold maxLen at hlen | apply And.intro; focus (first | omega | assumption | (repeat' apply And.intro) <;> first | omega | assumption)))
  obtain ⟨I, hI⟩ : ∃ I : F → M → Prop, ∀ f m', I f m' = (∃ (k : Nat) (y : Int), k ≤ l.length ∧ OS.szs 0 l = OS.szs y (l.drop k) ∧ f 3 = pI y ∧ f 6 = .sl .no (l.map OS.pv) ∧ f 7 = pI l.length ∧ f 8 = pI k ∧ m' = m) := ⟨_, fun _ _ => rfl⟩
  refine aLoop I (fun f m => l.length - numOf (f 8)) ?_ ?_
  · rw [hI]; exact ⟨0, 0, by omega, rfl, rfl, rfl, rfl, rfl, rfl⟩
  intro f m' hrel
  rw [hI] at hrel
  obtain ⟨k, y, hk, hs, h3, h6, h7, h8, rfl⟩ := hrel
  cases c1 : decide ((k : Int) < (l.length : Int)) with
  | false =>
    obtain rfl : k = l.length := by simp at c1; omega
    (repeat (first | refine aSeq fun X hX => ?_ | refine aBlk ?_ | refine aSkip ?_ | (first | refine aExit ?_ | refine aRet ?_); try simp only [slx, ↓reduceIte, Nat.reduceEqDiff, reduceCtorEq] | (first | refine aReg ?_ | refine aDrE ?_); simp -implicitDefEqProofs only [forall_eq, ↓slp, slb, ↓reduceIte, reduceCtorEq, jA, jB, jC, jD, jE, jF, jG, jH, jI, jJ, jK, tfObSz, h3, h6, h7, h8, pI, c1]; try simp only [Ex.fold, Ex.foldcs, ← Va.pv.eq_1] | refine hX _ _ ?_; clear hX X | clear hX X; refine hX _ _ ?_; clear hX X | clear hX X; clear hX X; refine hX _ _ ?_; clear hX X | intro hlen; unfold maxLen at hlen | apply And.intro; focus (first | omega | assumption | (repeat' apply And.intro) <;> first | omega | assumption)))
    refine aIf ?_; simp -implicitDefEqProofs only [↓slp, slb, ↓reduceIte, reduceCtorEq, jA, jB, jC, jD, jE, jF, jG, jH, jI, jJ, jK]
    (repeat (first | refine aSeq fun X hX => ?_ | refine aBlk ?_ | refine aSkip ?_ | (first | refine aExit ?_ | refine aRet ?_); try simp only [slx, ↓reduceIte, Nat.reduceEqDiff, reduceCtorEq] | (first | refine aReg ?_ | refine aDrE ?_); simp -implicitDefEqProofs only [forall_eq, ↓slp, slb, ↓reduceIte, reduceCtorEq, jA, jB, jC, jD, jE, jF, jG, jH, jI, jJ, jK, tfObSz, h3]; try simp only [Ex.fold, Ex.foldcs, ← Va.pv.eq_1] | refine hX _ _ ?_; clear hX X | clear hX X; refine hX _ _ ?_; clear hX X | clear hX X; clear hX X; refine hX _ _ ?_; clear hX X | intro hlen; unfold maxLen at hlen | apply And.intro; focus (first | omega | assumption | (repeat' apply And.intro) <;> first | omega | assumption)))
    simp only [aPost, Try.results18, aRes_n, aRes_t, aRes_c, pack_one, pack_two]
    refine leave_same rfl ⟨?_, rfl⟩
    rw [hs, OS.szs_end]; rfl
  | true =>
    have hlt : k < l.length := by simpa using c1
    have hg := getD_map OS.pv l k hlt
    have hi : IntKind.i64.wrap ((k : Int) + 1) = ((k + 1 : Nat) : Int) := by rw [wrap64 (by omega)]; omega
    have hme : numOf (f 8) = k := by rw [h8]; exact Int.toNat_natCast k
    rw [OS.szs_drop hlt] at hs
    have ih := IH l[k] (List.getElem_mem hlt)
    (repeat (first | refine aSeq fun X hX => ?_ | refine aBlk ?_ | refine aSkip ?_ | (first | refine aExit ?_ | refine aRet ?_); try simp only [slx, ↓reduceIte, Nat.reduceEqDiff, reduceCtorEq] | (first | refine aReg ?_ | refine aDrE ?_); simp -implicitDefEqProofs only [forall_eq, ↓slp, slb, ↓reduceIte, reduceCtorEq, jA, jB, jC, jD, jE, jF, jG, jH, jI, jJ, jK, tfObSz, h3, h6, h7, h8, pI, c1]; try simp only [Ex.fold, Ex.foldcs, ← Va.pv.eq_1] | refine hX _ _ ?_; clear hX X | clear hX X; refine hX _ _ ?_; clear hX X | clear hX X; clear hX X; refine hX _ _ ?_; clear hX X | intro hlen; unfold maxLen at hlen | apply And.intro; focus (first | omega | assumption | (repeat' apply And.intro) <;> first | omega | assumption)))
    refine aIf ?_; simp -implicitDefEqProofs only [↓slp, slb, ↓reduceIte, reduceCtorEq, jA, jB, jC, jD, jE, jF, jG, jH, jI, jJ, jK]
    (repeat (first | refine aSeq fun X hX => ?_ | refine aBlk ?_ | refine aSkip ?_ | (first | refine aExit ?_ | refine aRet ?_); try simp only [slx, ↓reduceIte, Nat.reduceEqDiff, reduceCtorEq] | (first | refine aReg ?_ | refine aDrE ?_); simp -implicitDefEqProofs only [forall_eq, ↓slp, slb, ↓reduceIte, reduceCtorEq, jA, jB, jC, jD, jE, jF, jG, jH, jI, jJ, jK, tfObSz, h3, h6, h7, h8, pI, hg]; try simp only [Ex.fold, Ex.foldcs, ← Va.pv.eq_1] | refine hX _ _ ?_; clear hX X | clear hX X; refine hX _ _ ?_; clear hX X | clear hX X; clear hX X; refine hX _ _ ?_; clear hX X | intro hlen; unfold maxLen at hlen | apply And.intro; focus (first | omega | assumption | (repeat' apply And.intro) <;> first | omega | assumption)))
    refine callE (ih.1 _) ?_
    simp -implicitDefEqProofs only [↓slp, slb, ↓reduceIte, reduceCtorEq, jA, jB, jC, jD, jE, jF, jG, jH, jI, jJ, jK, tfObSz, h3, h6, h7, h8, pI, hg]; try simp only [Ex.fold, Ex.foldcs, ← Va.pv.eq_1]
    refine callE (ih.2 _) ?_
    simp -implicitDefEqProofs only [↓slp, slb, ↓reduceIte, reduceCtorEq, jA, jB, jC, jD, jE, jF, jG, jH, jI, jJ, jK, tfObSz, h3, h6, h7, h8, pI, hg]; try simp only [Ex.fold, Ex.foldcs, ← Va.pv.eq_1]
    (repeat (first | refine aSeq fun X hX => ?_ | refine aBlk ?_ | refine aSkip ?_ | (first | refine aExit ?_ | refine aRet ?_); try simp only [slx, ↓reduceIte, Nat.reduceEqDiff, reduceCtorEq] | (first | refine aReg ?_ | refine aDrE ?_); simp -implicitDefEqProofs only [forall_eq, ↓slp, slb, ↓reduceIte, reduceCtorEq, jA, jB, jC, jD, jE, jF, jG, jH, jI, jJ, jK, tfObSz, h3, h6, h7, h8, pI, hi]; try simp only [Ex.fold, Ex.foldcs, ← Va.pv.eq_1] | refine hX _ _ ?_; clear hX X | clear hX X; refine hX _ _ ?_; clear hX X | clear hX X; clear hX X; refine hX _ _ ?_; clear hX X | intro hlen; unfold maxLen at hlen | apply And.intro; focus (first | omega | assumption | (repeat' apply And.intro) <;> first | omega | assumption)))
    rw [hI]
    exact ⟨⟨k + 1, _, hlt, hs, rfl, h6, h7, rfl, rfl⟩, by omega⟩

set_option maxHeartbeats 1000000 in
theorem sizeL_any (l : List OS) : ∀ (m : M), ACalls Try.prog 19 [.sl .no (l.map OS.pv)] m (fun v m' => v = pI (OS.szs 0 l) ∧ m' = m) := by
  refine OS.indM (P := fun l => ∀ (m : M), ACalls Try.prog 19 [.sl .no (l.map OS.pv)] m (fun v m' => v = pI (OS.szs 0 l) ∧ m' = m)) (fun l IH m => ?_) l
  refine ACalls.enter (mu := []) ok_mix Try.func19 rfl (by kernel_rfl) (by kernel_rfl) (by simp only [List.length_cons, List.length_nil, Try.ntmps19]; omega) ?_
  (repeat (first | refine aSeq fun X hX => ?_ | refine aBlk ?_ | refine aSkip ?_ | (first | refine aExit ?_ | refine aRet ?_); try simp only [slx, ↓reduceIte, Nat.reduceEqDiff, reduceCtorEq] | (first | refine aReg ?_ | refine aDrE ?_); simp -implicitDefEqProofs only [forall_eq, ↓slp, slb, ↓reduceIte, reduceCtorEq, jA, jB, jC, jD, jE, jF, jG, jH, jI, jJ, jK, tfObSz]; try simp only [Ex.fold, Ex.foldcs, ← Va.pv.eq_1] | refine hX _ _ ?_; clear hX X | clear hX X; refine hX _ _ ?_; clear hX X | clear hX X; clear hX X; refine hX _ _ ?_; clear hX X | intro hlen; unfold maxLen at hlen | apply And.intro; focus (first | omega | assumption | (repeat' apply And.intro) <;> first | omega | assumption)))
  obtain ⟨I, hI⟩ : ∃ I : F → M → Prop, ∀ f m', I f m' = (∃ (k : Nat) (y : Int), k ≤ l.length ∧ OS.szs 0 l = OS.szs y (l.drop k) ∧ f 3 = pI y ∧ f 0 = .sl .no (l.map OS.pv) ∧ f 4 = pI k ∧ m' = m) := ⟨_, fun _ _ => rfl⟩
  refine aLoop I (fun f m => l.length - numOf (f 4)) ?_ ?_
  · rw [hI]; exact ⟨0, 0, by omega, rfl, rfl, rfl, rfl, rfl⟩
  intro f m' hrel
  rw [hI] at hrel
  obtain ⟨k, y, hk, hs, h3, h0, h4, rfl⟩ := hrel
  cases c1 : decide ((k : Int) < (l.length : Int)) with
  | false =>
    obtain rfl : k = l.length := by simp at c1; omega
    (repeat (first | refine aSeq fun X hX => ?_ | refine aBlk ?_ | refine aSkip ?_ | (first | refine aExit ?_ | refine aRet ?_); try simp only [slx, ↓reduceIte, Nat.reduceEqDiff, reduceCtorEq] | (first | refine aReg ?_ | refine aDrE ?_); simp -implicitDefEqProofs only [forall_eq, ↓slp, slb, ↓reduceIte, reduceCtorEq, jA, jB, jC, jD, jE, jF, jG, jH, jI, jJ, jK, tfObSz, h3, h0, h4, pI, c1]; try simp only [Ex.fold, Ex.foldcs, ← Va.pv.eq_1] | refine hX _ _ ?_; clear hX X | clear hX X; refine hX _ _ ?_; clear hX X | clear hX X; clear hX X; refine hX _ _ ?_; clear hX X | intro hlen; unfold maxLen at hlen | apply And.intro; focus (first | omega | assumption | (repeat' apply And.intro) <;> first | omega | assumption)))
    refine aIf ?_; simp -implicitDefEqProofs only [↓slp, slb, ↓reduceIte, reduceCtorEq, jA, jB, jC, jD, jE, jF, jG, jH, jI, jJ, jK]
    (repeat (first | refine aSeq fun X hX => ?_ | refine aBlk ?_ | refine aSkip ?_ | (first | refine aExit ?_ | refine aRet ?_); try simp only [slx, ↓reduceIte, Nat.reduceEqDiff, reduceCtorEq] | (first | refine aReg ?_ | refine aDrE ?_); simp -implicitDefEqProofs only [forall_eq, ↓slp, slb, ↓reduceIte, reduceCtorEq, jA, jB, jC, jD, jE, jF, jG, jH, jI, jJ, jK, tfObSz, h3]; try simp only [Ex.fold, Ex.foldcs, ← Va.pv.eq_1] | refine hX _ _ ?_; clear hX X | clear hX X; refine hX _ _ ?_; clear hX X | clear hX X; clear hX X; refine hX _ _ ?_; clear hX X | intro hlen; unfold maxLen at hlen | apply And.intro; focus (first | omega | assumption | (repeat' apply And.intro) <;> first | omega | assumption)))
    simp only [aPost, Try.results19, aRes_n, aRes_t, aRes_c, pack_one, pack_two]
    refine leave_same rfl ⟨?_, rfl⟩
    rw [hs, OS.szs_end]; rfl
  | true =>
    have hlt : k < l.length := by simpa using c1
    have hg := getD_map OS.pv l k hlt
    have hme : numOf (f 4) = k := by rw [h4]; exact Int.toNat_natCast k
    rw [OS.szs_drop hlt] at hs
    have ih := IH l[k] (List.getElem_mem hlt)
    (repeat (first | refine aSeq fun X hX => ?_ | refine aBlk ?_ | refine aSkip ?_ | (first | refine aExit ?_ | refine aRet ?_); try simp only [slx, ↓reduceIte, Nat.reduceEqDiff, reduceCtorEq] | (first | refine aReg ?_ | refine aDrE ?_); simp -implicitDefEqProofs only [forall_eq, ↓slp, slb, ↓reduceIte, reduceCtorEq, jA, jB, jC, jD, jE, jF, jG, jH, jI, jJ, jK, tfObSz, h3, h0, h4, pI, c1]; try simp only [Ex.fold, Ex.foldcs, ← Va.pv.eq_1] | refine hX _ _ ?_; clear hX X | clear hX X; refine hX _ _ ?_; clear hX X | clear hX X; clear hX X; refine hX _ _ ?_; clear hX X | intro hlen; unfold maxLen at hlen | apply And.intro; focus (first | omega | assumption | (repeat' apply And.intro) <;> first | omega | assumption)))
    refine aIf ?_; simp -implicitDefEqProofs only [↓slp, slb, ↓reduceIte, reduceCtorEq, jA, jB, jC, jD, jE, jF, jG, jH, jI, jJ, jK]
    have hi : IntKind.i64.wrap ((k : Int) + 1) = ((k + 1 : Nat) : Int) := by rw [wrap64 (by omega)]; omega
    (repeat (first | refine aSeq fun X hX => ?_ | refine aBlk ?_ | refine aSkip ?_ | (first | refine aExit ?_ | refine aRet ?_); try simp only [slx, ↓reduceIte, Nat.reduceEqDiff, reduceCtorEq] | (first | refine aReg ?_ | refine aDrE ?_); simp -implicitDefEqProofs only [forall_eq, ↓slp, slb, ↓reduceIte, reduceCtorEq, jA, jB, jC, jD, jE, jF, jG, jH, jI, jJ, jK, tfObSz, h3, h0, h4, pI, hg]; try simp only [Ex.fold, Ex.foldcs, ← Va.pv.eq_1] | refine hX _ _ ?_; clear hX X | clear hX X; refine hX _ _ ?_; clear hX X | clear hX X; clear hX X; refine hX _ _ ?_; clear hX X | intro hlen; unfold maxLen at hlen | apply And.intro; focus (first | omega | assumption | (repeat' apply And.intro) <;> first | omega | assumption)))
    refine callE (ih.1 _) ?_
    simp -implicitDefEqProofs only [↓slp, slb, ↓reduceIte, reduceCtorEq, jA, jB, jC, jD, jE, jF, jG, jH, jI, jJ, jK, tfObSz, h3, h0, h4, pI, hg]; try simp only [Ex.fold, Ex.foldcs, ← Va.pv.eq_1]
    refine ⟨hlt, ?_⟩
    refine callE (ih.2 _) ?_
    simp -implicitDefEqProofs only [↓slp, slb, ↓reduceIte, reduceCtorEq, jA, jB, jC, jD, jE, jF, jG, jH, jI, jJ, jK, tfObSz, h3, h0, h4, pI, hg]; try simp only [Ex.fold, Ex.foldcs, ← Va.pv.eq_1]
    (repeat (first | refine aSeq fun X hX => ?_ | refine aBlk ?_ | refine aSkip ?_ | (first | refine aExit ?_ | refine aRet ?_); try simp only [slx, ↓reduceIte, Nat.reduceEqDiff, reduceCtorEq] | (first | refine aReg ?_ | refine aDrE ?_); simp -implicitDefEqProofs only [forall_eq, ↓slp, slb, ↓reduceIte, reduceCtorEq, jA, jB, jC, jD, jE, jF, jG, jH, jI, jJ, jK, tfObSz, h3, h0, h4, pI, hi]; try simp only [Ex.fold, Ex.foldcs, ← Va.pv.eq_1] | refine hX _ _ ?_; clear hX X | clear hX X; refine hX _ _ ?_; clear hX X | clear hX X; clear hX X; refine hX _ _ ?_; clear hX X | intro hlen; unfold maxLen at hlen | apply And.intro; focus (first | omega | assumption | (repeat' apply And.intro) <;> first | omega | assumption)))
    rw [hI]
    exact ⟨⟨k + 1, _, hlt, hs, rfl, h0, rfl, rfl⟩, by omega⟩
end Go.Proofs.Ytmcajiccepgagaa

/-
  Lists of statements compared.
-/
set_option linter.unusedVariables false
set_option linter.unusedSimpArgs false
namespace Go.Proofs.Ytmcajiccepgagaa
open Nat renaming reduceEqDiff → jA, reduceAdd → jB, reduceMul → jC, reduceLT → jD, reduceLeDiff → jE, reduceBEq → jF, reduceBNe → jG
open Int renaming reduceLE → jH, reduceLT → jI, reduceToNat → jJ, reduceEq → jK
open Go
-- EXX: OS.settle_pv, OS.pure_pv, OS.cells_pv, OS.cs
set_option maxRecDepth 20000
-- TNAMES: int; uint8; int32; string; bool; []api.Expr; api.Expr; []string; obc.Stmt; []obc.Stmt
set_option linter.defProp false
def tfObSame := And.intro @tfA (And.intro @Ex.settle_pv (And.intro @Ex.pure_pv (And.intro @Ex.cells_pv (And.intro @Ex.cs.eq_1 (And.intro @On.pv.eq_1 (And.intro @Ty.pv.eq_1 (And.intro @Va.settle_pv (And.intro @Va.pure_pv (And.intro @Va.cells_pv (And.intro @Va.cs.eq_1 (And.intro @OS.settle_pv (And.intro @OS.pure_pv (And.intro @OS.cells_pv @OS.cs.eq_1)))))))))))))

mutual
def OS.same : OS → OS → Bool
  | .mk k n e th el, .mk k' n' e' th' el' => k == k' && eqS n n' && e.same e' && OS.sames th th' && OS.sames el el'
def OS.sames : List OS → List OS → Bool
  | [], [] => true
  | a :: l, b :: r => a.same b && OS.sames l r
  | _, _ => false
end
theorem OS.sames_eq (l r : List OS) : OS.sames l r = sameL OS.same l r := by
  induction l generalizing r with
  | nil => cases r <;> simp [OS.sames, sameL]
  | cons a l ih => cases r <;> simp [OS.sames, sameL, ih]
theorem OS.same_eq (a b : OS) : a.same b = (a.kind == b.kind && eqS a.name b.name && a.e.same b.e && OS.sames a.th b.th && OS.sames a.el b.el) := by
  cases a; cases b; simp [OS.same, OS.kind, OS.name, OS.e, OS.th, OS.el]
theorem eqS_self (s : Str) : eqS s s = true := eqS_iff.2 rfl
theorem OS.sames_self (l : List OS) : OS.sames l l = true := by
  refine OS.indQ (Q := fun l => OS.sames l l = true) rfl (fun s l a b c => ?_) l
  rw [OS.sames, OS.same_eq, a, b, c, eqS_self, Ex.same_refl]
  simp
theorem OS.sames_szs (l : List OS) : ∀ (r : List OS) (n : Int), OS.sames l r = true → OS.szs n l = OS.szs n r := by
  refine OS.indQ (Q := fun l => ∀ (r : List OS) (n : Int), OS.sames l r = true → OS.szs n l = OS.szs n r) (fun r n h => ?_) (fun s l a b c r n h => ?_) l
  · cases r with
    | nil => rfl
    | cons => simp [OS.sames] at h
  · cases r with
    | nil => simp [OS.sames] at h
    | cons t r =>
      rw [OS.sames, OS.same_eq, Bool.and_eq_true, Bool.and_eq_true, Bool.and_eq_true] at h
      rw [OS.szs, OS.szs, OS.sz_eq, OS.sz_eq, a t.th 0 h.1.1.2, b t.el 0 h.1.2]
      exact c r _ h.2

set_option maxHeartbeats 1000000 in
theorem eqFuncOS_any (o o' : Own) (l r : List OS) (m : M) (hf : ∀ k (hk : k < l.length) (hk' : k < r.length) (m : M), ACalls Try.prog 37 [OS.pv l[k], OS.pv r[k]] m (fun v m' => v = pB (OS.same l[k] r[k]) ∧ m' = m)) :
    ACalls Try.prog 36 [.sl o (l.map OS.pv), .sl o' (r.map OS.pv), .fn (.func 37) [] []] m (fun v m' => v = pB (sameL OS.same l r) ∧ m' = m) := by
  refine ACalls.enter (mu := []) ok_mix Try.func36 rfl (by kernel_rfl) (by kernel_rfl) (by simp only [List.length_cons, List.length_nil, Try.ntmps36]; omega) ?_
  (repeat (first | refine aSeq fun X hX => ?_ | refine aBlk ?_ | refine aSkip ?_ | (first | refine aExit ?_ | refine aRet ?_); try simp only [slx, ↓reduceIte, Nat.reduceEqDiff, reduceCtorEq] | (first | refine aReg ?_ | refine aDrE ?_); simp -implicitDefEqProofs only [forall_eq, ↓slp, slb, ↓reduceIte, reduceCtorEq, jA, jB, jC, jD, jE, jF, jG, jH, jI, jJ, jK, tfObSame]; try simp only [Ex.fold, Ex.foldcs, ← Va.pv.eq_1] | refine hX _ _ ?_; clear hX X | clear hX X; refine hX _ _ ?_; clear hX X | clear hX X; clear hX X; refine hX _ _ ?_; clear hX X | intro hlen; unfold maxLen at hlen | apply And.intro; focus (first | omega | assumption | (repeat' apply And.intro) <;> first | omega | assumption)))
  refine aIf ?_; simp -implicitDefEqProofs only [↓slp, slb, ↓reduceIte, reduceCtorEq, jA, jB, jC, jD, jE, jF, jG, jH, jI, jJ, jK]; refine ⟨fun hb => ?_, fun hb => ?_⟩
  · (repeat (first | refine aSeq fun X hX => ?_ | refine aBlk ?_ | refine aSkip ?_ | (first | refine aExit ?_ | refine aRet ?_); try simp only [slx, ↓reduceIte, Nat.reduceEqDiff, reduceCtorEq] | (first | refine aReg ?_ | refine aDrE ?_); simp -implicitDefEqProofs only [forall_eq, ↓slp, slb, ↓reduceIte, reduceCtorEq, jA, jB, jC, jD, jE, jF, jG, jH, jI, jJ, jK, tfObSame]; try simp only [Ex.fold, Ex.foldcs, ← Va.pv.eq_1] | refine hX _ _ ?_; clear hX X | clear hX X; refine hX _ _ ?_; clear hX X | clear hX X; clear hX X; refine hX _ _ ?_; clear hX X | intro hlen; unfold maxLen at hlen | apply And.intro; focus (first | omega | assumption | (repeat' apply And.intro) <;> first | omega | assumption)))
    simp only [aPost, Try.results36, aRes_n, aRes_t, aRes_c, pack_one, pack_two]
    refine leave_same rfl ⟨?_, rfl⟩
    rw [sameL_ne (by simp at hb; omega)]; rfl
  have hl : l.length = r.length := by simp at hb; omega
  (repeat (first | refine aSeq fun X hX => ?_ | refine aBlk ?_ | refine aSkip ?_ | (first | refine aExit ?_ | refine aRet ?_); try simp only [slx, ↓reduceIte, Nat.reduceEqDiff, reduceCtorEq] | (first | refine aReg ?_ | refine aDrE ?_); simp -implicitDefEqProofs only [forall_eq, ↓slp, slb, ↓reduceIte, reduceCtorEq, jA, jB, jC, jD, jE, jF, jG, jH, jI, jJ, jK, tfObSame]; try simp only [Ex.fold, Ex.foldcs, ← Va.pv.eq_1] | refine hX _ _ ?_; clear hX X | clear hX X; refine hX _ _ ?_; clear hX X | clear hX X; clear hX X; refine hX _ _ ?_; clear hX X | intro hlen; unfold maxLen at hlen | apply And.intro; focus (first | omega | assumption | (repeat' apply And.intro) <;> first | omega | assumption)))
  obtain ⟨I, hI⟩ : ∃ I : F → M → Prop, ∀ f m', I f m' = (∃ k : Nat, k ≤ l.length ∧ f 1 = .sl o' (r.map OS.pv) ∧ f 2 = .fn (.func 37) [] [] ∧ f 15 = .sl o (l.map OS.pv) ∧ f 16 = pI l.length ∧ f 17 = pI k ∧ sameL OS.same l r = sameL OS.same (l.drop k) (r.drop k) ∧ m' = m) := ⟨_, fun _ _ => rfl⟩
  refine aLoop I (fun f m => l.length - numOf (f 17)) ?_ ?_
  · rw [hI]; exact ⟨0, by omega, rfl, rfl, rfl, rfl, rfl, rfl, rfl⟩
  intro f m' hrel
  rw [hI] at hrel
  obtain ⟨k, hk, h1, h2, h15, h16, h17, hs, rfl⟩ := hrel
  (repeat (first | refine aSeq fun X hX => ?_ | refine aBlk ?_ | refine aSkip ?_ | (first | refine aExit ?_ | refine aRet ?_); try simp only [slx, ↓reduceIte, Nat.reduceEqDiff, reduceCtorEq] | (first | refine aReg ?_ | refine aDrE ?_); simp -implicitDefEqProofs only [forall_eq, ↓slp, slb, ↓reduceIte, reduceCtorEq, jA, jB, jC, jD, jE, jF, jG, jH, jI, jJ, jK, tfObSame, h1, h2, h15, h16, h17, pI]; try simp only [Ex.fold, Ex.foldcs, ← Va.pv.eq_1] | refine hX _ _ ?_; clear hX X | clear hX X; refine hX _ _ ?_; clear hX X | clear hX X; clear hX X; refine hX _ _ ?_; clear hX X | intro hlen; unfold maxLen at hlen | apply And.intro; focus (first | omega | assumption | (repeat' apply And.intro) <;> first | omega | assumption)))
  refine aIf ?_; simp -implicitDefEqProofs only [↓slp, slb, ↓reduceIte, reduceCtorEq, jA, jB, jC, jD, jE, jF, jG, jH, jI, jJ, jK]; refine ⟨fun hb => ?_, fun hb => ?_⟩
  · have hlt : k < l.length := by simpa using hb
    have hlt' : k < r.length := by omega
    have g0 := getD_map OS.pv l k hlt
    have g1 := getD_map OS.pv r k hlt'
    have hi : IntKind.i64.wrap ((k : Int) + 1) = ((k + 1 : Nat) : Int) := by rw [wrap64 (by omega)]; omega
    have hd := sameL_drop (R := OS.same) hlt hlt'
    (repeat (first | refine aSeq fun X hX => ?_ | refine aBlk ?_ | refine aSkip ?_ | (first | refine aExit ?_ | refine aRet ?_); try simp only [slx, ↓reduceIte, Nat.reduceEqDiff, reduceCtorEq] | (first | refine aReg ?_ | refine aDrE ?_); simp -implicitDefEqProofs only [forall_eq, ↓slp, slb, ↓reduceIte, reduceCtorEq, jA, jB, jC, jD, jE, jF, jG, jH, jI, jJ, jK, tfObSame, h1, h2, h15, h16, h17, pI, g0, g1]; try simp only [Ex.fold, Ex.foldcs, ← Va.pv.eq_1] | refine hX _ _ ?_; clear hX X | clear hX X; refine hX _ _ ?_; clear hX X | clear hX X; clear hX X; refine hX _ _ ?_; clear hX X | intro hlen; unfold maxLen at hlen | apply And.intro; focus (first | omega | assumption | (repeat' apply And.intro) <;> first | omega | assumption)))
    simp only [OS.foldcs, OS.fold]
    refine callE (hf k hlt hlt' _) ?_
    simp -implicitDefEqProofs only [↓slp, slb, ↓reduceIte, reduceCtorEq, jA, jB, jC, jD, jE, jF, jG, jH, jI, jJ, jK, tfObSame, h1, h2, h15, h16, h17, pI, pB]; try simp only [Ex.fold, Ex.foldcs, ← Va.pv.eq_1]
    (repeat (first | refine aSeq fun X hX => ?_ | refine aBlk ?_ | refine aSkip ?_ | (first | refine aExit ?_ | refine aRet ?_); try simp only [slx, ↓reduceIte, Nat.reduceEqDiff, reduceCtorEq] | (first | refine aReg ?_ | refine aDrE ?_); simp -implicitDefEqProofs only [forall_eq, ↓slp, slb, ↓reduceIte, reduceCtorEq, jA, jB, jC, jD, jE, jF, jG, jH, jI, jJ, jK, tfObSame, h1, h2, h15, h16, h17, pI, g0, g1]; try simp only [Ex.fold, Ex.foldcs, ← Va.pv.eq_1] | refine hX _ _ ?_; clear hX X | clear hX X; refine hX _ _ ?_; clear hX X | clear hX X; clear hX X; refine hX _ _ ?_; clear hX X | intro hlen; unfold maxLen at hlen | apply And.intro; focus (first | omega | assumption | (repeat' apply And.intro) <;> first | omega | assumption)))
    refine aIf ?_; simp -implicitDefEqProofs only [↓slp, slb, ↓reduceIte, reduceCtorEq, jA, jB, jC, jD, jE, jF, jG, jH, jI, jJ, jK]; refine ⟨fun hb => ?_, fun hb => ?_⟩
    · (repeat (first | refine aSeq fun X hX => ?_ | refine aBlk ?_ | refine aSkip ?_ | (first | refine aExit ?_ | refine aRet ?_); try simp only [slx, ↓reduceIte, Nat.reduceEqDiff, reduceCtorEq] | (first | refine aReg ?_ | refine aDrE ?_); simp -implicitDefEqProofs only [forall_eq, ↓slp, slb, ↓reduceIte, reduceCtorEq, jA, jB, jC, jD, jE, jF, jG, jH, jI, jJ, jK, tfObSame]; try simp only [Ex.fold, Ex.foldcs, ← Va.pv.eq_1] | refine hX _ _ ?_; clear hX X | clear hX X; refine hX _ _ ?_; clear hX X | clear hX X; clear hX X; refine hX _ _ ?_; clear hX X | intro hlen; unfold maxLen at hlen | apply And.intro; focus (first | omega | assumption | (repeat' apply And.intro) <;> first | omega | assumption)))
      simp only [aPost, Try.results36, aRes_n, aRes_t, aRes_c, pack_one, pack_two]
      refine leave_same rfl ⟨?_, rfl⟩
      have : OS.same l[k] r[k] = false := by simpa using hb
      rw [hs, hd, this]; rfl
    · have he : OS.same l[k] r[k] = true := by simpa using hb
      (repeat (first | refine aSeq fun X hX => ?_ | refine aBlk ?_ | refine aSkip ?_ | (first | refine aExit ?_ | refine aRet ?_); try simp only [slx, ↓reduceIte, Nat.reduceEqDiff, reduceCtorEq] | (first | refine aReg ?_ | refine aDrE ?_); simp -implicitDefEqProofs only [forall_eq, ↓slp, slb, ↓reduceIte, reduceCtorEq, jA, jB, jC, jD, jE, jF, jG, jH, jI, jJ, jK, tfObSame, h1, h2, h15, h16, h17, pI, hi]; try simp only [Ex.fold, Ex.foldcs, ← Va.pv.eq_1] | refine hX _ _ ?_; clear hX X | clear hX X; refine hX _ _ ?_; clear hX X | clear hX X; clear hX X; refine hX _ _ ?_; clear hX X | intro hlen; unfold maxLen at hlen | apply And.intro; focus (first | omega | assumption | (repeat' apply And.intro) <;> first | omega | assumption)))
      rw [hI]
      refine ⟨⟨k + 1, hlt, h1, h2, h15, h16, rfl, by rw [hs, hd, he]; rfl, rfl⟩, ?_⟩
      first | omega | (simp only [↓slp, slb, ↓reduceIte, reduceCtorEq, jA, jB, jC, jD, jE, jF, jG, jH, jI, jJ, jK, h17, pI]; omega)
  · have hlt : k = l.length := by simp at hb; omega
    subst hlt
    (repeat (first | refine aSeq fun X hX => ?_ | refine aBlk ?_ | refine aSkip ?_ | (first | refine aExit ?_ | refine aRet ?_); try simp only [slx, ↓reduceIte, Nat.reduceEqDiff, reduceCtorEq] | (first | refine aReg ?_ | refine aDrE ?_); simp -implicitDefEqProofs only [forall_eq, ↓slp, slb, ↓reduceIte, reduceCtorEq, jA, jB, jC, jD, jE, jF, jG, jH, jI, jJ, jK, tfObSame]; try simp only [Ex.fold, Ex.foldcs, ← Va.pv.eq_1] | refine hX _ _ ?_; clear hX X | clear hX X; refine hX _ _ ?_; clear hX X | clear hX X; clear hX X; refine hX _ _ ?_; clear hX X | intro hlen; unfold maxLen at hlen | apply And.intro; focus (first | omega | assumption | (repeat' apply And.intro) <;> first | omega | assumption)))
    simp only [aPost, Try.results36, aRes_n, aRes_t, aRes_c, pack_one, pack_two]
    refine leave_same rfl ⟨?_, rfl⟩
    rw [hs, sameL_end hl]; rfl
def SameC (l : List OS) : Prop := ∀ (o o' : Own) (r : List OS) (m : M), ACalls Try.prog 17 [.sl o (l.map OS.pv), .sl o' (r.map OS.pv)] m (fun v m' => v = pB (OS.sames l r) ∧ m' = m)
set_option maxHeartbeats 2000000 in
theorem sameOne_any (a : OS) (h1 : SameC a.th) (h2 : SameC a.el) (b : OS) (m : M) : ACalls Try.prog 37 [a.pv, b.pv] m (fun v m' => v = pB (a.same b) ∧ m' = m) := by
  have hsame := OS.same_eq a b
  have c6 : sameSs [] [] = true := rfl
  have hz1 := equalS_any .no .no [] [] m
  have hz2 := eqFuncEx_any .no .no [] [] m (fun k hk => absurd hk (Nat.not_lt_zero k))
  refine ACalls.enter (mu := []) ok_mix Try.func37 rfl (by kernel_rfl) (by kernel_rfl) (by simp only [List.length_cons, List.length_nil, Try.ntmps37]; omega) ?_
  refine aSeq (fun X hX => ?_)
  refine aReg ?_; simp -implicitDefEqProofs only [↓slp, slb, ↓reduceIte, reduceCtorEq, jA, jB, jC, jD, jE, jF, jG, jH, jI, jJ, jK, tfObSame]
  refine hX _ _ ?_; clear hX X
  cases c1 : (a.kind == b.kind) with
  | false =>
    (repeat (first | refine aSeq fun X hX => ?_ | refine aBlk ?_ | refine aSkip ?_ | (first | refine aExit ?_ | refine aRet ?_); try simp only [slx, ↓reduceIte, Nat.reduceEqDiff, reduceCtorEq] | (first | refine aReg ?_ | refine aDrE ?_); simp -implicitDefEqProofs only [forall_eq, ↓slp, slb, ↓reduceIte, reduceCtorEq, jA, jB, jC, jD, jE, jF, jG, jH, jI, jJ, jK, tfObSame, c1]; try simp only [Ex.fold, Ex.foldcs, ← Va.pv.eq_1] | refine hX _ _ ?_; clear hX X | clear hX X; refine hX _ _ ?_; clear hX X | clear hX X; clear hX X; refine hX _ _ ?_; clear hX X | intro hlen; unfold maxLen at hlen | apply And.intro; focus (first | omega | assumption | (repeat' apply And.intro) <;> first | omega | assumption)))
    simp only [aPost, Try.results37, aRes_n, aRes_t, aRes_c, pack_one, pack_two]
    refine leave_same rfl ⟨?_, rfl⟩
    have hv : a.same b = false := by rw [hsame]; simp [c1, eqS]
    rw [hv]; rfl
  | true =>
  cases c2 : (a.name.toList == b.name.toList) with
  | false =>
    (repeat (first | refine aSeq fun X hX => ?_ | refine aBlk ?_ | refine aSkip ?_ | (first | refine aExit ?_ | refine aRet ?_); try simp only [slx, ↓reduceIte, Nat.reduceEqDiff, reduceCtorEq] | (first | refine aReg ?_ | refine aDrE ?_); simp -implicitDefEqProofs only [forall_eq, ↓slp, slb, ↓reduceIte, reduceCtorEq, jA, jB, jC, jD, jE, jF, jG, jH, jI, jJ, jK, tfObSame, c1, c2]; try simp only [Ex.fold, Ex.foldcs, ← Va.pv.eq_1] | refine hX _ _ ?_; clear hX X | clear hX X; refine hX _ _ ?_; clear hX X | clear hX X; clear hX X; refine hX _ _ ?_; clear hX X | intro hlen; unfold maxLen at hlen | apply And.intro; focus (first | omega | assumption | (repeat' apply And.intro) <;> first | omega | assumption)))
    simp only [aPost, Try.results37, aRes_n, aRes_t, aRes_c, pack_one, pack_two]
    refine leave_same rfl ⟨?_, rfl⟩
    have hv : a.same b = false := by rw [hsame]; simp [c1, c2, eqS]
    rw [hv]; rfl
  | true =>
  (repeat (first | refine aSeq fun X hX => ?_ | refine aBlk ?_ | refine aSkip ?_ | (first | refine aExit ?_ | refine aRet ?_); try simp only [slx, ↓reduceIte, Nat.reduceEqDiff, reduceCtorEq] | (first | refine aReg ?_ | refine aDrE ?_); simp -implicitDefEqProofs only [forall_eq, ↓slp, slb, ↓reduceIte, reduceCtorEq, jA, jB, jC, jD, jE, jF, jG, jH, jI, jJ, jK, tfObSame, c1, c2]; try simp only [Ex.fold, Ex.foldcs, ← Va.pv.eq_1] | refine hX _ _ ?_; clear hX X | clear hX X; refine hX _ _ ?_; clear hX X | clear hX X; clear hX X; refine hX _ _ ?_; clear hX X | intro hlen; unfold maxLen at hlen | apply And.intro; focus (first | omega | assumption | (repeat' apply And.intro) <;> first | omega | assumption)))
  refine callE (sameExpr_any a.e b.e _) ?_
  cases c3 : a.e.same b.e with
  | false =>
    simp -implicitDefEqProofs only [↓slp, slb, ↓reduceIte, reduceCtorEq, jA, jB, jC, jD, jE, jF, jG, jH, jI, jJ, jK, tfObSame, c1, c2, c3]; try simp only [Ex.fold, Ex.foldcs, ← Va.pv.eq_1]
    (repeat (first | refine aSeq fun X hX => ?_ | refine aBlk ?_ | refine aSkip ?_ | (first | refine aExit ?_ | refine aRet ?_); try simp only [slx, ↓reduceIte, Nat.reduceEqDiff, reduceCtorEq] | (first | refine aReg ?_ | refine aDrE ?_); simp -implicitDefEqProofs only [forall_eq, ↓slp, slb, ↓reduceIte, reduceCtorEq, jA, jB, jC, jD, jE, jF, jG, jH, jI, jJ, jK, tfObSame, c1, c2, c3]; try simp only [Ex.fold, Ex.foldcs, ← Va.pv.eq_1] | refine hX _ _ ?_; clear hX X | clear hX X; refine hX _ _ ?_; clear hX X | clear hX X; clear hX X; refine hX _ _ ?_; clear hX X | intro hlen; unfold maxLen at hlen | apply And.intro; focus (first | omega | assumption | (repeat' apply And.intro) <;> first | omega | assumption)))
    simp only [aPost, Try.results37, aRes_n, aRes_t, aRes_c, pack_one, pack_two]
    refine leave_same rfl ⟨?_, rfl⟩
    have hv : a.same b = false := by rw [hsame]; simp [c1, c2, c3, eqS]
    rw [hv]; rfl
  | true =>
  simp -implicitDefEqProofs only [↓slp, slb, ↓reduceIte, reduceCtorEq, jA, jB, jC, jD, jE, jF, jG, jH, jI, jJ, jK, tfObSame, c1, c2, c3]; try simp only [Ex.fold, Ex.foldcs, ← Va.pv.eq_1]
  refine callE (h1 _ _ b.th _) ?_
  cases c4 : OS.sames a.th b.th with
  | false =>
    simp -implicitDefEqProofs only [↓slp, slb, ↓reduceIte, reduceCtorEq, jA, jB, jC, jD, jE, jF, jG, jH, jI, jJ, jK, tfObSame, c1, c2, c3, c4]; try simp only [Ex.fold, Ex.foldcs, ← Va.pv.eq_1]
    (repeat (first | refine aSeq fun X hX => ?_ | refine aBlk ?_ | refine aSkip ?_ | (first | refine aExit ?_ | refine aRet ?_); try simp only [slx, ↓reduceIte, Nat.reduceEqDiff, reduceCtorEq] | (first | refine aReg ?_ | refine aDrE ?_); simp -implicitDefEqProofs only [forall_eq, ↓slp, slb, ↓reduceIte, reduceCtorEq, jA, jB, jC, jD, jE, jF, jG, jH, jI, jJ, jK, tfObSame, c1, c2, c3, c4]; try simp only [Ex.fold, Ex.foldcs, ← Va.pv.eq_1] | refine hX _ _ ?_; clear hX X | clear hX X; refine hX _ _ ?_; clear hX X | clear hX X; clear hX X; refine hX _ _ ?_; clear hX X | intro hlen; unfold maxLen at hlen | apply And.intro; focus (first | omega | assumption | (repeat' apply And.intro) <;> first | omega | assumption)))
    simp only [aPost, Try.results37, aRes_n, aRes_t, aRes_c, pack_one, pack_two]
    refine leave_same rfl ⟨?_, rfl⟩
    have hv : a.same b = false := by rw [hsame]; simp [c1, c2, c3, c4, eqS]
    rw [hv]; rfl
  | true =>
  simp -implicitDefEqProofs only [↓slp, slb, ↓reduceIte, reduceCtorEq, jA, jB, jC, jD, jE, jF, jG, jH, jI, jJ, jK, tfObSame, c1, c2, c3, c4]; try simp only [Ex.fold, Ex.foldcs, ← Va.pv.eq_1]
  refine callE (h2 _ _ b.el _) ?_
  cases c5 : OS.sames a.el b.el with
  | false =>
    simp -implicitDefEqProofs only [↓slp, slb, ↓reduceIte, reduceCtorEq, jA, jB, jC, jD, jE, jF, jG, jH, jI, jJ, jK, tfObSame, c1, c2, c3, c4, c5]; try simp only [Ex.fold, Ex.foldcs, ← Va.pv.eq_1]
    (repeat (first | refine aSeq fun X hX => ?_ | refine aBlk ?_ | refine aSkip ?_ | (first | refine aExit ?_ | refine aRet ?_); try simp only [slx, ↓reduceIte, Nat.reduceEqDiff, reduceCtorEq] | (first | refine aReg ?_ | refine aDrE ?_); simp -implicitDefEqProofs only [forall_eq, ↓slp, slb, ↓reduceIte, reduceCtorEq, jA, jB, jC, jD, jE, jF, jG, jH, jI, jJ, jK, tfObSame, c1, c2, c3, c4, c5]; try simp only [Ex.fold, Ex.foldcs, ← Va.pv.eq_1] | refine hX _ _ ?_; clear hX X | clear hX X; refine hX _ _ ?_; clear hX X | clear hX X; clear hX X; refine hX _ _ ?_; clear hX X | intro hlen; unfold maxLen at hlen | apply And.intro; focus (first | omega | assumption | (repeat' apply And.intro) <;> first | omega | assumption)))
    simp only [aPost, Try.results37, aRes_n, aRes_t, aRes_c, pack_one, pack_two]
    refine leave_same rfl ⟨?_, rfl⟩
    have hv : a.same b = false := by rw [hsame]; simp [c1, c2, c3, c4, c5, eqS]
    rw [hv]; rfl
  | true =>
  simp -implicitDefEqProofs only [↓slp, slb, ↓reduceIte, reduceCtorEq, jA, jB, jC, jD, jE, jF, jG, jH, jI, jJ, jK, tfObSame, c1, c2, c3, c4, c5]; try simp only [Ex.fold, Ex.foldcs, ← Va.pv.eq_1]
  refine callE hz1 ?_
  simp -implicitDefEqProofs only [↓slp, slb, ↓reduceIte, reduceCtorEq, jA, jB, jC, jD, jE, jF, jG, jH, jI, jJ, jK, tfObSame, c1, c2, c3, c4, c5, c6]; try simp only [Ex.fold, Ex.foldcs, ← Va.pv.eq_1]
  refine callE hz2 ?_
  simp -implicitDefEqProofs only [↓slp, slb, ↓reduceIte, reduceCtorEq, jA, jB, jC, jD, jE, jF, jG, jH, jI, jJ, jK, tfObSame, c1, c2, c3, c4, c5, c6]; try simp only [Ex.fold, Ex.foldcs, ← Va.pv.eq_1]
  (repeat (first | refine aSeq fun X hX => ?_ | refine aBlk ?_ | refine aSkip ?_ | (first | refine aExit ?_ | refine aRet ?_); try simp only [slx, ↓reduceIte, Nat.reduceEqDiff, reduceCtorEq] | (first | refine aReg ?_ | refine aDrE ?_); simp -implicitDefEqProofs only [forall_eq, ↓slp, slb, ↓reduceIte, reduceCtorEq, jA, jB, jC, jD, jE, jF, jG, jH, jI, jJ, jK, tfObSame, c1, c2, c3, c4, c5, c6]; try simp only [Ex.fold, Ex.foldcs, ← Va.pv.eq_1] | refine hX _ _ ?_; clear hX X | clear hX X; refine hX _ _ ?_; clear hX X | clear hX X; clear hX X; refine hX _ _ ?_; clear hX X | intro hlen; unfold maxLen at hlen | apply And.intro; focus (first | omega | assumption | (repeat' apply And.intro) <;> first | omega | assumption)))
  simp only [aPost, Try.results37, aRes_n, aRes_t, aRes_c, pack_one, pack_two]
  refine leave_same rfl ⟨?_, rfl⟩
  have hv : a.same b = true := by rw [hsame]; simp [c1, c2, c3, c4, c5, eqS]
  rw [hv]; rfl
theorem sameOS_any (l : List OS) : SameC l := by
  refine OS.indM (P := SameC) (fun l IH => ?_) l
  intro o o' r m
  refine ACalls.enter (mu := []) ok_mix Try.func17 rfl (by kernel_rfl) (by kernel_rfl) (by simp only [List.length_cons, List.length_nil, Try.ntmps17]; omega) ?_
  (repeat (first | refine aSeq fun X hX => ?_ | refine aBlk ?_ | refine aSkip ?_ | (first | refine aExit ?_ | refine aRet ?_); try simp only [slx, ↓reduceIte, Nat.reduceEqDiff, reduceCtorEq] | (first | refine aReg ?_ | refine aDrE ?_); simp -implicitDefEqProofs only [forall_eq, ↓slp, slb, ↓reduceIte, reduceCtorEq, jA, jB, jC, jD, jE, jF, jG, jH, jI, jJ, jK, tfObSame]; try simp only [Ex.fold, Ex.foldcs, ← Va.pv.eq_1] | refine hX _ _ ?_; clear hX X | clear hX X; refine hX _ _ ?_; clear hX X | clear hX X; clear hX X; refine hX _ _ ?_; clear hX X | intro hlen; unfold maxLen at hlen | apply And.intro; focus (first | omega | assumption | (repeat' apply And.intro) <;> first | omega | assumption)))
  refine callE (eqFuncOS_any _ _ l r _ (fun k hk hk' m => sameOne_any l[k] (IH _ (List.getElem_mem hk)).1 (IH _ (List.getElem_mem hk)).2 r[k] m)) ?_
  rw [← OS.sames_eq]
  simp -implicitDefEqProofs only [↓slp, slb, ↓reduceIte, reduceCtorEq, jA, jB, jC, jD, jE, jF, jG, jH, jI, jJ, jK, tfObSame]; try simp only [Ex.fold, Ex.foldcs, ← Va.pv.eq_1]
  (repeat (first | refine aSeq fun X hX => ?_ | refine aBlk ?_ | refine aSkip ?_ | (first | refine aExit ?_ | refine aRet ?_); try simp only [slx, ↓reduceIte, Nat.reduceEqDiff, reduceCtorEq] | (first | refine aReg ?_ | refine aDrE ?_); simp -implicitDefEqProofs only [forall_eq, ↓slp, slb, ↓reduceIte, reduceCtorEq, jA, jB, jC, jD, jE, jF, jG, jH, jI, jJ, jK, tfObSame]; try simp only [Ex.fold, Ex.foldcs, ← Va.pv.eq_1] | refine hX _ _ ?_; clear hX X | clear hX X; refine hX _ _ ?_; clear hX X | clear hX X; clear hX X; refine hX _ _ ?_; clear hX X | intro hlen; unfold maxLen at hlen | apply And.intro; focus (first | omega | assumption | (repeat' apply And.intro) <;> first | omega | assumption)))
  simp only [aPost, Try.results17, aRes_n, aRes_t, aRes_c, pack_one, pack_two]
  exact leave_same rfl ⟨rfl, rfl⟩
end Go.Proofs.Ytmcajiccepgagaa

/-
  The variables that statements set.
-/
set_option linter.unusedVariables false
set_option linter.unusedSimpArgs false
namespace Go.Proofs.Ytmcajiccepgagaa
open Nat renaming reduceEqDiff → jA, reduceAdd → jB, reduceMul → jC, reduceLT → jD, reduceLeDiff → jE, reduceBEq → jF, reduceBNe → jG
open Int renaming reduceLE → jH, reduceLT → jI, reduceToNat → jJ, reduceEq → jK
open Go
-- EXX: OS.settle_pv, OS.pure_pv, OS.cells_pv, OS.cs
set_option maxRecDepth 20000
-- TNAMES: int; uint8; int32; string; bool; []api.Expr; api.Expr; []string; obc.Stmt; []obc.Stmt; [][]string
set_option linter.defProp false
def tfObSets := And.intro @tfA (And.intro @Ex.settle_pv (And.intro @Ex.pure_pv (And.intro @Ex.cells_pv (And.intro @Ex.cs.eq_1 (And.intro @On.pv.eq_1 (And.intro @Ty.pv.eq_1 (And.intro @Va.settle_pv (And.intro @Va.pure_pv (And.intro @Va.cells_pv (And.intro @Va.cs.eq_1 (And.intro @OS.settle_pv (And.intro @OS.pure_pv (And.intro @OS.cells_pv @OS.cs.eq_1)))))))))))))

def addAll (out xs : List Str) : List Str := xs.foldl addS out
theorem hasS_iff (l : List Str) (s : Str) : hasS l s = true ↔ s ∈ l := by
  induction l with
  | nil => simp [hasS_nil]
  | cons a l ih => rw [hasS_cons, Bool.or_eq_true, eqS_iff, ih, List.mem_cons]; constructor <;> (rintro (h | h); exact .inl h.symm; exact .inr h)
theorem addS_mem (l : List Str) (x s : Str) : s ∈ addS l x ↔ s ∈ l ∨ s = x := by
  unfold addS
  cases h : hasS l x with
  | true =>
    have := (hasS_iff l x).1 h
    simp only [if_true]
    exact ⟨.inl, fun q => q.elim id (fun e => e ▸ this)⟩
  | false => simp
theorem addS_old {l : List Str} {x : Str} (h : x ∈ l) : addS l x = l := by unfold addS; rw [(hasS_iff l x).2 h]; rfl
theorem addS_new {l : List Str} {x : Str} (h : ¬ x ∈ l) : addS l x = l ++ [x] := by
  unfold addS
  cases q : hasS l x with
  | true => exact absurd ((hasS_iff l x).1 q) h
  | false => rfl
theorem addAll_cons (out : List Str) (x : Str) (xs : List Str) : addAll out (x :: xs) = addAll (addS out x) xs := rfl
theorem addAll_app (out xs ys : List Str) : addAll out (xs ++ ys) = addAll (addAll out xs) ys := by unfold addAll; rw [List.foldl_append]
theorem addAll_mem (xs : List Str) : ∀ (out : List Str) (s : Str), s ∈ addAll out xs ↔ s ∈ out ∨ s ∈ xs := by
  induction xs with
  | nil => intro out s; simp [addAll]
  | cons x xs ih => intro out s; rw [addAll_cons, ih, addS_mem, List.mem_cons, or_assoc]
theorem addAll_len (xs : List Str) : ∀ (out : List Str), (addAll out xs).length ≤ out.length + xs.length := by
  induction xs with
  | nil => intro out; exact Nat.le_refl _
  | cons x xs ih => intro out; rw [addAll_cons, List.length_cons]; have := ih (addS out x); have := addS_len out x; omega
theorem addAll_two (xs : List Str) : ∀ (out ys : List Str), addAll out (addAll ys xs) = addAll (addAll out ys) xs := by
  induction xs with
  | nil => intro out ys; rfl
  | cons x xs ih =>
    intro out ys
    rw [addAll_cons, ih, addAll_cons]
    congr 1
    by_cases h : x ∈ ys
    · rw [addS_old h, addS_old ((addAll_mem ys out x).2 (.inr h))]
    · rw [addS_new h, addAll_app]; rfl
theorem addAll_none (xs out : List Str) : addAll out (addAll [] xs) = addAll out xs := addAll_two xs out []
mutual
def OS.fl : OS → List Str
  | .mk k n _ th el => (if k = 1 then [n] else []) ++ (OS.fls th ++ OS.fls el)
def OS.fls : List OS → List Str
  | [] => []
  | s :: l => s.fl ++ OS.fls l
end
theorem OS.fl_eq (s : OS) : s.fl = (if s.kind = 1 then [s.name] else []) ++ (OS.fls s.th ++ OS.fls s.el) := by cases s; rw [OS.fl]; rfl
theorem OS.fls_drop {l : List OS} {k : Nat} (h : k < l.length) : OS.fls (l.drop k) = l[k].fl ++ OS.fls (l.drop (k + 1)) := by rw [List.drop_eq_getElem_cons h, OS.fls]
theorem OS.fls_mem {l : List OS} {s : OS} (h : s ∈ l) : s.fl.length ≤ (OS.fls l).length := by
  induction l with
  | nil => cases h
  | cons a l ih =>
    rw [OS.fls, List.length_append]
    rcases List.mem_cons.1 h with rfl | h
    · omega
    · have := ih h; omega
theorem lists_len (l : List (List Str)) (k : Nat) : (l.take k).flatten.length ≤ l.flatten.length := by
  conv => rhs; rw [← List.take_append_drop k l, List.flatten_append, List.length_append]
  omega
def pL (l : List Str) : PV := .sl .no (l.map pS)
set_option maxHeartbeats 2000000 in
theorem concat_any (o : Own) (ls : List (List Str)) (m : M) (hb : ls.flatten.length < 2 ^ 40) : ACalls Try.prog 41 [.sl o (ls.map pL)] m (fun v m' => v = .sl .no (ls.flatten.map pS) ∧ m' = m) := by
  obtain ⟨d, hd, hd1, hd2⟩ : ∃ d : TD, tdat Try.prog 9 = some d ∧ d.sz = 1 ∧ d.by_ = 16 := ⟨(tdat Try.prog 9).get (by kernel_rfl), (Option.some_get _).symm, by kernel_rfl, by kernel_rfl⟩
  refine ACalls.enter (mu := []) ok_mix Try.func41 rfl (by kernel_rfl) (by kernel_rfl) (by simp only [List.length_cons, List.length_nil, Try.ntmps41]; omega) ?_
  (repeat (first | refine aSeq fun X hX => ?_ | refine aBlk ?_ | refine aSkip ?_ | (first | refine aExit ?_ | refine aRet ?_); try simp only [slx, ↓reduceIte, Nat.reduceEqDiff, reduceCtorEq] | (first | refine aReg ?_ | refine aDrE ?_); simp -implicitDefEqProofs only [forall_eq, ↓slp, slb, ↓reduceIte, reduceCtorEq, jA, jB, jC, jD, jE, jF, jG, jH, jI, jJ, jK, tfObSets]; try simp only [Ex.fold, Ex.foldcs, ← Va.pv.eq_1] | refine hX _ _ ?_; clear hX X | clear hX X; refine hX _ _ ?_; clear hX X | clear hX X; clear hX X; refine hX _ _ ?_; clear hX X | intro hlen; unfold maxLen at hlen | apply And.intro; focus (first | omega | assumption | (repeat' apply And.intro) <;> first | omega | assumption)))
  obtain ⟨I, hI⟩ : ∃ I : F → M → Prop, ∀ f m', I f m' = (∃ k : Nat, k ≤ ls.length ∧ f 0 = .sl o (ls.map pL) ∧ f 3 = pI (ls.take k).flatten.length ∧ f 9 = .sl o (ls.map pL) ∧ f 10 = pI ls.length ∧ f 11 = pI k ∧ m = m') := ⟨_, fun _ _ => rfl⟩
  refine aLoop I (fun f m => ls.length - numOf (f 11)) ?_ ?_
  · rw [hI]; exact ⟨0, by omega, rfl, rfl, rfl, rfl, rfl, rfl⟩
  intro f m' hrel
  rw [hI] at hrel
  obtain ⟨k, hk, h0, h3, h9, h10, h11, rfl⟩ := hrel
  cases c1 : decide ((k : Int) < (ls.length : Int)) with
  | true =>
    have hlt : k < ls.length := by simpa using c1
    have hg := getD_map pL ls k hlt
    have hi : IntKind.i64.wrap ((k : Int) + 1) = ((k + 1 : Nat) : Int) := by rw [wrap64 (by omega)]; omega
    have hme : numOf (f 11) = k := by rw [h11]; exact Int.toNat_natCast k
    have hst : (ls.take (k + 1)).flatten.length = (ls.take k).flatten.length + ls[k].length := by rw [List.take_succ_eq_append_getElem hlt, List.flatten_append, List.length_append]; simp
    have hl2 := lists_len ls (k + 1)
    have hw : IntKind.i64.wrap (((ls.take k).flatten.length : Int) + (ls[k].length : Int)) = (((ls.take (k + 1)).flatten.length : Nat) : Int) := by rw [wrap64 (by omega), hst]; omega
    have c2 : decide ((((ls.take (k + 1)).flatten.length : Nat) : Int) < 0) = false := by simp
    (repeat (first | refine aSeq fun X hX => ?_ | refine aBlk ?_ | refine aSkip ?_ | (first | refine aExit ?_ | refine aRet ?_); try simp only [slx, ↓reduceIte, Nat.reduceEqDiff, reduceCtorEq] | (first | refine aReg ?_ | refine aDrE ?_); simp -implicitDefEqProofs only [forall_eq, ↓slp, slb, ↓reduceIte, reduceCtorEq, jA, jB, jC, jD, jE, jF, jG, jH, jI, jJ, jK, tfObSets, h0, h3, h9, h10, h11, pI, c1]; try simp only [Ex.fold, Ex.foldcs, ← Va.pv.eq_1] | refine hX _ _ ?_; clear hX X | clear hX X; refine hX _ _ ?_; clear hX X | clear hX X; clear hX X; refine hX _ _ ?_; clear hX X | intro hlen; unfold maxLen at hlen | apply And.intro; focus (first | omega | assumption | (repeat' apply And.intro) <;> first | omega | assumption)))
    refine aIf ?_; simp -implicitDefEqProofs only [↓slp, slb, ↓reduceIte, reduceCtorEq, jA, jB, jC, jD, jE, jF, jG, jH, jI, jJ, jK]
    (repeat (first | refine aSeq fun X hX => ?_ | refine aBlk ?_ | refine aSkip ?_ | (first | refine aExit ?_ | refine aRet ?_); try simp only [slx, ↓reduceIte, Nat.reduceEqDiff, reduceCtorEq] | (first | refine aReg ?_ | refine aDrE ?_); simp -implicitDefEqProofs only [forall_eq, ↓slp, slb, ↓reduceIte, reduceCtorEq, jA, jB, jC, jD, jE, jF, jG, jH, jI, jJ, jK, tfObSets, h0, h3, h9, h10, h11, pI, hg, pL, hw, c2]; try simp only [Ex.fold, Ex.foldcs, ← Va.pv.eq_1] | refine hX _ _ ?_; clear hX X | clear hX X; refine hX _ _ ?_; clear hX X | clear hX X; clear hX X; refine hX _ _ ?_; clear hX X | intro hlen; unfold maxLen at hlen | apply And.intro; focus (first | omega | assumption | (repeat' apply And.intro) <;> first | omega | assumption)))
    refine aIf ?_; simp -implicitDefEqProofs only [↓slp, slb, ↓reduceIte, reduceCtorEq, jA, jB, jC, jD, jE, jF, jG, jH, jI, jJ, jK]
    (repeat (first | refine aSeq fun X hX => ?_ | refine aBlk ?_ | refine aSkip ?_ | (first | refine aExit ?_ | refine aRet ?_); try simp only [slx, ↓reduceIte, Nat.reduceEqDiff, reduceCtorEq] | (first | refine aReg ?_ | refine aDrE ?_); simp -implicitDefEqProofs only [forall_eq, ↓slp, slb, ↓reduceIte, reduceCtorEq, jA, jB, jC, jD, jE, jF, jG, jH, jI, jJ, jK, tfObSets, h11, pI, hi]; try simp only [Ex.fold, Ex.foldcs, ← Va.pv.eq_1] | refine hX _ _ ?_; clear hX X | clear hX X; refine hX _ _ ?_; clear hX X | clear hX X; clear hX X; refine hX _ _ ?_; clear hX X | intro hlen; unfold maxLen at hlen | apply And.intro; focus (first | omega | assumption | (repeat' apply And.intro) <;> first | omega | assumption)))
    rw [hI]
    exact ⟨⟨k + 1, hlt, h0, rfl, h9, h10, rfl, rfl⟩, by omega⟩
  | false =>
  obtain rfl : k = ls.length := by simp at c1; omega
  rw [List.take_length] at h3
  have hgr := grow_50 ls.flatten.length m d hd (by omega) (by omega) (by rw [hd2]; omega)
  rw [hd1] at hgr
  (repeat (first | refine aSeq fun X hX => ?_ | refine aBlk ?_ | refine aSkip ?_ | (first | refine aExit ?_ | refine aRet ?_); try simp only [slx, ↓reduceIte, Nat.reduceEqDiff, reduceCtorEq] | (first | refine aReg ?_ | refine aDrE ?_); simp -implicitDefEqProofs only [forall_eq, ↓slp, slb, ↓reduceIte, reduceCtorEq, jA, jB, jC, jD, jE, jF, jG, jH, jI, jJ, jK, tfObSets, h0, h3, h9, h10, h11, pI, c1]; try simp only [Ex.fold, Ex.foldcs, ← Va.pv.eq_1] | refine hX _ _ ?_; clear hX X | clear hX X; refine hX _ _ ?_; clear hX X | clear hX X; clear hX X; refine hX _ _ ?_; clear hX X | intro hlen; unfold maxLen at hlen | apply And.intro; focus (first | omega | assumption | (repeat' apply And.intro) <;> first | omega | assumption)))
  refine aIf ?_; simp -implicitDefEqProofs only [↓slp, slb, ↓reduceIte, reduceCtorEq, jA, jB, jC, jD, jE, jF, jG, jH, jI, jJ, jK]
  (repeat (first | refine aSeq fun X hX => ?_ | refine aBlk ?_ | refine aSkip ?_ | (first | refine aExit ?_ | refine aRet ?_); try simp only [slx, ↓reduceIte, Nat.reduceEqDiff, reduceCtorEq] | (first | refine aReg ?_ | refine aDrE ?_); simp -implicitDefEqProofs only [forall_eq, ↓slp, slb, ↓reduceIte, reduceCtorEq, jA, jB, jC, jD, jE, jF, jG, jH, jI, jJ, jK, tfObSets, h0, h3, pI]; try simp only [Ex.fold, Ex.foldcs, ← Va.pv.eq_1] | refine hX _ _ ?_; clear hX X | clear hX X; refine hX _ _ ?_; clear hX X | clear hX X; clear hX X; refine hX _ _ ?_; clear hX X | intro hlen; unfold maxLen at hlen | apply And.intro; focus (first | omega | assumption | (repeat' apply And.intro) <;> first | omega | assumption)))
  refine callM hgr ?_
  rintro v m' ⟨rfl, rfl⟩
  simp -implicitDefEqProofs only [↓slp, slb, ↓reduceIte, reduceCtorEq, jA, jB, jC, jD, jE, jF, jG, jH, jI, jJ, jK, tfObSets, h0]; try simp only [Ex.fold, Ex.foldcs, ← Va.pv.eq_1]
  (repeat (first | refine aSeq fun X hX => ?_ | refine aBlk ?_ | refine aSkip ?_ | (first | refine aExit ?_ | refine aRet ?_); try simp only [slx, ↓reduceIte, Nat.reduceEqDiff, reduceCtorEq] | (first | refine aReg ?_ | refine aDrE ?_); simp -implicitDefEqProofs only [forall_eq, ↓slp, slb, ↓reduceIte, reduceCtorEq, jA, jB, jC, jD, jE, jF, jG, jH, jI, jJ, jK, tfObSets, h0]; try simp only [Ex.fold, Ex.foldcs, ← Va.pv.eq_1] | refine hX _ _ ?_; clear hX X | clear hX X; refine hX _ _ ?_; clear hX X | clear hX X; clear hX X; refine hX _ _ ?_; clear hX X | intro hlen; unfold maxLen at hlen | apply And.intro; focus (first | omega | assumption | (repeat' apply And.intro) <;> first | omega | assumption)))
  clear I hI h3 h9 h10 h11
  obtain ⟨I, hI⟩ : ∃ I : F → M → Prop, ∀ f m', I f m' = (∃ (k : Nat) (o2 : Own), k ≤ ls.length ∧ f 6 = .sl o2 ((ls.take k).flatten.map pS) ∧ f 25 = .sl o (ls.map pL) ∧ f 26 = pI ls.length ∧ f 27 = pI k ∧ Toks m m' ∧ Mine m m' o2 1) := ⟨_, fun _ _ => rfl⟩
  refine aLoop I (fun f m => ls.length - numOf (f 27)) ?_ ?_
  · rw [hI]; exact ⟨0, .tok m.nt, by omega, rfl, rfl, rfl, rfl, (Toks.refl m).use (o := .full) (s := 1) (s' := 1) Mine.full, Mine.new (o := .full) (Toks.refl m) 1⟩
  intro f m' hrel
  rw [hI] at hrel
  obtain ⟨k, o2, hk, h6, h25, h26, h27, ht, hm⟩ := hrel
  cases c1 : decide ((k : Int) < (ls.length : Int)) with
  | true =>
    have hlt : k < ls.length := by simpa using c1
    have hg := getD_map pL ls k hlt
    have hi : IntKind.i64.wrap ((k : Int) + 1) = ((k + 1 : Nat) : Int) := by rw [wrap64 (by omega)]; omega
    have hme : numOf (f 27) = k := by rw [h27]; exact Int.toNat_natCast k
    have hst : (ls.take (k + 1)).flatten = (ls.take k).flatten ++ ls[k] := by rw [List.take_succ_eq_append_getElem hlt, List.flatten_append]; simp
    have hl2 := lists_len ls (k + 1)
    have hl3 : (ls.take (k + 1)).flatten.length = (ls.take k).flatten.length + ls[k].length := by rw [hst, List.length_append]
    have hfree := hm.free
    have q1 : (ls.take k).flatten.length + ls[k].length ≤ maxLen := by unfold maxLen; omega
    have q2 : ((ls.take k).flatten.length + ls[k].length) * 16 ≤ 140737488355328 := by omega
    have q3 := strs_one (ls.take k).flatten
    have q4 := strs_one ls[k]
    (repeat (first | refine aSeq fun X hX => ?_ | refine aBlk ?_ | refine aSkip ?_ | (first | refine aExit ?_ | refine aRet ?_); try simp only [slx, ↓reduceIte, Nat.reduceEqDiff, reduceCtorEq] | (first | refine aReg ?_ | refine aDrE ?_); simp -implicitDefEqProofs only [forall_eq, ↓slp, slb, ↓reduceIte, reduceCtorEq, jA, jB, jC, jD, jE, jF, jG, jH, jI, jJ, jK, tfObSets, h6, h25, h26, h27, pI, c1]; try simp only [Ex.fold, Ex.foldcs, ← Va.pv.eq_1] | refine hX _ _ ?_; clear hX X | clear hX X; refine hX _ _ ?_; clear hX X | clear hX X; clear hX X; refine hX _ _ ?_; clear hX X | intro hlen; unfold maxLen at hlen | apply And.intro; focus (first | omega | assumption | (repeat' apply And.intro) <;> first | omega | assumption)))
    refine aIf ?_; simp -implicitDefEqProofs only [↓slp, slb, ↓reduceIte, reduceCtorEq, jA, jB, jC, jD, jE, jF, jG, jH, jI, jJ, jK]
    (repeat (first | refine aSeq fun X hX => ?_ | refine aBlk ?_ | refine aSkip ?_ | (first | refine aExit ?_ | refine aRet ?_); try simp only [slx, ↓reduceIte, Nat.reduceEqDiff, reduceCtorEq] | (first | refine aReg ?_ | refine aDrE ?_); simp -implicitDefEqProofs only [forall_eq, ↓slp, slb, ↓reduceIte, reduceCtorEq, jA, jB, jC, jD, jE, jF, jG, jH, jI, jJ, jK, tfObSets, h6, h25, h26, h27, pI, hg, pL, hi]; try simp only [Ex.fold, Ex.foldcs, ← Va.pv.eq_1] | refine hX _ _ ?_; clear hX X | clear hX X; refine hX _ _ ?_; clear hX X | clear hX X; clear hX X; refine hX _ _ ?_; clear hX X | intro hlen; unfold maxLen at hlen | apply And.intro; focus (first | omega | assumption | (repeat' apply And.intro) <;> first | omega | assumption)))
    rw [hI]
    exact ⟨⟨k + 1, .tok m'.nt, hlt, by rw [hst, List.map_append]; rfl, h25, h26, rfl, ht.use hm, Mine.new ht o2 1⟩, by omega⟩
  | false =>
    obtain rfl : k = ls.length := by simp at c1; omega
    rw [List.take_length] at h6
    (repeat (first | refine aSeq fun X hX => ?_ | refine aBlk ?_ | refine aSkip ?_ | (first | refine aExit ?_ | refine aRet ?_); try simp only [slx, ↓reduceIte, Nat.reduceEqDiff, reduceCtorEq] | (first | refine aReg ?_ | refine aDrE ?_); simp -implicitDefEqProofs only [forall_eq, ↓slp, slb, ↓reduceIte, reduceCtorEq, jA, jB, jC, jD, jE, jF, jG, jH, jI, jJ, jK, tfObSets, h6, h25, h26, h27, pI, c1]; try simp only [Ex.fold, Ex.foldcs, ← Va.pv.eq_1] | refine hX _ _ ?_; clear hX X | clear hX X; refine hX _ _ ?_; clear hX X | clear hX X; clear hX X; refine hX _ _ ?_; clear hX X | intro hlen; unfold maxLen at hlen | apply And.intro; focus (first | omega | assumption | (repeat' apply And.intro) <;> first | omega | assumption)))
    refine aIf ?_; simp -implicitDefEqProofs only [↓slp, slb, ↓reduceIte, reduceCtorEq, jA, jB, jC, jD, jE, jF, jG, jH, jI, jJ, jK]
    (repeat (first | refine aSeq fun X hX => ?_ | refine aBlk ?_ | refine aSkip ?_ | (first | refine aExit ?_ | refine aRet ?_); try simp only [slx, ↓reduceIte, Nat.reduceEqDiff, reduceCtorEq] | (first | refine aReg ?_ | refine aDrE ?_); simp -implicitDefEqProofs only [forall_eq, ↓slp, slb, ↓reduceIte, reduceCtorEq, jA, jB, jC, jD, jE, jF, jG, jH, jI, jJ, jK, tfObSets, h6]; try simp only [Ex.fold, Ex.foldcs, ← Va.pv.eq_1] | refine hX _ _ ?_; clear hX X | clear hX X; refine hX _ _ ?_; clear hX X | clear hX X; clear hX X; refine hX _ _ ?_; clear hX X | intro hlen; unfold maxLen at hlen | apply And.intro; focus (first | omega | assumption | (repeat' apply And.intro) <;> first | omega | assumption)))
    simp only [aPost, Try.results41, aRes_n, aRes_t, aRes_c, pack_one, pack_two]
    exact leave_toks0 ht rfl ⟨rfl, rfl⟩

/-- What Sets promises. -/
def SetsC (l : List OS) : Prop := ∀ (m : M), (OS.fls l).length < 2 ^ 30 → ACalls Try.prog 21 [.sl .no (l.map OS.pv)] m (fun v m' => v = .sl .no ((addAll [] (OS.fls l)).map pS) ∧ m' = m)
set_option maxHeartbeats 4000000 in
theorem setsO_any (l : List OS) : SetsC l := by
  refine OS.indM (P := SetsC) (fun l IH m hb => ?_) l
  refine ACalls.enter (mu := []) ok_mix Try.func21 rfl (by kernel_rfl) (by kernel_rfl) (by simp only [List.length_cons, List.length_nil, Try.ntmps21]; omega) ?_
  (repeat (first | refine aSeq fun X hX => ?_ | refine aBlk ?_ | refine aSkip ?_ | (first | refine aExit ?_ | refine aRet ?_); try simp only [slx, ↓reduceIte, Nat.reduceEqDiff, reduceCtorEq] | (first | refine aReg ?_ | refine aDrE ?_); simp -implicitDefEqProofs only [forall_eq, ↓slp, slb, ↓reduceIte, reduceCtorEq, jA, jB, jC, jD, jE, jF, jG, jH, jI, jJ, jK, tfObSets]; try simp only [Ex.fold, Ex.foldcs, ← Va.pv.eq_1] | refine hX _ _ ?_; clear hX X | clear hX X; refine hX _ _ ?_; clear hX X | clear hX X; clear hX X; refine hX _ _ ?_; clear hX X | intro hlen; unfold maxLen at hlen | apply And.intro; focus (first | omega | assumption | (repeat' apply And.intro) <;> first | omega | assumption)))
  obtain ⟨I, hI⟩ : ∃ I : F → M → Prop, ∀ f m', I f m' = (∃ (k : Nat) (S : List Str) (o : Own), k ≤ l.length ∧ addAll [] (OS.fls l) = addAll S (OS.fls (l.drop k)) ∧ S.length + (OS.fls (l.drop k)).length ≤ (OS.fls l).length ∧ f 3 = .sl o (S.map pS) ∧ f 9 = .sl .no (l.map OS.pv) ∧ f 10 = pI l.length ∧ f 11 = pI k ∧ Toks m m' ∧ Mine m m' o 1) := ⟨_, fun _ _ => rfl⟩
  refine aLoop I (fun f m => l.length - numOf (f 11)) ?_ ?_
  · rw [hI]; exact ⟨0, [], .full, by omega, rfl, by simp, rfl, rfl, rfl, rfl, .refl m, .full⟩
  intro f mb hrel
  rw [hI] at hrel
  obtain ⟨k, S, o, hk, hs, hSl, h3, h9, h10, h11, ht, hm⟩ := hrel
  cases c1 : decide ((k : Int) < (l.length : Int)) with
  | false =>
    obtain rfl : k = l.length := by simp at c1; omega
    rw [List.drop_length, OS.fls] at hs
    (repeat (first | refine aSeq fun X hX => ?_ | refine aBlk ?_ | refine aSkip ?_ | (first | refine aExit ?_ | refine aRet ?_); try simp only [slx, ↓reduceIte, Nat.reduceEqDiff, reduceCtorEq] | (first | refine aReg ?_ | refine aDrE ?_); simp -implicitDefEqProofs only [forall_eq, ↓slp, slb, ↓reduceIte, reduceCtorEq, jA, jB, jC, jD, jE, jF, jG, jH, jI, jJ, jK, tfObSets, h3, h9, h10, h11, pI, c1]; try simp only [Ex.fold, Ex.foldcs, ← Va.pv.eq_1] | refine hX _ _ ?_; clear hX X | clear hX X; refine hX _ _ ?_; clear hX X | clear hX X; clear hX X; refine hX _ _ ?_; clear hX X | intro hlen; unfold maxLen at hlen | apply And.intro; focus (first | omega | assumption | (repeat' apply And.intro) <;> first | omega | assumption)))
    refine aIf ?_; simp -implicitDefEqProofs only [↓slp, slb, ↓reduceIte, reduceCtorEq, jA, jB, jC, jD, jE, jF, jG, jH, jI, jJ, jK]
    (repeat (first | refine aSeq fun X hX => ?_ | refine aBlk ?_ | refine aSkip ?_ | (first | refine aExit ?_ | refine aRet ?_); try simp only [slx, ↓reduceIte, Nat.reduceEqDiff, reduceCtorEq] | (first | refine aReg ?_ | refine aDrE ?_); simp -implicitDefEqProofs only [forall_eq, ↓slp, slb, ↓reduceIte, reduceCtorEq, jA, jB, jC, jD, jE, jF, jG, jH, jI, jJ, jK, tfObSets, h3]; try simp only [Ex.fold, Ex.foldcs, ← Va.pv.eq_1] | refine hX _ _ ?_; clear hX X | clear hX X; refine hX _ _ ?_; clear hX X | clear hX X; clear hX X; refine hX _ _ ?_; clear hX X | intro hlen; unfold maxLen at hlen | apply And.intro; focus (first | omega | assumption | (repeat' apply And.intro) <;> first | omega | assumption)))
    simp only [aPost, Try.results21, aRes_n, aRes_t, aRes_c, pack_one, pack_two]
    exact leave_toks0 ht rfl ⟨by rw [hs]; rfl, rfl⟩
  | true =>
  have hlt : k < l.length := by simpa using c1
  have hg := getD_map OS.pv l k hlt
  have hi : IntKind.i64.wrap ((k : Int) + 1) = ((k + 1 : Nat) : Int) := by rw [wrap64 (by omega)]; omega
  have hme : numOf (f 11) = k := by rw [h11]; exact Int.toNat_natCast k
  rw [OS.fls_drop hlt, addAll_app] at hs
  rw [OS.fls_drop hlt, List.length_append] at hSl
  have ih := IH l[k] (List.getElem_mem hlt)
  generalize l[k] = s at *
  have hfl := OS.fl_eq s
  have hfll : s.fl.length = (if s.kind = 1 then [s.name] else []).length + ((OS.fls s.th).length + (OS.fls s.el).length) := by rw [hfl, List.length_append, List.length_append]
  have a1 := addAll_len (OS.fls s.th) []
  have a2 := addAll_len (OS.fls s.el) []
  rw [List.length_nil] at a1 a2
  (repeat (first | refine aSeq fun X hX => ?_ | refine aBlk ?_ | refine aSkip ?_ | (first | refine aExit ?_ | refine aRet ?_); try simp only [slx, ↓reduceIte, Nat.reduceEqDiff, reduceCtorEq] | (first | refine aReg ?_ | refine aDrE ?_); simp -implicitDefEqProofs only [forall_eq, ↓slp, slb, ↓reduceIte, reduceCtorEq, jA, jB, jC, jD, jE, jF, jG, jH, jI, jJ, jK, tfObSets, h3, h9, h10, h11, pI, c1]; try simp only [Ex.fold, Ex.foldcs, ← Va.pv.eq_1] | refine hX _ _ ?_; clear hX X | clear hX X; refine hX _ _ ?_; clear hX X | clear hX X; clear hX X; refine hX _ _ ?_; clear hX X | intro hlen; unfold maxLen at hlen | apply And.intro; focus (first | omega | assumption | (repeat' apply And.intro) <;> first | omega | assumption)))
  refine aIf ?_; simp -implicitDefEqProofs only [↓slp, slb, ↓reduceIte, reduceCtorEq, jA, jB, jC, jD, jE, jF, jG, jH, jI, jJ, jK]
  (repeat (first | refine aSeq fun X hX => ?_ | refine aBlk ?_ | refine aSkip ?_ | (first | refine aExit ?_ | refine aRet ?_); try simp only [slx, ↓reduceIte, Nat.reduceEqDiff, reduceCtorEq] | (first | refine aReg ?_ | refine aDrE ?_); simp -implicitDefEqProofs only [forall_eq, ↓slp, slb, ↓reduceIte, reduceCtorEq, jA, jB, jC, jD, jE, jF, jG, jH, jI, jJ, jK, tfObSets, h3, h9, h10, h11, pI, hg]; try simp only [Ex.fold, Ex.foldcs, ← Va.pv.eq_1] | refine hX _ _ ?_; clear hX X | clear hX X; refine hX _ _ ?_; clear hX X | clear hX X; clear hX X; refine hX _ _ ?_; clear hX X | intro hlen; unfold maxLen at hlen | apply And.intro; focus (first | omega | assumption | (repeat' apply And.intro) <;> first | omega | assumption)))
  have join : ∀ (nm : List Str) (o2 : Own) (g : F), nm = (if s.kind = 1 then [s.name] else []) → g 3 = .sl o (S.map pS) → g 5 = .ep s.cs → g 6 = .sl o2 (nm.map pS) → g 9 = .sl .no (l.map OS.pv) → g 10 = pI l.length → g 11 = pI k → X g mb := by
    clear h3 h9 h10 h11
    intro nm o2 g hnm h3 h5 h6 h9 h10 h11
    refine hX _ _ ?_
    clear hX X
    (repeat (first | refine aSeq fun X hX => ?_ | refine aBlk ?_ | refine aSkip ?_ | (first | refine aExit ?_ | refine aRet ?_); try simp only [slx, ↓reduceIte, Nat.reduceEqDiff, reduceCtorEq] | (first | refine aReg ?_ | refine aDrE ?_); simp -implicitDefEqProofs only [forall_eq, ↓slp, slb, ↓reduceIte, reduceCtorEq, jA, jB, jC, jD, jE, jF, jG, jH, jI, jJ, jK, tfObSets, h3, h5, h6, h9, h10, h11, pI]; try simp only [Ex.fold, Ex.foldcs, ← Va.pv.eq_1] | refine hX _ _ ?_; clear hX X | clear hX X; refine hX _ _ ?_; clear hX X | clear hX X; clear hX X; refine hX _ _ ?_; clear hX X | intro hlen; unfold maxLen at hlen | apply And.intro; focus (first | omega | assumption | (repeat' apply And.intro) <;> first | omega | assumption)))
    refine callE (ih.1 _ (by omega)) ?_
    simp -implicitDefEqProofs only [↓slp, slb, ↓reduceIte, reduceCtorEq, jA, jB, jC, jD, jE, jF, jG, jH, jI, jJ, jK, tfObSets, h3, h5, h6, h9, h10, h11, pI]; try simp only [Ex.fold, Ex.foldcs, ← Va.pv.eq_1]
    refine callE (ih.2 _ (by omega)) ?_
    simp -implicitDefEqProofs only [↓slp, slb, ↓reduceIte, reduceCtorEq, jA, jB, jC, jD, jE, jF, jG, jH, jI, jJ, jK, tfObSets, h3, h5, h6, h9, h10, h11, pI]; try simp only [Ex.fold, Ex.foldcs, ← Va.pv.eq_1]
    have hcc := concat_any .full [nm, addAll [] (OS.fls s.th), addAll [] (OS.fls s.el)] mb (by simp only [List.flatten_cons, List.flatten_nil, List.length_append, List.length_nil]; rw [hnm]; omega)
    refine callE hcc ?_
    obtain ⟨xs, hxs⟩ : ∃ xs, [nm, addAll [] (OS.fls s.th), addAll [] (OS.fls s.el)].flatten = xs := ⟨_, rfl⟩
    have hxl : xs.length ≤ s.fl.length := by
      rw [← hxs]
      simp only [List.flatten_cons, List.flatten_nil, List.length_append, List.length_nil]
      rw [hnm]; omega
    have hxa : addAll S xs = addAll S s.fl := by
      rw [← hxs]
      simp only [List.flatten_cons, List.flatten_nil, List.append_nil]
      rw [addAll_app, addAll_app, addAll_none, addAll_none, hfl, addAll_app, addAll_app, hnm]
    rw [hxs]
    clear hcc
    simp -implicitDefEqProofs only [↓slp, slb, ↓reduceIte, reduceCtorEq, jA, jB, jC, jD, jE, jF, jG, jH, jI, jJ, jK, tfObSets, h3, h5, h6, h9, h10, h11, pI]; try simp only [Ex.fold, Ex.foldcs, ← Va.pv.eq_1]
    (repeat (first | refine aSeq fun X hX => ?_ | refine aBlk ?_ | refine aSkip ?_ | (first | refine aExit ?_ | refine aRet ?_); try simp only [slx, ↓reduceIte, Nat.reduceEqDiff, reduceCtorEq] | (first | refine aReg ?_ | refine aDrE ?_); simp -implicitDefEqProofs only [forall_eq, ↓slp, slb, ↓reduceIte, reduceCtorEq, jA, jB, jC, jD, jE, jF, jG, jH, jI, jJ, jK, tfObSets, h3, h5, h6, h9, h10, h11, pI]; try simp only [Ex.fold, Ex.foldcs, ← Va.pv.eq_1] | refine hX _ _ ?_; clear hX X | clear hX X; refine hX _ _ ?_; clear hX X | clear hX X; clear hX X; refine hX _ _ ?_; clear hX X | intro hlen; unfold maxLen at hlen | apply And.intro; focus (first | omega | assumption | (repeat' apply And.intro) <;> first | omega | assumption)))
    obtain ⟨J, hJ⟩ : ∃ J : F → M → Prop, ∀ f m', J f m' = (∃ (j : Nat) (T : List Str) (o3 : Own), j ≤ xs.length ∧ addAll S xs = addAll T (xs.drop j) ∧ T.length + (xs.length - j) ≤ S.length + xs.length ∧ f 3 = .sl o3 (T.map pS) ∧ f 9 = .sl .no (l.map OS.pv) ∧ f 10 = pI l.length ∧ f 11 = pI k ∧ f 31 = .sl .no (xs.map pS) ∧ f 32 = pI xs.length ∧ f 33 = pI j ∧ Toks m m' ∧ Mine m m' o3 1) := ⟨_, fun _ _ => rfl⟩
    refine aLoop J (fun f m => xs.length - numOf (f 33)) ?_ ?_
    · rw [hJ]; exact ⟨0, S, o, by omega, rfl, by omega, h3, h9, h10, h11, rfl, rfl, rfl, ht, hm⟩
    clear h3 h5 h6 h9 h10 h11 ht hm
    intro g1 mc hrel
    rw [hJ] at hrel
    obtain ⟨j, T, o3, hj, hT, hTl, h3, h9, h10, h11, h31, h32, h33, ht, hm⟩ := hrel
    cases c2 : decide ((j : Int) < (xs.length : Int)) with
    | false =>
      obtain rfl : j = xs.length := by simp at c2; omega
      rw [List.drop_length] at hT
      have hT' : addAll S s.fl = T := by rw [← hxa, hT]; rfl
      (repeat (first | refine aSeq fun X hX => ?_ | refine aBlk ?_ | refine aSkip ?_ | (first | refine aExit ?_ | refine aRet ?_); try simp only [slx, ↓reduceIte, Nat.reduceEqDiff, reduceCtorEq] | (first | refine aReg ?_ | refine aDrE ?_); simp -implicitDefEqProofs only [forall_eq, ↓slp, slb, ↓reduceIte, reduceCtorEq, jA, jB, jC, jD, jE, jF, jG, jH, jI, jJ, jK, tfObSets, h3, h9, h10, h11, h31, h32, h33, pI, c2]; try simp only [Ex.fold, Ex.foldcs, ← Va.pv.eq_1] | refine hX _ _ ?_; clear hX X | clear hX X; refine hX _ _ ?_; clear hX X | clear hX X; clear hX X; refine hX _ _ ?_; clear hX X | intro hlen; unfold maxLen at hlen | apply And.intro; focus (first | omega | assumption | (repeat' apply And.intro) <;> first | omega | assumption)))
      refine aIf ?_; simp -implicitDefEqProofs only [↓slp, slb, ↓reduceIte, reduceCtorEq, jA, jB, jC, jD, jE, jF, jG, jH, jI, jJ, jK]
      (repeat (first | refine aSeq fun X hX => ?_ | refine aBlk ?_ | refine aSkip ?_ | (first | refine aExit ?_ | refine aRet ?_); try simp only [slx, ↓reduceIte, Nat.reduceEqDiff, reduceCtorEq] | (first | refine aReg ?_ | refine aDrE ?_); simp -implicitDefEqProofs only [forall_eq, ↓slp, slb, ↓reduceIte, reduceCtorEq, jA, jB, jC, jD, jE, jF, jG, jH, jI, jJ, jK, tfObSets, h11, pI, hi]; try simp only [Ex.fold, Ex.foldcs, ← Va.pv.eq_1] | refine hX _ _ ?_; clear hX X | clear hX X; refine hX _ _ ?_; clear hX X | clear hX X; clear hX X; refine hX _ _ ?_; clear hX X | intro hlen; unfold maxLen at hlen | apply And.intro; focus (first | omega | assumption | (repeat' apply And.intro) <;> first | omega | assumption)))
      rw [hI]
      exact ⟨⟨k + 1, T, o3, hlt, by rw [hs, hT'], by omega, h3, h9, h10, rfl, ht, hm⟩, by omega⟩
    | true =>
      have hjl : j < xs.length := by simpa using c2
      have gj := getD_map pS xs j hjl
      have hji : IntKind.i64.wrap ((j : Int) + 1) = ((j + 1 : Nat) : Int) := by rw [wrap64 (by omega)]; omega
      have hjm : numOf (g1 33) = j := by rw [h33]; exact Int.toNat_natCast j
      rw [List.drop_eq_getElem_cons hjl, addAll_cons] at hT
      have hal := addS_len T xs[j]
      generalize xs[j] = x at *
      have hfree := hm.free
      have q1 : T.length + 1 ≤ maxLen := by unfold maxLen; omega
      have q2 : (T.length + 1) * 16 ≤ 140737488355328 := by omega
      have q3 := strs_one T
      (repeat (first | refine aSeq fun X hX => ?_ | refine aBlk ?_ | refine aSkip ?_ | (first | refine aExit ?_ | refine aRet ?_); try simp only [slx, ↓reduceIte, Nat.reduceEqDiff, reduceCtorEq] | (first | refine aReg ?_ | refine aDrE ?_); simp -implicitDefEqProofs only [forall_eq, ↓slp, slb, ↓reduceIte, reduceCtorEq, jA, jB, jC, jD, jE, jF, jG, jH, jI, jJ, jK, tfObSets, h3, h9, h10, h11, h31, h32, h33, pI, c2]; try simp only [Ex.fold, Ex.foldcs, ← Va.pv.eq_1] | refine hX _ _ ?_; clear hX X | clear hX X; refine hX _ _ ?_; clear hX X | clear hX X; clear hX X; refine hX _ _ ?_; clear hX X | intro hlen; unfold maxLen at hlen | apply And.intro; focus (first | omega | assumption | (repeat' apply And.intro) <;> first | omega | assumption)))
      refine aIf ?_; simp -implicitDefEqProofs only [↓slp, slb, ↓reduceIte, reduceCtorEq, jA, jB, jC, jD, jE, jF, jG, jH, jI, jJ, jK]
      (repeat (first | refine aSeq fun X hX => ?_ | refine aBlk ?_ | refine aSkip ?_ | (first | refine aExit ?_ | refine aRet ?_); try simp only [slx, ↓reduceIte, Nat.reduceEqDiff, reduceCtorEq] | (first | refine aReg ?_ | refine aDrE ?_); simp -implicitDefEqProofs only [forall_eq, ↓slp, slb, ↓reduceIte, reduceCtorEq, jA, jB, jC, jD, jE, jF, jG, jH, jI, jJ, jK, tfObSets, h3, h9, h10, h11, h31, h32, h33, pI, gj, pS]; try simp only [Ex.fold, Ex.foldcs, ← Va.pv.eq_1] | refine hX _ _ ?_; clear hX X | clear hX X; refine hX _ _ ?_; clear hX X | clear hX X; clear hX X; refine hX _ _ ?_; clear hX X | intro hlen; unfold maxLen at hlen | apply And.intro; focus (first | omega | assumption | (repeat' apply And.intro) <;> first | omega | assumption)))
      refine callE (contains_any _ _ _ _) ?_
      cases c6 : hasS T x with
      | true =>
        have hv : addS T x = T := by unfold addS; rw [c6]; rfl
        rw [hv] at hT
        simp -implicitDefEqProofs only [↓slp, slb, ↓reduceIte, reduceCtorEq, jA, jB, jC, jD, jE, jF, jG, jH, jI, jJ, jK, tfObSets, pB, c6]; try simp only [Ex.fold, Ex.foldcs, ← Va.pv.eq_1]
        (repeat (first | refine aSeq fun X hX => ?_ | refine aBlk ?_ | refine aSkip ?_ | (first | refine aExit ?_ | refine aRet ?_); try simp only [slx, ↓reduceIte, Nat.reduceEqDiff, reduceCtorEq] | (first | refine aReg ?_ | refine aDrE ?_); simp -implicitDefEqProofs only [forall_eq, ↓slp, slb, ↓reduceIte, reduceCtorEq, jA, jB, jC, jD, jE, jF, jG, jH, jI, jJ, jK, tfObSets, pB, c6]; try simp only [Ex.fold, Ex.foldcs, ← Va.pv.eq_1] | refine hX _ _ ?_; clear hX X | clear hX X; refine hX _ _ ?_; clear hX X | clear hX X; clear hX X; refine hX _ _ ?_; clear hX X | intro hlen; unfold maxLen at hlen | apply And.intro; focus (first | omega | assumption | (repeat' apply And.intro) <;> first | omega | assumption)))
        refine aIf ?_; simp -implicitDefEqProofs only [↓slp, slb, ↓reduceIte, reduceCtorEq, jA, jB, jC, jD, jE, jF, jG, jH, jI, jJ, jK]
        (repeat (first | refine aSeq fun X hX => ?_ | refine aBlk ?_ | refine aSkip ?_ | (first | refine aExit ?_ | refine aRet ?_); try simp only [slx, ↓reduceIte, Nat.reduceEqDiff, reduceCtorEq] | (first | refine aReg ?_ | refine aDrE ?_); simp -implicitDefEqProofs only [forall_eq, ↓slp, slb, ↓reduceIte, reduceCtorEq, jA, jB, jC, jD, jE, jF, jG, jH, jI, jJ, jK, tfObSets, h33, pI, hji]; try simp only [Ex.fold, Ex.foldcs, ← Va.pv.eq_1] | refine hX _ _ ?_; clear hX X | clear hX X; refine hX _ _ ?_; clear hX X | clear hX X; clear hX X; refine hX _ _ ?_; clear hX X | intro hlen; unfold maxLen at hlen | apply And.intro; focus (first | omega | assumption | (repeat' apply And.intro) <;> first | omega | assumption)))
        rw [hJ]
        exact ⟨⟨j + 1, T, o3, hjl, hT, by omega, h3, h9, h10, h11, h31, h32, rfl, ht, hm⟩, by omega⟩
      | false =>
        have hv : addS T x = T ++ [x] := by unfold addS; rw [c6]; rfl
        rw [hv] at hT
        simp -implicitDefEqProofs only [↓slp, slb, ↓reduceIte, reduceCtorEq, jA, jB, jC, jD, jE, jF, jG, jH, jI, jJ, jK, tfObSets, pB, c6]; try simp only [Ex.fold, Ex.foldcs, ← Va.pv.eq_1]
        (repeat (first | refine aSeq fun X hX => ?_ | refine aBlk ?_ | refine aSkip ?_ | (first | refine aExit ?_ | refine aRet ?_); try simp only [slx, ↓reduceIte, Nat.reduceEqDiff, reduceCtorEq] | (first | refine aReg ?_ | refine aDrE ?_); simp -implicitDefEqProofs only [forall_eq, ↓slp, slb, ↓reduceIte, reduceCtorEq, jA, jB, jC, jD, jE, jF, jG, jH, jI, jJ, jK, tfObSets, pB, c6]; try simp only [Ex.fold, Ex.foldcs, ← Va.pv.eq_1] | refine hX _ _ ?_; clear hX X | clear hX X; refine hX _ _ ?_; clear hX X | clear hX X; clear hX X; refine hX _ _ ?_; clear hX X | intro hlen; unfold maxLen at hlen | apply And.intro; focus (first | omega | assumption | (repeat' apply And.intro) <;> first | omega | assumption)))
        refine aIf ?_; simp -implicitDefEqProofs only [↓slp, slb, ↓reduceIte, reduceCtorEq, jA, jB, jC, jD, jE, jF, jG, jH, jI, jJ, jK]
        (repeat (first | refine aSeq fun X hX => ?_ | refine aBlk ?_ | refine aSkip ?_ | (first | refine aExit ?_ | refine aRet ?_); try simp only [slx, ↓reduceIte, Nat.reduceEqDiff, reduceCtorEq] | (first | refine aReg ?_ | refine aDrE ?_); simp -implicitDefEqProofs only [forall_eq, ↓slp, slb, ↓reduceIte, reduceCtorEq, jA, jB, jC, jD, jE, jF, jG, jH, jI, jJ, jK, tfObSets, h3, h33, pI, hji, pS]; try simp only [Ex.fold, Ex.foldcs, ← Va.pv.eq_1] | refine hX _ _ ?_; clear hX X | clear hX X; refine hX _ _ ?_; clear hX X | clear hX X; clear hX X; refine hX _ _ ?_; clear hX X | intro hlen; unfold maxLen at hlen | apply And.intro; focus (first | omega | assumption | (repeat' apply And.intro) <;> first | omega | assumption)))
        rw [hJ]
        exact ⟨⟨j + 1, T ++ [x], .tok mc.nt, hjl, hT, by rw [List.length_append]; simp; omega, by rw [List.map_append]; rfl, h9, h10, h11, h31, h32, rfl, ht.use hm, Mine.new ht o3 1⟩, by omega⟩
  cases ck : (s.kind == 1) with
  | true =>
    have hk1 : s.kind = 1 := by simpa using ck
    refine aIf ?_; simp -implicitDefEqProofs only [↓slp, slb, ↓reduceIte, reduceCtorEq, jA, jB, jC, jD, jE, jF, jG, jH, jI, jJ, jK, ck]
    (repeat (first | refine aSeq fun X hX => ?_ | refine aBlk ?_ | refine aSkip ?_ | (first | refine aExit ?_ | refine aRet ?_); try simp only [slx, ↓reduceIte, Nat.reduceEqDiff, reduceCtorEq] | (first | refine aReg ?_ | refine aDrE ?_); simp -implicitDefEqProofs only [forall_eq, ↓slp, slb, ↓reduceIte, reduceCtorEq, jA, jB, jC, jD, jE, jF, jG, jH, jI, jJ, jK, tfObSets, h3, h9, h10, h11, pI, ck]; try simp only [Ex.fold, Ex.foldcs, ← Va.pv.eq_1] | refine hX _ _ ?_; clear hX X | clear hX X; refine hX _ _ ?_; clear hX X | clear hX X; clear hX X; refine hX _ _ ?_; clear hX X | intro hlen; unfold maxLen at hlen | apply And.intro; focus (first | omega | assumption | (repeat' apply And.intro) <;> first | omega | assumption)))
    exact join [s.name] _ _ (by rw [if_pos hk1]) h3 rfl rfl h9 h10 h11
  | false =>
    have hk1 : ¬ s.kind = 1 := by simpa using ck
    refine aIf ?_; simp -implicitDefEqProofs only [↓slp, slb, ↓reduceIte, reduceCtorEq, jA, jB, jC, jD, jE, jF, jG, jH, jI, jJ, jK, ck]
    exact join [] _ _ (by rw [if_neg hk1]) h3 rfl rfl h9 h10 h11
/-- What the law's sets promises. -/
def SetsLC (l : List OS) : Prop := ∀ (out : List Str) (m : M), out.length + (OS.fls l).length < 2 ^ 30 → ACalls Try.prog 22 [.sl .no (out.map pS), .sl .no (l.map OS.pv)] m (fun v m' => v = .sl .no ((addAll out (OS.fls l)).map pS) ∧ m' = m)
set_option maxHeartbeats 4000000 in
theorem setsL_any (l : List OS) : SetsLC l := by
  refine OS.indM (P := SetsLC) (fun l IH out m hb => ?_) l
  refine ACalls.enter (mu := []) ok_mix Try.func22 rfl (by kernel_rfl) (by kernel_rfl) (by simp only [List.length_cons, List.length_nil, Try.ntmps22]; omega) ?_
  (repeat (first | refine aSeq fun X hX => ?_ | refine aBlk ?_ | refine aSkip ?_ | (first | refine aExit ?_ | refine aRet ?_); try simp only [slx, ↓reduceIte, Nat.reduceEqDiff, reduceCtorEq] | (first | refine aReg ?_ | refine aDrE ?_); simp -implicitDefEqProofs only [forall_eq, ↓slp, slb, ↓reduceIte, reduceCtorEq, jA, jB, jC, jD, jE, jF, jG, jH, jI, jJ, jK, tfObSets]; try simp only [Ex.fold, Ex.foldcs, ← Va.pv.eq_1] | refine hX _ _ ?_; clear hX X | clear hX X; refine hX _ _ ?_; clear hX X | clear hX X; clear hX X; refine hX _ _ ?_; clear hX X | intro hlen; unfold maxLen at hlen | apply And.intro; focus (first | omega | assumption | (repeat' apply And.intro) <;> first | omega | assumption)))
  obtain ⟨I, hI⟩ : ∃ I : F → M → Prop, ∀ f m', I f m' = (∃ (k : Nat) (S : List Str), k ≤ l.length ∧ addAll out (OS.fls l) = addAll S (OS.fls (l.drop k)) ∧ S.length + (OS.fls (l.drop k)).length ≤ out.length + (OS.fls l).length ∧ f 0 = .sl .no (S.map pS) ∧ f 1 = .sl .no (l.map OS.pv) ∧ f 5 = pI k ∧ m = m') := ⟨_, fun _ _ => rfl⟩
  refine aLoop I (fun f m => l.length - numOf (f 5)) ?_ ?_
  · rw [hI]; exact ⟨0, out, by omega, rfl, by simp, rfl, rfl, rfl, rfl⟩
  intro f mb hrel
  rw [hI] at hrel
  obtain ⟨k, S, hk, hs, hSl, h0, h1, h5, rfl⟩ := hrel
  cases c1 : decide ((k : Int) < (l.length : Int)) with
  | false =>
    obtain rfl : k = l.length := by simp at c1; omega
    rw [List.drop_length, OS.fls] at hs
    (repeat (first | refine aSeq fun X hX => ?_ | refine aBlk ?_ | refine aSkip ?_ | (first | refine aExit ?_ | refine aRet ?_); try simp only [slx, ↓reduceIte, Nat.reduceEqDiff, reduceCtorEq] | (first | refine aReg ?_ | refine aDrE ?_); simp -implicitDefEqProofs only [forall_eq, ↓slp, slb, ↓reduceIte, reduceCtorEq, jA, jB, jC, jD, jE, jF, jG, jH, jI, jJ, jK, tfObSets, h0, h1, h5, pI, c1]; try simp only [Ex.fold, Ex.foldcs, ← Va.pv.eq_1] | refine hX _ _ ?_; clear hX X | clear hX X; refine hX _ _ ?_; clear hX X | clear hX X; clear hX X; refine hX _ _ ?_; clear hX X | intro hlen; unfold maxLen at hlen | apply And.intro; focus (first | omega | assumption | (repeat' apply And.intro) <;> first | omega | assumption)))
    refine aIf ?_; simp -implicitDefEqProofs only [↓slp, slb, ↓reduceIte, reduceCtorEq, jA, jB, jC, jD, jE, jF, jG, jH, jI, jJ, jK]
    (repeat (first | refine aSeq fun X hX => ?_ | refine aBlk ?_ | refine aSkip ?_ | (first | refine aExit ?_ | refine aRet ?_); try simp only [slx, ↓reduceIte, Nat.reduceEqDiff, reduceCtorEq] | (first | refine aReg ?_ | refine aDrE ?_); simp -implicitDefEqProofs only [forall_eq, ↓slp, slb, ↓reduceIte, reduceCtorEq, jA, jB, jC, jD, jE, jF, jG, jH, jI, jJ, jK, tfObSets, h0]; try simp only [Ex.fold, Ex.foldcs, ← Va.pv.eq_1] | refine hX _ _ ?_; clear hX X | clear hX X; refine hX _ _ ?_; clear hX X | clear hX X; clear hX X; refine hX _ _ ?_; clear hX X | intro hlen; unfold maxLen at hlen | apply And.intro; focus (first | omega | assumption | (repeat' apply And.intro) <;> first | omega | assumption)))
    simp only [aPost, Try.results22, aRes_n, aRes_t, aRes_c, pack_one, pack_two]
    exact leave_same rfl ⟨by rw [hs]; rfl, rfl⟩
  | true =>
  have hlt : k < l.length := by simpa using c1
  have hg := getD_map OS.pv l k hlt
  have hme : numOf (f 5) = k := by rw [h5]; exact Int.toNat_natCast k
  rw [OS.fls_drop hlt, addAll_app] at hs
  rw [OS.fls_drop hlt, List.length_append] at hSl
  have ih := IH l[k] (List.getElem_mem hlt)
  generalize l[k] = s at *
  have hfl := OS.fl_eq s
  have hfll : s.fl.length = (if s.kind = 1 then [s.name] else []).length + ((OS.fls s.th).length + (OS.fls s.el).length) := by rw [hfl, List.length_append, List.length_append]
  (repeat (first | refine aSeq fun X hX => ?_ | refine aBlk ?_ | refine aSkip ?_ | (first | refine aExit ?_ | refine aRet ?_); try simp only [slx, ↓reduceIte, Nat.reduceEqDiff, reduceCtorEq] | (first | refine aReg ?_ | refine aDrE ?_); simp -implicitDefEqProofs only [forall_eq, ↓slp, slb, ↓reduceIte, reduceCtorEq, jA, jB, jC, jD, jE, jF, jG, jH, jI, jJ, jK, tfObSets, h0, h1, h5, pI, c1]; try simp only [Ex.fold, Ex.foldcs, ← Va.pv.eq_1] | refine hX _ _ ?_; clear hX X | clear hX X; refine hX _ _ ?_; clear hX X | clear hX X; clear hX X; refine hX _ _ ?_; clear hX X | intro hlen; unfold maxLen at hlen | apply And.intro; focus (first | omega | assumption | (repeat' apply And.intro) <;> first | omega | assumption)))
  refine aIf ?_; simp -implicitDefEqProofs only [↓slp, slb, ↓reduceIte, reduceCtorEq, jA, jB, jC, jD, jE, jF, jG, jH, jI, jJ, jK]
  have hi : IntKind.i64.wrap ((k : Int) + 1) = ((k + 1 : Nat) : Int) := by rw [wrap64 (by omega)]; omega
  (repeat (first | refine aSeq fun X hX => ?_ | refine aBlk ?_ | refine aSkip ?_ | (first | refine aExit ?_ | refine aRet ?_); try simp only [slx, ↓reduceIte, Nat.reduceEqDiff, reduceCtorEq] | (first | refine aReg ?_ | refine aDrE ?_); simp -implicitDefEqProofs only [forall_eq, ↓slp, slb, ↓reduceIte, reduceCtorEq, jA, jB, jC, jD, jE, jF, jG, jH, jI, jJ, jK, tfObSets, h0, h1, h5, pI, hg]; try simp only [Ex.fold, Ex.foldcs, ← Va.pv.eq_1] | refine hX _ _ ?_; clear hX X | clear hX X; refine hX _ _ ?_; clear hX X | clear hX X; clear hX X; refine hX _ _ ?_; clear hX X | intro hlen; unfold maxLen at hlen | apply And.intro; focus (first | omega | assumption | (repeat' apply And.intro) <;> first | omega | assumption)))
  have join : ∀ (T : List Str) (g : F), T = addAll S (if s.kind = 1 then [s.name] else []) → g 0 = .sl .no (T.map pS) → g 1 = .sl .no (l.map OS.pv) → g 5 = pI k → X g m := by
    clear h0 h1 h5
    intro T g hT h0 h1 h5
    have hTl := addAll_len (if s.kind = 1 then [s.name] else []) S
    rw [← hT] at hTl
    have hTa := addAll_len (OS.fls s.th) T
    have hT2 : addAll S s.fl = addAll (addAll T (OS.fls s.th)) (OS.fls s.el) := by rw [hfl, addAll_app, addAll_app, hT]
    refine hX _ _ ?_
    clear hX X
    (repeat (first | refine aSeq fun X hX => ?_ | refine aBlk ?_ | refine aSkip ?_ | (first | refine aExit ?_ | refine aRet ?_); try simp only [slx, ↓reduceIte, Nat.reduceEqDiff, reduceCtorEq] | (first | refine aReg ?_ | refine aDrE ?_); simp -implicitDefEqProofs only [forall_eq, ↓slp, slb, ↓reduceIte, reduceCtorEq, jA, jB, jC, jD, jE, jF, jG, jH, jI, jJ, jK, tfObSets, h0, h1, h5, pI, hg]; try simp only [Ex.fold, Ex.foldcs, ← Va.pv.eq_1] | refine hX _ _ ?_; clear hX X | clear hX X; refine hX _ _ ?_; clear hX X | clear hX X; clear hX X; refine hX _ _ ?_; clear hX X | intro hlen; unfold maxLen at hlen | apply And.intro; focus (first | omega | assumption | (repeat' apply And.intro) <;> first | omega | assumption)))
    refine callE (ih.1 T _ (by omega)) ?_
    simp -implicitDefEqProofs only [↓slp, slb, ↓reduceIte, reduceCtorEq, jA, jB, jC, jD, jE, jF, jG, jH, jI, jJ, jK, tfObSets, h0, h1, h5, pI, hg]; try simp only [Ex.fold, Ex.foldcs, ← Va.pv.eq_1]
    refine ⟨hlt, ?_⟩
    refine callE (ih.2 _ _ (by omega)) ?_
    simp -implicitDefEqProofs only [↓slp, slb, ↓reduceIte, reduceCtorEq, jA, jB, jC, jD, jE, jF, jG, jH, jI, jJ, jK, tfObSets, h0, h1, h5, pI, hg]; try simp only [Ex.fold, Ex.foldcs, ← Va.pv.eq_1]
    (repeat (first | refine aSeq fun X hX => ?_ | refine aBlk ?_ | refine aSkip ?_ | (first | refine aExit ?_ | refine aRet ?_); try simp only [slx, ↓reduceIte, Nat.reduceEqDiff, reduceCtorEq] | (first | refine aReg ?_ | refine aDrE ?_); simp -implicitDefEqProofs only [forall_eq, ↓slp, slb, ↓reduceIte, reduceCtorEq, jA, jB, jC, jD, jE, jF, jG, jH, jI, jJ, jK, tfObSets, h5, pI, hi]; try simp only [Ex.fold, Ex.foldcs, ← Va.pv.eq_1] | refine hX _ _ ?_; clear hX X | clear hX X; refine hX _ _ ?_; clear hX X | clear hX X; clear hX X; refine hX _ _ ?_; clear hX X | intro hlen; unfold maxLen at hlen | apply And.intro; focus (first | omega | assumption | (repeat' apply And.intro) <;> first | omega | assumption)))
    rw [hI]
    have hz := addAll_len (OS.fls s.el) (addAll T (OS.fls s.th))
    exact ⟨⟨k + 1, _, hlt, by rw [hs, hT2], by omega, rfl, h1, rfl, rfl⟩, by omega⟩
  cases ck : (s.kind == 1) with
  | true =>
    have hk1 : s.kind = 1 := by simpa using ck
    refine aIf ?_; simp -implicitDefEqProofs only [↓slp, slb, ↓reduceIte, reduceCtorEq, jA, jB, jC, jD, jE, jF, jG, jH, jI, jJ, jK, ck]
    (repeat (first | refine aSeq fun X hX => ?_ | refine aBlk ?_ | refine aSkip ?_ | (first | refine aExit ?_ | refine aRet ?_); try simp only [slx, ↓reduceIte, Nat.reduceEqDiff, reduceCtorEq] | (first | refine aReg ?_ | refine aDrE ?_); simp -implicitDefEqProofs only [forall_eq, ↓slp, slb, ↓reduceIte, reduceCtorEq, jA, jB, jC, jD, jE, jF, jG, jH, jI, jJ, jK, tfObSets, h0, h1, h5, pI, hg, ck]; try simp only [Ex.fold, Ex.foldcs, ← Va.pv.eq_1] | refine hX _ _ ?_; clear hX X | clear hX X; refine hX _ _ ?_; clear hX X | clear hX X; clear hX X; refine hX _ _ ?_; clear hX X | intro hlen; unfold maxLen at hlen | apply And.intro; focus (first | omega | assumption | (repeat' apply And.intro) <;> first | omega | assumption)))
    refine callE (rAdd_any S s.name _ (by omega)) ?_
    simp -implicitDefEqProofs only [↓slp, slb, ↓reduceIte, reduceCtorEq, jA, jB, jC, jD, jE, jF, jG, jH, jI, jJ, jK, tfObSets]; try simp only [Ex.fold, Ex.foldcs, ← Va.pv.eq_1]
    (repeat (first | refine aSeq fun X hX => ?_ | refine aBlk ?_ | refine aSkip ?_ | (first | refine aExit ?_ | refine aRet ?_); try simp only [slx, ↓reduceIte, Nat.reduceEqDiff, reduceCtorEq] | (first | refine aReg ?_ | refine aDrE ?_); simp -implicitDefEqProofs only [forall_eq, ↓slp, slb, ↓reduceIte, reduceCtorEq, jA, jB, jC, jD, jE, jF, jG, jH, jI, jJ, jK, tfObSets]; try simp only [Ex.fold, Ex.foldcs, ← Va.pv.eq_1] | refine hX _ _ ?_; clear hX X | clear hX X; refine hX _ _ ?_; clear hX X | clear hX X; clear hX X; refine hX _ _ ?_; clear hX X | intro hlen; unfold maxLen at hlen | apply And.intro; focus (first | omega | assumption | (repeat' apply And.intro) <;> first | omega | assumption)))
    exact join _ _ (by rw [if_pos hk1]; rfl) rfl h1 h5
  | false =>
    have hk1 : ¬ s.kind = 1 := by simpa using ck
    refine aIf ?_; simp -implicitDefEqProofs only [↓slp, slb, ↓reduceIte, reduceCtorEq, jA, jB, jC, jD, jE, jF, jG, jH, jI, jJ, jK, ck]
    exact join S _ (by rw [if_neg hk1]; rfl) h0 h1 h5
end Go.Proofs.Ytmcajiccepgagaa
