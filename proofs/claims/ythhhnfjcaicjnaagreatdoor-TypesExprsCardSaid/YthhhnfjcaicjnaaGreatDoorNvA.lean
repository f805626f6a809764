/-
 Texts that belong together: AbFv, AbNl, AbNa.
-/
-- halved
import Derived.Test.YthhhnfjcaicjnaaGreatDoorAbMac
import Derived.Test.YthhhnfjcaicjnaaGreatDoorAbKit
import Derived.Test.YthhhnfjcaicjnaaGreatDoorExA
import Derived.Test.YthhhnfjcaicjnaaGreatDoorAbT
import Derived.Test.YthhhnfjcaicjnaaGreatDoorQA
set_option linter.unusedVariables false
set_option linter.unusedSimpArgs false
namespace Go.Proofs.YthhhnfjcaicjnaaGreatDoor
open Nat renaming reduceEqDiff → jA, reduceAdd → jB, reduceMul → jC, reduceLT → jD, reduceLeDiff → jE, reduceBEq → jF, reduceBNe → jG
open Int renaming reduceLE → jH, reduceLT → jI, reduceToNat → jJ, reduceEq → jK
open Go
set_option maxRecDepth 20000
set_option linter.defProp false
def tfAbFv := And.intro @tfA (And.intro @Ex.settle_pv (And.intro @Ex.pure_pv (And.intro @Ex.cells_pv (And.intro @Ex.cs.eq_1 (And.intro @On.pv.eq_1 (And.intro @Ty.pv.eq_1 (And.intro @Va.settle_pv (And.intro @Va.pure_pv (And.intro @Va.cells_pv @Va.cs.eq_1)))))))))

def idxF {α : Type} (p : α → Bool) : List α → Nat → Int
 | [], _ => -1
 | a :: l, k => if p a then k else idxF p l (k + 1)
theorem idxF_drop {α : Type} {p : α → Bool} {l : List α} {k : Nat} (h : k < l.length) : idxF p (l.drop k) k = if p l[k] then (k : Int) else idxF p (l.drop (k + 1)) (k + 1) := by
 rw [List.drop_eq_getElem_cons h, idxF]
theorem idxF_at {α : Type} {p : α → Bool} : ∀ (l : List α) (n : Nat), (idxF p l n = -1 ∧ ∀ x ∈ l, p x = false) ∨ ∃ k, ∃ h : k < l.length, idxF p l n = ((n + k : Nat) : Int) ∧ p l[k] = true ∧ ∀ j (hj : j < k), p (l[j]'(by omega)) = false
 | [], n => .inl ⟨rfl, fun x h => by simp at h⟩
 | a :: l, n => by
  unfold idxF
  by_cases ha : p a = true
  ·exact .inr ⟨0, by simp, by simp [ha], by simpa using ha, fun j hj => by omega⟩
  ·have ha' : p a = false := by simpa using ha
   rw [if_neg ha]
   rcases idxF_at l (n + 1) with ⟨h1, h2⟩ | ⟨k, h, h1, h2, h3⟩
   ·exact .inl ⟨h1, fun x hx => by rcases List.mem_cons.1 hx with rfl | hx; exact ha'; exact h2 x hx⟩
   ·refine .inr ⟨k + 1, by simpa using h, by rw [h1]; congr 1; omega, by simpa using h2, fun j hj => ?_⟩
    cases j with
    | zero => simpa using ha'
    | succ j => simpa using h3 j (by omega)
set_option maxRecDepth 20000 in
set_option maxHeartbeats 400000 in
theorem idxVar_any (o : Own) (l : List Va) (p : Va → Bool) (g : FuncId) (c : PV) (m : M) (hf : ∀ k (hk : k < l.length) (m : M), ACalls Tryz.prog g [Va.pv l[k], c] m (fun v m' => v = pB (p l[k]) ∧ m' = m)) :
    ACalls Tryz.prog 88 [.sl o (l.map (Va.pv)), .fn (.func g) [] [c]] m (fun v m' => v = pI (idxF p l 0) ∧ m' = m) := by
 refine eN [] Tryz.func88 ?_
 (repeat (first | refine aSeq fun X hX => ?_ | refine aBlk ?_ | refine aReg ?_; simp -implicitDefEqProofs only [↓slp, slb, ↓reduceIte, reduceCtorEq, tfAbFv] | apply hX; clear hX X | intro hlen; unfold maxLen at hlen))
 obtain ⟨I, hI⟩ : ∃ I : F → M → Prop, ∀ f m', I f m' = (∃ k : Nat, k ≤ l.length ∧ f 0 = .sl o (l.map (Va.pv)) ∧ f 1 = .fn (.func g) [] [c] ∧ f 7 = pI l.length ∧ f 8 = pI k ∧ idxF p l 0 = idxF p (l.drop k) k ∧ m' = m) := ⟨_, fun _ _ => rfl⟩
 refine aLoop I (fun f m => l.length - numOf (f 8)) ?_ ?_
 ·rw [hI]; exact ⟨0, by omega, rfl, rfl, rfl, rfl, rfl, rfl⟩
 intro f m' hrel
 rw [hI] at hrel
 obtain ⟨k, hk, h0, h1, h7, h8, hs, rfl⟩ := hrel
 (repeat (first | refine aSeq fun X hX => ?_ | refine aReg ?_; simp -implicitDefEqProofs only [↓slp, slb, ↓reduceIte, h7, h8, pI] | apply hX; clear hX X))
 refine aIf ?_; simp -implicitDefEqProofs only [slb, ↓reduceIte]; refine ⟨fun hb => ?_, fun hb => ?_⟩
 ·have hlt : k < l.length := by simpa using hb
  have g0 := getD_map (Va.pv) l k hlt
  have hi : IntKind.i64.wrap ((k : Int) + 1) = ((k + 1 : Nat) : Int) := by rw [wrap64 (by omega)]; omega
  have hd := idxF_drop (p := p) hlt
  (repeat (first | refine aSeq fun X hX => ?_ | refine aSkip ?_ | refine aReg ?_; simp -implicitDefEqProofs only [↓slp, slb, ↓reduceIte, reduceCtorEq, jA, tfAbFv, h0, h1, h8, pI, g0] | apply hX; clear hX X | apply And.intro; focus omega))
  refine callE (hf k hlt _) ?_
  simp -implicitDefEqProofs only [slb, h8, pI, pB]
  cases c1 : p l[k] with
  | true =>
   (repeat (apply hX; clear hX X))
   refine aIf ?_; simp -implicitDefEqProofs only [slb, ↓reduceIte, reduceCtorEq]
   (repeat revert X); refine wW aEQ_t ?_; repeat intro X hX
   refine wR Tryz.results88 ?_
   refine leave_same rfl ⟨?_, rfl⟩
   have hv : idxF p l 0 = (k : Int) := by rw [hs, hd]; simp [c1]
   rw [hv]; rfl
  | false =>
   (repeat (apply hX; clear hX X))
   refine aIf ?_; simp -implicitDefEqProofs only [slb, ↓reduceIte]
   (repeat (first | refine aSkip ?_ | refine aReg ?_; simp -implicitDefEqProofs only [↓slp, slb, ↓reduceIte, jA, h8, pI, hi] | apply hX; clear hX X))
   rw [hI]
   refine ⟨⟨k + 1, hlt, h0, h1, h7, rfl, by rw [hs, hd]; simp [c1], rfl⟩, ?_⟩
   first | omega | (simp only [↓slp, slb, ↓reduceIte, reduceCtorEq, jA, h8, pI]; omega)
 ·have hlt : k = l.length := by simp at hb; omega
  subst hlt
  (repeat revert X); refine wW aEQ_t ?_; repeat intro X hX
  refine wR Tryz.results88 ?_
  refine leave_same rfl ⟨?_, rfl⟩
  have hv : idxF p l 0 = -1 := by rw [hs]; simp [idxF]
  rw [hv]; rfl

set_option maxRecDepth 20000 in
set_option maxHeartbeats 400000 in
theorem findVarC_any (e : Va) (s : Str) (m : M) : ACalls Tryz.prog 89 [e.pv, .ep [pS s]] m (fun v m' => v = pB (eqS e.name s) ∧ m' = m) := by
 refine eN [] Tryz.func89 ?_
 (repeat revert X); refine wW (And.intro tfAbFv @pS.eq_1) ?_; repeat intro X hX
 refine wR Tryz.results89 ?_
 exact leave_same rfl ⟨rfl, rfl⟩
def findVar (l : List Va) (s : Str) : Int := idxF (fun e => eqS e.name s) l 0
set_option maxRecDepth 20000 in
set_option maxHeartbeats 400000 in
theorem findVar_any (o : Own) (l : List Va) (s : Str) (m : M) : ACalls Tryz.prog 52 [.sl o (l.map Va.pv), pS s] m (fun v m' => v = pI (findVar l s) ∧ m' = m) := by
 refine eN [] Tryz.func52 ?_
 (repeat revert X); refine wW @pS.eq_1 ?_; repeat intro X hX
 refine callE (idxVar_any o l (fun e => eqS e.name s) _ _ _ (fun k hk m => findVarC_any _ s m)) ?_
 refine wS @pI.eq_1 ?_
 (repeat revert X); refine wW aEQ_t ?_; repeat intro X hX
 refine wR Tryz.results52 ?_
 exact leave_same rfl ⟨rfl, rfl⟩

def tfAbNl := tfAbFv

def idxS (s : Str) : List Str → Nat → Int
 | [], _ => -1
 | a :: l, k => if eqS s a then k else idxS s l (k + 1)
theorem idxS_drop {s : Str} {l : List Str} {k : Nat} (h : k < l.length) : idxS s (l.drop k) k = if eqS s l[k] then (k : Int) else idxS s (l.drop (k + 1)) (k + 1) := by
 rw [List.drop_eq_getElem_cons h, idxS]

set_option maxRecDepth 20000 in
set_option maxHeartbeats 400000 in
theorem index_any (o : Own) (l : List Str) (s : Str) (m : M) : ACalls Tryz.prog 50 [.sl o (l.map pS), pS s] m (fun v m' => v = pI (idxS s l 0) ∧ m' = m) := by
 refine eN [] Tryz.func50 ?_
 (repeat (first | refine aSeq fun X hX => ?_ | refine aBlk ?_ | refine aReg ?_; simp -implicitDefEqProofs only [↓slp, slb, ↓reduceIte, reduceCtorEq, tfAbNl] | apply hX; clear hX X | intro hlen; unfold maxLen at hlen))
 obtain ⟨I, hI⟩ : ∃ I : F → M → Prop, ∀ f m', I f m' = (∃ k : Nat, k ≤ l.length ∧ f 0 = .sl o (l.map pS) ∧ f 1 = pS s ∧ f 7 = pI l.length ∧ f 8 = pI k ∧ idxS s l 0 = idxS s (l.drop k) k ∧ m' = m) := ⟨_, fun _ _ => rfl⟩
 refine aLoop I (fun f m => l.length - numOf (f 8)) ?_ ?_
 ·rw [hI]; exact ⟨0, by omega, rfl, rfl, rfl, rfl, rfl, rfl⟩
 intro f m' hrel
 rw [hI] at hrel
 obtain ⟨k, hk, h0, h1, h7, h8, hs, rfl⟩ := hrel
 (repeat (first | refine aSeq fun X hX => ?_ | refine aReg ?_; simp -implicitDefEqProofs only [↓slp, slb, ↓reduceIte, h7, h8, pI] | apply hX; clear hX X))
 refine aIf ?_; simp -implicitDefEqProofs only [slb, ↓reduceIte]; refine ⟨fun hb => ?_, fun hb => ?_⟩
 ·have hlt : k < l.length := by simpa using hb
  have g0 := getD_map pS l k hlt
  have hi : IntKind.i64.wrap ((k : Int) + 1) = ((k + 1 : Nat) : Int) := by rw [wrap64 (by omega)]; omega
  have hd := idxS_drop (s := s) hlt
  cases c1 : (s.toList == l[k].toList) with
  | true =>
   (repeat (first | refine aSeq fun X hX => ?_ | refine aSkip ?_ | refine aReg ?_; simp -implicitDefEqProofs only [↓slp, slb, ↓reduceIte, reduceCtorEq, jA, tfAbNl, h0, h1, h8, pI, pS, g0, c1] | apply hX; clear hX X | apply And.intro; focus omega))
   refine aIf ?_; simp -implicitDefEqProofs only [slb, ↓reduceIte, reduceCtorEq]
   (repeat revert X); refine wW aEQ_t ?_; repeat intro X hX
   refine wR Tryz.results50 ?_
   refine leave_same rfl ⟨?_, rfl⟩
   have hv : idxS s l 0 = (k : Int) := by rw [hs, hd]; simp [eqS, c1]
   rw [hv]; rfl
  | false =>
   (repeat (first | refine aSeq fun X hX => ?_ | refine aSkip ?_ | refine aReg ?_; simp -implicitDefEqProofs only [↓slp, slb, ↓reduceIte, reduceCtorEq, jA, tfAbNl, h0, h1, h8, pI, pS, g0, c1] | apply hX; clear hX X | apply And.intro; focus omega))
   refine aIf ?_; simp -implicitDefEqProofs only [slb, ↓reduceIte]
   (repeat (first | refine aSkip ?_ | refine aReg ?_; simp -implicitDefEqProofs only [↓slp, slb, ↓reduceIte, jA, h8, pI, hi] | apply hX; clear hX X))
   rw [hI]
   refine ⟨⟨k + 1, hlt, h0, h1, h7, rfl, by rw [hs, hd]; simp [eqS, c1], rfl⟩, ?_⟩
   first | omega | (simp only [↓slp, slb, ↓reduceIte, reduceCtorEq, jA, h8, pI]; omega)
 ·have hlt : k = l.length := by simp at hb; omega
  subst hlt
  (repeat revert X); refine wW aEQ_t ?_; repeat intro X hX
  refine wR Tryz.results50 ?_
  refine leave_same rfl ⟨?_, rfl⟩
  have hv : idxS s l 0 = -1 := by rw [hs]; simp [idxS]
  rw [hv]; rfl

def hasS (l : List Str) (s : Str) : Bool := decide (0 ≤ idxS s l 0)
set_option maxRecDepth 20000 in
set_option maxHeartbeats 400000 in
theorem contains_any (o : Own) (l : List Str) (s : Str) (m : M) : ACalls Tryz.prog 25 [.sl o (l.map pS), pS s] m (fun v m' => v = pB (hasS l s) ∧ m' = m) := by
 refine eN [] Tryz.func25 ?_
 (repeat revert X); refine wW aEQ_t ?_; repeat intro X hX
 refine callE (index_any _ _ _ _) ?_
 refine wS @pI.eq_1 ?_
 (repeat revert X); refine wW aEQ_t ?_; repeat intro X hX
 refine wR Tryz.results25 ?_
 exact leave_same rfl ⟨rfl, rfl⟩
theorem idxS_pos (s : Str) : ∀ (l : List Str) (k : Nat), (0 ≤ idxS s l k ↔ 0 ≤ idxS s l 0)
 | [], k => by simp [idxS]
 | a :: l, k => by
  unfold idxS
  split
  ·simp
  ·rw [idxS_pos s l (k + 1), idxS_pos s l (0 + 1)]
theorem hasS_cons (a : Str) (l : List Str) (s : Str) : hasS (a :: l) s = (eqS a s || hasS l s) := by
 have hc : eqS s a = eqS a s := by rw [Bool.eq_iff_iff, eqS_iff, eqS_iff]; exact eq_comm
 unfold hasS
 rw [idxS, ← hc]
 cases h : eqS s a with
 | true => simp
 | false =>
  simp only [Bool.false_or, Bool.false_eq_true, if_false]
  exact decide_eq_decide.2 (idxS_pos s l (0 + 1))
theorem hasS_nil (s : Str) : hasS [] s = false := by simp [hasS, idxS]
structure App (m0 : M) (o0 : Own) (s : Nat) (m : M) (o : Own) : Prop where
 boxes : m.boxes = m0.boxes
 free : o.free m s
 toks : (o.use m).toks.take m0.nt = (o0.use m0).toks
 nt : m0.nt ≤ m.nt
theorem App.refl {m : M} {o : Own} {s : Nat} (h : o.free m s) : App m o s m o := ⟨rfl, h, by rw [List.take_of_length_le]; rw [use_len]; exact Nat.le_refl _, Nat.le_refl _⟩
theorem App.step {m0 m : M} {o0 o : Own} {s : Nat} (h : App m0 o0 s m o) : App m0 o0 s ((o.use m).fresh s) (.tok m.nt) := by
 have hl := use_len o m
 refine ⟨by show (o.use m).boxes = _; rw [use_boxes]; exact h.boxes, ?_, ?_, ?_⟩
 ·show ((o.use m).toks ++ [some s])[m.nt]? = some (some s)
  rw [← hl]; simp
 ·show (((o.use m).toks ++ [some s]).set m.nt none).take m0.nt = _
  rw [← h.toks, List.take_set_of_le h.nt, List.take_append_of_le_length (by rw [hl]; exact h.nt)]
 ·show m0.nt ≤ ((o.use m).toks ++ [some s]).length
  have := h.nt
  simp [hl]; omega
theorem leave_app {m0 m : M} {o0 o : Own} {s : Nat} {xs : List PV} {R : PV → M → Prop} (h : App m0 o0 s m o) (hs : ∀ x ∈ xs, x.cells.length = s) (hR : R (.sl (.tok m0.nt) xs) ((o0.use m0).fresh s)) : ∃ v' m', Leave m0 m (.sl o xs) v' m' ∧ R v' m' := by
 refine ⟨_, _, .tok o xs s (o0.use m0) ?_ (use_boxes _ _) h.free h.toks (use_len _ _) hs, hR⟩
 rw [h.boxes]; simp [M.nb]

def addS (l : List Str) (s : Str) : List Str := if hasS l s then l else l ++ [s]
theorem strs_one (l : List Str) : ∀ x ∈ l.map pS, x.cells.length = 1 := fun x hx => by
 obtain ⟨s, _, rfl⟩ := List.mem_map.1 hx
 rfl

theorem hasS_iff (s : Str) : ∀ l : List Str, hasS l s = true ↔ s ∈ l
 | [] => by rw [hasS_nil]; simp
 | a :: l => by
  rw [hasS_cons, Bool.or_eq_true, eqS_iff, hasS_iff s l, List.mem_cons]
  exact ⟨fun h => h.elim (fun e => .inl e.symm) .inr, fun h => h.elim (fun e => .inl e.symm) .inr⟩

def tfAbNa := tfAbFv

set_option maxRecDepth 20000 in
set_option maxHeartbeats 400000 in
theorem add_any (o : Own) (l : List Str) (s : Str) (m : M) (hf : o.free m 1) (hlen : l.length < 2 ^ 40) : ACalls Tryz.prog 87 [.sl o (l.map pS), pS s] m (fun v m' => v = .sl (.tok m.nt) ((addS l s).map pS) ∧ m' = (o.use m).fresh 1) := by
 refine eN [] Tryz.func87 ?_
 (repeat revert X); refine wW tfAbNa ?_; repeat intro X hX
 refine callE (contains_any _ _ _ _) ?_
 cases c1 : hasS l s with
 | true =>
  refine wS @pB.eq_1 ?_
  (repeat (apply hX; clear hX X))
  refine aIf ?_; simp -implicitDefEqProofs only [slb, ↓reduceIte, reduceCtorEq]
  (repeat revert X); refine wW aEQ_t ?_; repeat intro X hX
  refine wR Tryz.results87 ?_
  have hv : addS l s = l := by simp [addS, c1]
  rw [hv]
  exact leave_app (o := o) (o0 := o) (xs := l.map pS) (.refl hf) (strs_one l) ⟨rfl, rfl⟩
 | false =>
  have h1 : l.length + 1 ≤ maxLen := by unfold maxLen; omega
  have h2 : (l.length + 1) * 16 ≤ 140737488355328 := by omega
  have h3 := strs_one l
  have h4 : ∀ x ∈ [pS s], x.cells.length = 1 := strs_one [s]
  refine wS @pB.eq_1 ?_
  (repeat (apply hX; clear hX X))
  refine aIf ?_; simp -implicitDefEqProofs only [slb, ↓reduceIte]
  (repeat (first | refine aSeq fun X hX => ?_ | refine aSkip ?_ | refine aRet ?_ | refine aReg ?_; simp -implicitDefEqProofs only [forall_eq, ↓slp, slb, ↓reduceIte, reduceCtorEq, jA, jB, jC, jE, tfAbNa] | apply hX; clear hX X | apply And.intro; focus ((repeat' apply And.intro) <;> first | omega | assumption)))
  simp only [aPost, Tryz.results87, aRes_n, aRes_t, aRes_c, pack_one, pack_two]
  have hv : (addS l s).map pS = l.map pS ++ [PV.v (Value.string s)] := by simp [addS, c1]
  rw [hv]
  exact leave_app (o := .tok m.nt) (o0 := o) (xs := l.map pS ++ [PV.v (Value.string s)]) (App.step (.refl hf)) (by rw [← hv]; exact strs_one _) ⟨rfl, rfl⟩
end Go.Proofs.YthhhnfjcaicjnaaGreatDoor
