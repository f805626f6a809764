/-
 A region that draws its order, step by step.
-/
-- halved
import Derived.Test.YthhhnfjcaicjnaaGreatDoorWpA
import Derived.KernelRfl
set_option linter.unusedVariables false
set_option linter.unusedSimpArgs false
namespace Go.Proofs.YthhhnfjcaicjnaaGreatDoor
open Go

def aQv (P : Program) (mu : List Nat) (o : Oper) (f : F) (m : M) (S : M → Prop) (X : PV → Prop) : Prop :=
 match aStep P (muOf mu o) o.op f m with
 | .ok p v _ => (∀ m2, S m2 → aStep P (muOf mu o) o.op f m2 = .ok p v m2) ∧ p ∧ X v
 | _ => False
def aLexL (P : Program) (mu : List Nat) (ops : Array Oper) (S : M → Prop) (K : F → M → Prop) : List Oper → F → M → Prop
 | [], f, m => K f m
 | o :: rest, f, m => match o.guard with
  | none => if isEff mu o then aOp P mu noZ o f m fun v m' => S m' ∧ aLexL P mu ops S K rest (F.put f o.dst v) m' else aQv P mu o f m S fun v => aLexL P mu ops S K rest (F.put f o.dst v) m
  | some (j, want) => aGuard (guardA ops f j want)
      (if isEff mu o then aOp P mu noZ o f m fun v m' => S m' ∧ aLexL P mu ops S K rest (F.put f o.dst v) m' else aQv P mu o f m S fun v => aLexL P mu ops S K rest (F.put f o.dst v) m)
      (aLexL P mu ops S K rest (F.put f o.dst (.tp [])) m)

section
variable {P : Program} {mu : List Nat} {ops : Array Oper} {S : M → Prop} {K : F → M → Prop}
theorem aLex_of_L : ∀ (l : List Oper) (k : Nat) {f : F} {m : M}, (∀ j, l[j]? = ops[k + j]?) → aLexL P mu ops S K l f m → aLex P mu ops S K (List.range' k l.length) f m
 | [], _, f, m, _, h => h
 | o :: l, k, f, m, hl, h => by
  have h0 : ops[k]? = some o := by simpa using (hl 0).symm
  have rest := fun {f : F} {m : M} (h : aLexL P mu ops S K l f m) => aLex_of_L l (k + 1) (f := f) (m := m) (fun j => by have := hl (j + 1); simpa [Nat.add_assoc, Nat.add_comm 1 j] using this) h
  have body : (if isEff mu o then aOp P mu noZ o f m fun v m' => S m' ∧ aLexL P mu ops S K l (F.put f o.dst v) m' else aQv P mu o f m S fun v => aLexL P mu ops S K l (F.put f o.dst v) m) →
      (if isEff mu o then aOp P mu noZ o f m fun v m' => S m' ∧ aLex P mu ops S K (List.range' (k + 1) l.length) (F.put f o.dst v) m' else ∃ v, aQuiet P mu o f S v ∧ aLex P mu ops S K (List.range' (k + 1) l.length) (F.put f o.dst v) m) := fun hx => by
   by_cases he : isEff mu o = true
   ·rw [if_pos he] at hx ⊢
    exact aOp_mono hx fun v m' ⟨a, b⟩ => ⟨a, rest b⟩
   ·rw [if_neg he] at hx ⊢
    unfold aQv at hx
    split at hx
    ·rename_i p v m' hs
     obtain ⟨a, b, c⟩ := hx
     exact ⟨v, fun m2 hm2 => ⟨p, a m2 hm2, b⟩, rest c⟩
    ·exact hx.elim
  simp only [aLexL] at h
  simp only [List.length_cons, List.range'_succ, aLex, h0, aG]
  cases hg : o.guard with
  | none => simp only [hg] at h ⊢; exact body h
  | some jw =>
   obtain ⟨j, want⟩ := jw
   simp only [hg] at h ⊢
   unfold aGuard at h ⊢
   split at h
   ·exact ⟨fun hb => body (h.1 hb), fun hb => rest (h.2 hb)⟩
   ·exact h.elim
theorem aDrwG {Z : PV → M → Prop} {K : Exit → F → M → Prop} {id : Nat} {l : List Oper} {f f' : F} {m m' : M} (hg : GStep f m f' m') (S : M → Prop) (hok : lexOk mu l.toArray = true) (hS : S m') (h : aLexL P mu l.toArray S (K .normal) l f' m') : aCode P mu Z (.region id l.toArray true) K f m := by
 refine ⟨f', m', hg, .inl ⟨hok, S, hS, ?_⟩⟩
 have := aLex_of_L (ops := l.toArray) l 0 (fun j => by simp) h
 rw [List.range_eq_range']
 exact this
theorem aDrw {Z : PV → M → Prop} {K : Exit → F → M → Prop} {id : Nat} {l : List Oper} {f : F} {m : M} (S : M → Prop) (hok : lexOk mu l.toArray = true) (hS : S m) (h : aLexL P mu l.toArray S (K .normal) l f m) : aCode P mu Z (.region id l.toArray true) K f m := aDrwG (.inl ⟨rfl, rfl⟩) S hok hS h
theorem aDrE {Z : PV → M → Prop} {K : Exit → F → M → Prop} {id : Nat} {l : List Oper} {f : F} {m : M} (h : aLexL P mu l.toArray (fun m2 => m2 = m) (K .normal) l f m) (hok : lexOk mu l.toArray = true := by kernel_rfl) : aCode P mu Z (.region id l.toArray true) K f m := aDrw (fun m2 => m2 = m) hok rfl h
def aFlL (P : Program) (mu : List Nat) (ops : Array Oper) (S : M → Prop) (K : F → M → Prop) (oa : Oper) (tl : List Oper) : List Oper → F → M → Prop
 | [], f, m => aLexL P mu ops S K (oa :: tl) f m
 | o :: rest, f, m => (isEff mu o = true → aLexL P mu ops S K (oa :: o :: (rest ++ tl)) f m) ∧ (match o.guard with
  | none => if isEff mu o then aOp P mu noZ o f m fun v m' => S m' ∧ aFlL P mu ops S K oa tl rest (F.put f o.dst v) m' else aQv P mu o f m S fun v => aFlL P mu ops S K oa tl rest (F.put f o.dst v) m
  | some (j, want) => aGuard (guardA ops f j want)
      (if isEff mu o then aOp P mu noZ o f m fun v m' => S m' ∧ aFlL P mu ops S K oa tl rest (F.put f o.dst v) m' else aQv P mu o f m S fun v => aFlL P mu ops S K oa tl rest (F.put f o.dst v) m)
      (aFlL P mu ops S K oa tl rest (F.put f o.dst (.tp [])) m))
def Mt (ops : Array Oper) : List Nat → List Oper → Prop
 | [], [] => True
 | i :: r, o :: l => ops[i]? = some o ∧ Mt ops r l
 | _, _ => False
theorem Mt.app : ∀ {r1 : List Nat} {l1 : List Oper} {r2 : List Nat} {l2 : List Oper}, Mt ops r1 l1 → Mt ops r2 l2 → Mt ops (r1 ++ r2) (l1 ++ l2)
 | [], [], _, _, _, h => h
 | i :: r, o :: l, _, _, h, h2 => ⟨h.1, Mt.app h.2 h2⟩
 | [], _ :: _, _, _, h, _ => h.elim
 | _ :: _, [], _, _, h, _ => h.elim
theorem Mt.rng : ∀ (l : List Oper) (k : Nat), (∀ j, j < l.length → l[j]? = ops[k + j]?) → Mt ops (List.range' k l.length) l
 | [], k, _ => trivial
 | o :: l, k, h => by
  refine ⟨by simpa using (h 0 (by simp)).symm, Mt.rng l (k + 1) fun j hj => ?_⟩
  have := h (j + 1) (by simpa using hj)
  simpa [Nat.add_assoc, Nat.add_comm 1 j] using this
theorem aLex_of_M : ∀ (r : List Nat) (l : List Oper) {f : F} {m : M}, Mt ops r l → aLexL P mu ops S K l f m → aLex P mu ops S K r f m
 | [], [], f, m, _, h => h
 | i :: r, o :: l, f, m, hM, h => by
  obtain ⟨h0, hM⟩ := hM
  have rest := fun {f : F} {m : M} (h : aLexL P mu ops S K l f m) => aLex_of_M r l hM h
  have body : (if isEff mu o then aOp P mu noZ o f m fun v m' => S m' ∧ aLexL P mu ops S K l (F.put f o.dst v) m' else aQv P mu o f m S fun v => aLexL P mu ops S K l (F.put f o.dst v) m) →
      (if isEff mu o then aOp P mu noZ o f m fun v m' => S m' ∧ aLex P mu ops S K r (F.put f o.dst v) m' else ∃ v, aQuiet P mu o f S v ∧ aLex P mu ops S K r (F.put f o.dst v) m) := fun hx => by
   by_cases he : isEff mu o = true
   ·rw [if_pos he] at hx ⊢
    exact aOp_mono hx fun v m' ⟨a, b⟩ => ⟨a, rest b⟩
   ·rw [if_neg he] at hx ⊢
    unfold aQv at hx
    split at hx
    ·rename_i p v m' hs
     obtain ⟨a, b, c⟩ := hx
     exact ⟨v, fun m2 hm2 => ⟨p, a m2 hm2, b⟩, rest c⟩
    ·exact hx.elim
  simp only [aLexL] at h
  simp only [aLex, h0, aG]
  cases hg : o.guard with
  | none => simp only [hg] at h ⊢; exact body h
  | some jw =>
   obtain ⟨j, want⟩ := jw
   simp only [hg] at h ⊢
   unfold aGuard at h ⊢
   split at h
   ·exact ⟨fun hb => body (h.1 hb), fun hb => rest (h.2 hb)⟩
   ·exact h.elim
 | [], _ :: _, _, _, hM, _ => hM.elim
 | _ :: _, [], _, _, hM, _ => hM.elim
theorem aFl_of_M {a : Nat} {oa : Oper} (ha : ops[a]? = some oa) {tr : List Nat} {tl : List Oper} (ht : Mt ops tr tl) : ∀ (r : List Nat) (l : List Oper) {f : F} {m : M}, Mt ops r l → aFlL P mu ops S K oa tl l f m → aFl P mu ops S K a tr r f m
 | [], [], f, m, _, h => aLex_of_M (a :: tr) (oa :: tl) ⟨ha, ht⟩ h
 | i :: r, o :: l, f, m, hM, h => by
  obtain ⟨h0, hM⟩ := hM
  have rest := fun {f : F} {m : M} (h : aFlL P mu ops S K oa tl l f m) => aFl_of_M ha ht r l hM h
  have body : (if isEff mu o then aOp P mu noZ o f m fun v m' => S m' ∧ aFlL P mu ops S K oa tl l (F.put f o.dst v) m' else aQv P mu o f m S fun v => aFlL P mu ops S K oa tl l (F.put f o.dst v) m) →
      (if isEff mu o then aOp P mu noZ o f m fun v m' => S m' ∧ aFl P mu ops S K a tr r (F.put f o.dst v) m' else ∃ v, aQuiet P mu o f S v ∧ aFl P mu ops S K a tr r (F.put f o.dst v) m) := fun hx => by
   by_cases he : isEff mu o = true
   ·rw [if_pos he] at hx ⊢
    exact aOp_mono hx fun v m' ⟨a, b⟩ => ⟨a, rest b⟩
   ·rw [if_neg he] at hx ⊢
    unfold aQv at hx
    split at hx
    ·rename_i p v m' hs
     obtain ⟨a, b, c⟩ := hx
     exact ⟨v, fun m2 hm2 => ⟨p, a m2 hm2, b⟩, rest c⟩
    ·exact hx.elim
  simp only [aFlL] at h
  simp only [aFl, h0, aG]
  refine ⟨fun he => aLex_of_M (a :: i :: (r ++ tr)) (oa :: o :: (l ++ tl)) ⟨ha, h0, hM.app ht⟩ (h.1 he), ?_⟩
  have h := h.2
  cases hg : o.guard with
  | none => simp only [hg] at h ⊢; exact body h
  | some jw =>
   obtain ⟨j, want⟩ := jw
   simp only [hg] at h ⊢
   unfold aGuard at h ⊢
   split at h
   ·exact ⟨fun hb => body (h.1 hb), fun hb => rest (h.2 hb)⟩
   ·exact h.elim
 | [], _ :: _, _, _, hM, _ => hM.elim
 | _ :: _, [], _, _, hM, _ => hM.elim
theorem aFltC {Z : PV → M → Prop} {K : Exit → F → M → Prop} {id : Nat} {l : List Oper} {f : F} {m : M} (a c : Nat) (S : M → Prop) (hac : a < c) (hcl : c < l.length) (hok : fltOkC mu l.toArray a c = true) (hS : S m) (h : aFlL P mu l.toArray S (K .normal) (l[a]'(by omega)) (l.drop c) (l.take a ++ (l.drop (a + 1)).take (c - 1 - a)) f m) : aCode P mu Z (.region id l.toArray true) K f m := by
 refine ⟨f, m, .inl ⟨rfl, rfl⟩, .inr (.inl ⟨a, c, hok, S, hS, ?_⟩)⟩
 have hat : ∀ j : Nat, l.toArray[j]? = l[j]? := fun j => List.getElem?_toArray
 refine aFl_of_M (by rw [hat]; exact List.getElem?_eq_getElem (by omega)) (tr := List.range' c (l.toArray.size - c)) (tl := l.drop c) ?_ _ (l.take a ++ (l.drop (a + 1)).take (c - 1 - a)) ?_ h
 ·have := Mt.rng (ops := l.toArray) (l.drop c) c (fun j hj => by rw [hat, List.getElem?_drop])
  simpa using this
 ·refine Mt.app ?_ ?_
  ·have := Mt.rng (ops := l.toArray) (l.take a) 0 (fun j hj => by
     rw [Nat.zero_add, hat, List.getElem?_take_of_lt (by rw [List.length_take] at hj; omega)])
   rwa [List.length_take, Nat.min_eq_left (by omega)] at this
  ·have := Mt.rng (ops := l.toArray) ((l.drop (a + 1)).take (c - 1 - a)) (a + 1) (fun j hj => by
     rw [List.length_take] at hj
     rw [hat, List.getElem?_take_of_lt (by omega), List.getElem?_drop])
   rwa [List.length_take, List.length_drop, Nat.min_eq_left (by omega)] at this
theorem aFltN {Z : PV → M → Prop} {K : Exit → F → M → Prop} {id : Nat} {l : List Oper} {f : F} {m : M} (a : Nat) (S : M → Prop) (hlen : a + 1 < l.length) (hok : fltOk mu l.toArray a = true) (hS : S m) (h : aFlL P mu l.toArray S (K .normal) (l[a]'(by omega)) [l.getLast (by intro e; simp [e] at hlen)] (l.take a ++ (l.drop (a + 1)).dropLast) f m) : aCode P mu Z (.region id l.toArray true) K f m :=
 aFltC a (l.length - 1) S (by omega) (by omega) (by unfold fltOk at hok; simpa using hok) hS (by
  have e1 : l.drop (l.length - 1) = [l.getLast (by intro e; simp [e] at hlen)] := by
   have hne : l ≠ [] := by intro e; simp [e] at hlen
   have h3 := List.dropLast_concat_getLast hne
   conv => lhs; rw [← h3]
   rw [List.drop_append_of_le_length (by simp)]
   simp
  have e2 : (l.drop (a + 1)).take (l.length - 1 - 1 - a) = (l.drop (a + 1)).dropLast := by
   rw [List.dropLast_eq_take, List.length_drop]
   congr 1
   omega
  rw [e1, e2]
  exact h)
theorem aDrwEG {Z : PV → M → Prop} {K : Exit → F → M → Prop} {id : Nat} {l : List Oper} {f f' : F} {m m' : M} (hg : GStep f m f' m') (S : M → Prop) {hne : l ≠ []} (hgd : (l.getLast hne).guard = none) (hend : endOk l.toArray = true) (hok : lexOk mu l.toArray = true) (hS : S m') (h : aLexL P mu l.toArray S (fun f m => aOp P mu noZ (l.getLast hne) f m fun v m' => K .normal (F.put f (l.getLast hne).dst v) m') l.dropLast f' m') : aCode P mu Z (.region id l.toArray true) K f m := by
 refine ⟨f', m', hg, .inr (.inr (.inl ⟨hend, hok, S, hS, ?_⟩))⟩
 have hK : (fun f m => aOp P mu noZ (l.getLast hne) f m fun v m' => K .normal (F.put f (l.getLast hne).dst v) m') = aLast P mu l.toArray (K .normal) := by
  funext f m
  unfold aLast
  have : l.toArray[l.toArray.size - 1]? = some (l.getLast hne) := by
   rw [List.getElem?_toArray, List.size_toArray, ← List.getLast?_eq_getElem?, List.getLast?_eq_some_getLast hne]
  rw [this]
  simp only [hgd, true_and]
 rw [hK] at h
 have hM := Mt.rng (ops := l.toArray) l.dropLast 0 (fun j hj => by
  rw [Nat.zero_add, List.getElem?_toArray, List.getElem?_dropLast]
  rw [List.length_dropLast] at hj
  simp [hj])
 have := aLex_of_M _ _ hM h
 rw [List.range_eq_range']
 simpa using this
theorem aDrwE {Z : PV → M → Prop} {K : Exit → F → M → Prop} {id : Nat} {l : List Oper} {f : F} {m : M} (S : M → Prop) {hne : l ≠ []} (hgd : (l.getLast hne).guard = none) (hend : endOk l.toArray = true) (hok : lexOk mu l.toArray = true) (hS : S m) (h : aLexL P mu l.toArray S (fun f m => aOp P mu noZ (l.getLast hne) f m fun v m' => K .normal (F.put f (l.getLast hne).dst v) m') l.dropLast f m) : aCode P mu Z (.region id l.toArray true) K f m := aDrwEG (.inl ⟨rfl, rfl⟩) S hgd hend hok hS h
theorem aDrwC {Z : PV → M → Prop} {K : Exit → F → M → Prop} {id : Nat} {l : List Oper} {f : F} {m : M} (c : Nat) (S : M → Prop) (hok : lexOkC mu l.toArray c = true) (hS : S m) (h : aLexL P mu l.toArray S (aAll P mu l.toArray (K .normal) (l.length - c) (List.range' c (l.length - c))) (l.take c) f m) : aCode P mu Z (.region id l.toArray true) K f m := by
 have hcs : c ≤ l.length := by
  unfold lexOkC at hok
  simp only [Bool.and_eq_true, decide_eq_true_eq, List.size_toArray] at hok
  exact hok.1.2
 refine ⟨f, m, .inl ⟨rfl, rfl⟩, .inr (.inr (.inr (.inr (.inl ⟨c, hok, S, hS, ?_⟩))))⟩
 have hM := Mt.rng (ops := l.toArray) (l.take c) 0 (fun j hj => by
  rw [List.length_take] at hj
  rw [Nat.zero_add, List.getElem?_toArray, List.getElem?_take_of_lt (by omega)])
 have := aLex_of_M _ _ hM h
 rw [List.length_take, Nat.min_eq_left hcs] at this
 rw [List.range_eq_range', List.size_toArray]
 exact this
end
end Go.Proofs.YthhhnfjcaicjnaaGreatDoor
