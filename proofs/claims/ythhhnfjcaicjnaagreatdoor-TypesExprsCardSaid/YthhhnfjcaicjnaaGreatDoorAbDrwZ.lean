/-
 A region that draws its order, step by step, in which one call may panic.
-/
-- halved
import Derived.Test.YthhhnfjcaicjnaaGreatDoorAbDrw
set_option linter.unusedVariables false
set_option linter.unusedSimpArgs false
namespace Go.Proofs.YthhhnfjcaicjnaaGreatDoor
open Go

section
variable {P : Program} {mu : List Nat} {ops : Array Oper} {S : M → Prop} {K : F → M → Prop}
theorem aOp_toZ {Z : PV → M → Prop} {o : Oper} {f : F} {m : M} {K : PV → M → Prop} (h : aOp P mu noZ o f m K) : aOp P mu Z o f m K := by
 unfold aOp at *
 cases hs : aStep P (muOf mu o) o.op f m with
 | ok p v m' => simp only [hs] at h ⊢; exact h
 | call g args => simp only [hs] at h ⊢; exact ACallsZ.mono h (fun _ _ h => h) (fun _ _ h => h.elim)
 | pan v => simp only [hs] at h ⊢; exact h.elim
 | alt p S => simp only [hs] at h ⊢; exact h
 | bad => simp [hs] at h
theorem aLexZ_of_L {Z : PV → M → Prop} {K1 : F → M → Prop} {r : List Nat} (hr : ∀ f m, K1 f m → aLexZ P mu Z ops S K r f m) : ∀ (l : List Oper) (k : Nat) {f : F} {m : M}, (∀ j, j < l.length → l[j]? = ops[k + j]?) → aLexL P mu ops S K1 l f m → aLexZ P mu Z ops S K (List.range' k l.length ++ r) f m
 | [], k, f, m, _, h => hr f m h
 | o :: l, k, f, m, hl, h => by
  have h0 : ops[k]? = some o := by simpa using (hl 0 (by simp)).symm
  have rest := fun {f : F} {m : M} (h : aLexL P mu ops S K1 l f m) => aLexZ_of_L hr l (k + 1) (f := f) (m := m) (fun j hj => by have := hl (j + 1) (by simpa using hj); simpa [Nat.add_assoc, Nat.add_comm 1 j] using this) h
  have body : (if isEff mu o then aOp P mu noZ o f m fun v m' => S m' ∧ aLexL P mu ops S K1 l (F.put f o.dst v) m' else aQv P mu o f m S fun v => aLexL P mu ops S K1 l (F.put f o.dst v) m) →
      (if isEff mu o then aOp P mu (zOf Z ops k) o f m fun v m' => S m' ∧ aLexZ P mu Z ops S K (List.range' (k + 1) l.length ++ r) (F.put f o.dst v) m' else ∃ v, aQuiet P mu o f S v ∧ aLexZ P mu Z ops S K (List.range' (k + 1) l.length ++ r) (F.put f o.dst v) m) := fun hx => by
   by_cases he : isEff mu o = true
   ·rw [if_pos he] at hx ⊢
    exact aOp_toZ (aOp_mono hx fun v m' ⟨a, b⟩ => ⟨a, rest b⟩)
   ·rw [if_neg he] at hx ⊢
    unfold aQv at hx
    split at hx
    ·rename_i p v m' hs
     obtain ⟨a, b, c⟩ := hx
     exact ⟨v, fun m2 hm2 => ⟨p, a m2 hm2, b⟩, rest c⟩
    ·exact hx.elim
  simp only [aLexL] at h
  simp only [List.length_cons, List.range'_succ, List.cons_append, aLexZ, h0, aG]
  cases hg : o.guard with
  | none => simp only [hg] at h ⊢; exact body h
  | some jw =>
   obtain ⟨j, want⟩ := jw
   simp only [hg] at h ⊢
   unfold aGuard at h ⊢
   split at h
   ·exact ⟨fun hb => body (h.1 hb), fun hb => rest (h.2 hb)⟩
   ·exact h.elim
theorem aDrwZ {Z : PV → M → Prop} {K : Exit → F → M → Prop} {id : Nat} {l : List Oper} {f : F} {m : M} (k0 : Nat) (S : M → Prop) (hk : k0 < l.length) (hg : (l[k0]'hk).guard = none) (he : isEff mu (l[k0]'hk) = true) (hb : behind l.toArray k0 = true) (hok : lexOk mu l.toArray = true) (hS : S m)
    (h : aLexL P mu l.toArray S (fun f m => aOp P mu Z (l[k0]'hk) f m fun v m' => S m' ∧ aLexL P mu l.toArray S (K .normal) (l.drop (k0 + 1)) (F.put f (l[k0]'hk).dst v) m') (l.take k0) f m) : aCode P mu Z (.region id l.toArray true) K f m := by
 refine ⟨f, m, .inl ⟨rfl, rfl⟩, .inr (.inr (.inr (.inl ⟨hok, S, hS, ?_⟩)))⟩
 have e : List.range l.toArray.size = List.range' 0 (l.take k0).length ++ (k0 :: (List.range' (k0 + 1) (l.drop (k0 + 1)).length ++ [])) := by
  rw [List.range_eq_range', List.append_nil, List.length_take, List.length_drop, Nat.min_eq_left (Nat.le_of_lt hk), List.size_toArray]
  obtain ⟨r, hr⟩ : ∃ r, l.length = k0 + (r + 1) := ⟨l.length - (k0 + 1), by omega⟩
  have hr2 : l.length - (k0 + 1) = r := by omega
  rw [hr2, hr, ← List.range'_append_1, List.range'_succ, Nat.zero_add]
 rw [e]
 refine aLexZ_of_L (fun f m h1 => ?_) (l.take k0) 0 (fun j hj => ?_) h
 ·have h0 : l.toArray[k0]? = some (l[k0]'hk) := by simp [hk]
  simp only [aLexZ, h0, aG, hg]
  rw [if_pos he]
  have hz : zOf Z l.toArray k0 = Z := by simp [zOf, hb]
  rw [hz]
  refine aOp_mono h1 fun v m' ⟨hs, h2⟩ => ⟨hs, ?_⟩
  refine aLexZ_of_L (fun f m h3 => h3) (l.drop (k0 + 1)) (k0 + 1) (fun j hj => ?_) h2
  simp
 ·rw [List.length_take] at hj
  rw [List.getElem?_take_of_lt (by omega)]
  simp
end
end Go.Proofs.YthhhnfjcaicjnaaGreatDoor
