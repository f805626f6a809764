/-
 Texts that belong together: AbLp, AbLv.
-/
-- halved
import Derived.Test.YthhhnfjcaicjnaaGreatDoorAbKit
import Derived.Test.YthhhnfjcaicjnaaGreatDoorLwA
set_option linter.unusedVariables false
namespace Go.Proofs.YthhhnfjcaicjnaaGreatDoor
open Go
section
variable {P : Program} {mu : List Nat} {Z : PV → M → Prop} {K : Exit → F → M → Prop} {f : F} {m : M}
theorem leastN {p : Nat → Prop} (h : ∃ n, p n) : ∃ n, p n ∧ ∀ k, p k → n ≤ k := by
 obtain ⟨n, hn⟩ := h
 induction n using Nat.strongRecOn with
 | ind n ih =>
  by_cases hq : ∃ k, k < n ∧ p k
  ·obtain ⟨k, hk, hp⟩ := hq; exact ih k hk hp
  ·exact ⟨n, hn, fun k hk => Nat.le_of_not_lt fun hlt => hq ⟨k, hlt, hk⟩⟩
open Classical in
theorem aLoopN {c : Code} (J : Nat → F → M → Prop) (n : Nat) (h0 : J n f m) (h : ∀ (W : F → M → Prop) (n : Nat) (f : F) (m : M), J n f m → (∀ n' f' m', n' < n → J n' f' m' → W f' m') → aCode P mu Z c (aThen W K) f m) : aCode P mu Z (.loop c) K f m := by
 have hl : ∀ (f : F) (m : M), ∃ n : Nat, (∃ k, J k f m) → J n f m ∧ ∀ k, J k f m → n ≤ k := fun f m => by
  by_cases hq : ∃ k, J k f m
  ·obtain ⟨n, h1, h2⟩ := leastN hq
   exact ⟨n, fun _ => ⟨h1, h2⟩⟩
  ·exact ⟨0, fun h => absurd h hq⟩
 have hmu : ∃ μ : F → M → Nat, ∀ f m, (∃ k, J k f m) → J (μ f m) f m ∧ ∀ k, J k f m → μ f m ≤ k :=
  ⟨fun f m => Classical.choose (hl f m), fun f m => Classical.choose_spec (hl f m)⟩
 obtain ⟨μ, hμ⟩ := hmu
 refine aLoop (fun f m => ∃ n, J n f m) μ ⟨n, h0⟩ (fun f m hJ => ?_)
 obtain ⟨h1, h2⟩ := hμ f m hJ
 refine h _ (μ f m) f m h1 (fun n' f' m' hlt hj => ⟨⟨n', hj⟩, ?_⟩)
 have := (hμ f' m' ⟨n', hj⟩).2 n' hj
 omega
end

set_option linter.unusedSimpArgs false
open Go Go.RowKit

theorem ACalls.leave {P : Program} {g : FuncId} {args : List PV} {m : M} {R R2 : PV → M → Prop} (h : ACalls P g args m R) (hl : ∀ v m', R v m' → ∃ v2 m2, Leave m m' v v2 m2 ∧ R2 v2 m2) : ACalls P g args m R2 := by
 refine ⟨h.1, fun G w vs hI hlen hr => (h.2 G w vs hI hlen hr).mono ?_⟩
 rintro e w' (⟨y, v', m', G', rfl, hR, h3, h4, h5⟩ | ⟨_, _, _, _, _, hz, _⟩)
 ·obtain ⟨v2, m2, hv, hR2⟩ := hl _ _ hR
  obtain ⟨G2, g1, g2, g3⟩ := hv.sound hI h5 h4 h3
  exact .inl ⟨y, v2, m2, G2, rfl, hR2, g1, g2, g3⟩
 ·exact hz.elim
end Go.Proofs.YthhhnfjcaicjnaaGreatDoor
