/-
 Texts that belong together: AbClo, AbLv.
-/
-- halved
import Derived.Test.YtohgdopfjkjppaaGreatDoorLwA
set_option linter.unusedVariables false
set_option linter.unusedSimpArgs false
namespace Go.Proofs.YtohgdopfjkjppaaGreatDoor
open Go Go.RowKit

def PV.flat : PV → Bool
 | .v _ => true
 | .ag xs => xs.all PV.isV
 | .tp xs => xs.all PV.isV
 | _ => false
theorem Rep.isV {G G' : Ghost} {w w' : World} {x : PV} {y : Value} (h : Rep G w x y) (hf : x.isV = true) : Rep G' w' x y := by
 cases h with
 | v h => exact .v h
 | _ => simp [PV.isV] at hf
theorem Rep.flat {G G' : Ghost} {w w' : World} {x : PV} {y : Value} (h : Rep G w x y) (hf : x.flat = true) : Rep G' w' x y := by
 cases h with
 | v h => exact .v h
 | ag xs cs hl h h1 => exact .ag xs cs hl (fun j a b => (h j a b).isV (List.all_eq_true.1 hf _ (List.getElem_mem _))) h1
 | tp xs cs hl h => exact .tp xs cs hl (fun j a b => (h j a b).isV (List.all_eq_true.1 hf _ (List.getElem_mem _)))
 | _ => simp [PV.flat] at hf

theorem ACalls.leave {P : Program} {g : FuncId} {args : List PV} {m : M} {R R2 : PV → M → Prop} (h : ACalls P g args m R) (hl : ∀ v m', R v m' → ∃ v2 m2, Leave m m' v v2 m2 ∧ R2 v2 m2) : ACalls P g args m R2 := by
 refine ⟨h.1, fun G w vs hI hlen hr => (h.2 G w vs hI hlen hr).mono ?_⟩
 rintro e w' (⟨y, v', m', G', rfl, hR, h3, h4, h5⟩ | ⟨_, _, _, _, _, hz, _⟩)
 ·obtain ⟨v2, m2, hv, hR2⟩ := hl _ _ hR
  obtain ⟨G2, g1, g2, g3⟩ := hv.sound hI h5 h4 h3
  exact .inl ⟨y, v2, m2, G2, rfl, hR2, g1, g2, g3⟩
 ·exact hz.elim
end Go.Proofs.YtohgdopfjkjppaaGreatDoor
