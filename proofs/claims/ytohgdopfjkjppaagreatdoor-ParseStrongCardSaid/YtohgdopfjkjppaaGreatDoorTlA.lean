/-
 Texts that belong together: AbTail, AbClo.
-/
-- halved
import Derived.Test.YtohgdopfjkjppaaGreatDoorRnA
/-
 The rest of a law, run on known values.
-/
set_option linter.unusedVariables false
set_option linter.unusedSimpArgs false
namespace Go.Proofs.YtohgdopfjkjppaaGreatDoor
open Go Go.RowKit

end Go.Proofs.YtohgdopfjkjppaaGreatDoor

/-
 A call on values without boxes that answers, from nothing, a value without an address answers it from anything.
-/
set_option linter.unusedVariables false
set_option linter.unusedSimpArgs false
namespace Go.Proofs.YtohgdopfjkjppaaGreatDoor
open Go Go.RowKit

def PV.flat : PV → Bool
 | .v _ => true
 | .ag xs => xs.all PV.isV
 | .tp xs => xs.all PV.isV
 | _ => false
theorem Rep.isV {G G' : Ghost} {w w' : World} {x : PV} {y : Value} (h : Rep G w x y) (hf : x.isV = true) : Rep G' w' x y := by
 cases h with
 | v h => exact .v h
 | _ => simp [PV.isV] at hf
theorem Rep.flat {G G' : Ghost} {w w' : World} {x : PV} {y : Value} (h : Rep G w x y) (hf : x.flat = true) : Rep G' w' x y := by
 cases h with
 | v h => exact .v h
 | ag xs cs hl h h1 => exact .ag xs cs hl (fun j a b => (h j a b).isV (List.all_eq_true.1 hf _ (List.getElem_mem _))) h1
 | tp xs cs hl h => exact .tp xs cs hl (fun j a b => (h j a b).isV (List.all_eq_true.1 hf _ (List.getElem_mem _)))
 | _ => simp [PV.flat] at hf
theorem ACalls.closedP {P : Program} {g : FuncId} {xs : List PV} {x : PV} {R : PV → M → Prop} (h : ACalls P g xs M0 (fun v2 _ => v2 = x)) (hx : ∀ x ∈ xs, x.pure = true) (hv : x.flat = true) (m : M) (hR : R x m) : ACalls P g xs m R := by
 refine ⟨h.1, fun G w vs hI hl hr => (h.2 (G0 w) w vs (inv0 w hI.layW) hl (fun j h1 h2 => (hr j h1 h2).pure_mono (fun b o hs => ?_) (fun _ _ _ => rfl) (hx _ (List.getElem_mem _)))).mono ?_⟩
 ·refine .inl ?_
  rcases hs with hs | hs
  ·exact Nat.lt_of_lt_of_le hs hI.base
  ·exact hI.set b o hs
 rintro e w' (⟨y, v', m', G', rfl, rfl, h3, h4, h5⟩ | ⟨_, _, _, _, _, hz, _⟩)
 ·have hb : Below w.heap.size w w' := h5.below
  have hE : Ext G w G w' := ⟨rfl, Nat.le_refl _, fun _ _ => rfl, fun _ _ => rfl, Nat.le_refl _, fun _ _ => rfl, fun _ _ h => h, fun b o hs => hb.cell (p := ⟨b, o, none⟩) (hI.set b o hs), hb.mono hI.base⟩
  refine .inl ⟨y, _, m, G, rfl, hR, h3.flat hv, ?_, hE⟩
  refine ⟨hI.nb, hI.nt, Nat.le_trans hI.base hb.size, fun id c hc => ?_, hI.boxset, hI.inj, fun t s ht => ?_, hI.tokd, fun b o hs => Nat.lt_of_lt_of_le (hI.set b o hs) hb.size, hI.layE hE⟩
  ·obtain ⟨o, a1, a2, a5⟩ := hI.box id c hc
   exact ⟨o, (hb.block _ (hI.blt hc)).trans a1, a2.mono hE, a5⟩
  ·obtain ⟨q0, q⟩ := hI.tok t s ht
   refine ⟨q0, fun b o hbo => ?_⟩
   obtain ⟨q1, q2, q3, q4, q5⟩ := q b o hbo
   have hlt : b < w.heap.size := by
    obtain ⟨u, hu⟩ := Option.isSome_iff_exists.1 q3
    exact World.block_lt_of_cell? w _ hu
   exact ⟨q1, q2, by rw [hb.cell (p := ⟨b, o, none⟩) hlt]; exact q3, by rw [hb.frozen (p := ⟨b, o, none⟩) hlt]; exact q4, q5⟩
 ·exact hz.elim
/-- What a run from nothing answers. -/
def eIs (P : Program) (mus : FuncId → List Nat) (hook : CallR) (k : Nat) (g : FuncId) (xs : List PV) : Option PV := match eCallD P mus hook k g xs M0 with
 | some (.val v _ _) => some v
 | _ => none
theorem ACalls.ranP {P : Program} {mus : FuncId → List Nat} {hook : CallR} {k : Nat} {g : FuncId} {xs : List PV} {x : PV} {R : PV → M → Prop} (hmix : P.follows .mixedOrders = true) (hh : CallOk P hook)
    (h : eIs P mus hook k g xs = some x) (hx : ∀ x ∈ xs, x.pure = true) (hv : x.flat = true) (m : M) (hR : R x m) : ACalls P g xs m R := by
 unfold eIs at h
 split at h
 ·rename_i v m' ws he
  cases h
  have := (ER.grants_val (eCallD_sound (mus := mus) hmix hh k _ _ _ _ he)).1
  exact ACalls.closedP (ACallsZ.mono this (fun v2 m2 q => q.1) (fun _ _ h => h)) hx hv m hR
 ·cases h
end Go.Proofs.YtohgdopfjkjppaaGreatDoor
