/-
  States with the same boxes; what leaves with tokens within.
-/
import Derived.Test.YteiaedmipkcfeaaDoorAbToks
set_option linter.unusedVariables false
namespace Go.Proofs.YteiaedmipkcfeaaDoor
open Go

def isB (m : M) (bs : List (Option (List PV))) (m2 : M) : Prop := ∃ ts, m2 = (⟨m.boxes, ts⟩ : M).ext bs
theorem isB_all {m : M} {bs : List (Option (List PV))} {Q : M → Prop} : (∀ m2, isB m bs m2 → Q m2) = ∀ ts, Q ((⟨m.boxes, ts⟩ : M).ext bs) :=
  propext ⟨fun h ts => h _ ⟨ts, rfl⟩, fun h m2 ⟨ts, e⟩ => e ▸ h ts⟩
theorem bt_nb {m : M} {ts : List (Option Nat)} : (⟨m.boxes, ts⟩ : M).nb = m.nb := rfl
theorem within2 {n k t : Nat} {xs ys : List PV} {o2 : Own} (h : t < k) (ho : o2 = .no ∨ o2 = .full) : (PV.ag [.sl (.tok t) xs, .sl o2 ys]).within n k = true := by
  rcases ho with rfl | rfl <;> simp [PV.within, PV.withins, h]
theorem leave_tok2 {m m1 : M} {bs : List (Option (List PV))} {v : PV} {R : PV → M → Prop} (h : Toks m m1) (hv : v.within m1.nb m1.nt = true) (hR : R v m1) : ∃ v' m', Leave m (m1.ext bs) v v' m' ∧ R v' m' :=
  ⟨v, m1, .gen v v m1 (.inl rfl) (by rw [h.nb]; exact Nat.le_refl _) h.nt (by simp [M.ext, M.nb]) (by simp [M.ext, M.nt]) (fun id c hc => .inl (by unfold M.get at hc ⊢; rw [← h.boxes]; exact hc)) hv, hR⟩
end Go.Proofs.YteiaedmipkcfeaaDoor
