/-
  A box is settled ahead of a region.
-/
import Derived.Test.YtmcajiccepgagaaAbKit
import Derived.Test.YtmcajiccepgagaaAbLv
import Derived.Test.YtmcajiccepgagaaAbFrz
import Derived.Test.YtmcajiccepgagaaAbOpen
import Derived.Test.YtmcajiccepgagaaAbDrw
set_option linter.unusedVariables false
set_option linter.unusedSimpArgs false
namespace Go.Proofs.Ytmcajiccepgagaa
open Go

/-- A box is given up. -/
def M.drop1 (m : M) (id : Nat) : M := { m with boxes := m.boxes.set id none }
theorem drop1_nb (m : M) (id : Nat) : (m.drop1 id).nb = m.nb := by simp [M.drop1, M.nb]
theorem drop1_get (m : M) (id k : Nat) : (m.drop1 id).get k = if k = id then none else m.get k := by
  unfold M.get M.drop1
  simp only [List.getElem?_set]
  by_cases h : id = k
  · subst h
    by_cases h2 : id < m.boxes.length <;> simp [h2]
  · simp [h, Ne.symm h]
theorem gstep_drop {f : F} {m : M} {id : Nat} {c1 : List PV} (x : PV) (hid : m.get id = some c1) (hc1 : c1.map PV.settle = x.cells) (hx : x.ok = true) (hfr : ∀ k c, k ≠ id → m.get k = some c → c.map (PV.frz id [x]) = c ∨ True) :
    GStep f m (fun t => (f t).frz id [x]) (m.drop1 id) := by
  refine .inr ⟨id, [x], x.cells.length, c1, hid, .inr (by simpa using hc1), fun y hy => ?_, fun t => .inr (.inl rfl), rfl, by simp [M.drop1], fun k c hc => ?_⟩
  · obtain rfl : y = x := by simpa using hy
    exact ⟨rfl, hx⟩
  · rw [drop1_get] at hc
    split at hc
    · cases hc
    · rename_i hne
      exact ⟨hne, .inl hc⟩
theorem aRegS {P : Program} {mu : List Nat} {Z : PV → M → Prop} {K : Exit → F → M → Prop} {f : F} {m : M} {id rid : Nat} {c1 : List PV} {l : List Oper} (x : PV) (hid : m.get id = some c1) (hc1 : c1.map PV.settle = x.cells) (hx : x.ok = true)
    (h : ∀ f', (∀ t, f' t = (f t).frz id [x]) → aOps P mu Z l.toArray l (K .normal) f' (m.drop1 id)) : aCode P mu Z (.region rid l.toArray false) K f m :=
  aRegG (gstep_drop x hid hc1 hx (fun _ _ _ _ => .inr trivial)) (h _ (fun t => rfl))

theorem aDrwS {P : Program} {mu : List Nat} {Z : PV → M → Prop} {K : Exit → F → M → Prop} {f : F} {m : M} {id rid : Nat} {c1 : List PV} {l : List Oper} (x : PV) (hid : m.get id = some c1) (hc1 : c1.map PV.settle = x.cells) (hx : x.ok = true)
    (hok : lexOk mu l.toArray = true) (h : ∀ f', (∀ t, f' t = (f t).frz id [x]) → aLexL P mu l.toArray (fun _ => True) (K .normal) l f' (m.drop1 id)) : aCode P mu Z (.region rid l.toArray true) K f m :=
  aDrwG (gstep_drop x hid hc1 hx (fun _ _ _ _ => .inr trivial)) (fun _ => True) hok trivial (h _ (fun t => rfl))
/-- All that is made is handed back, over a state. -/
theorem leave_over {m0 m : M} {v : PV} {R : PV → M → Prop} (hb : m0.nb ≤ m.nb) (ht : m0.nt ≤ m.nt) (ha : m.allIn = true) (hv : v.within m.nb m.nt = true) (hR : R v m) : ∃ v' m', Leave m0 m v v' m' ∧ R v' m' :=
  ⟨v, m, .gen _ _ _ (.inl rfl) hb ht (by unfold M.nb; rw [List.take_length]) (by unfold M.nt; rw [List.take_length]) (fun id c hid => .inr (by
    have := List.all_eq_true.1 ha (some c) (by
      unfold M.get at hid
      simp only [Option.join_eq_some_iff] at hid
      exact List.mem_of_getElem? hid)
    exact this)) hv, hR⟩
end Go.Proofs.Ytmcajiccepgagaa
