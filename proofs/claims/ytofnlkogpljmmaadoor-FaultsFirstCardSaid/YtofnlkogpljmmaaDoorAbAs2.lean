/-
  errors.As of an At as a contract, and for the run.
-/
import Derived.Test.YtofnlkogpljmmaaDoorAbAs
import Derived.OneCell
set_option linter.unusedVariables false
set_option linter.unusedSimpArgs false
namespace Go.Proofs.YtofnlkogpljmmaaDoor
open Go Go.RowKit

theorem setCell_rowed (w : World) (b o : Nat) (v : Value) : Rowed w (w.setCell ⟨b, o, none⟩ v) b := setCells_rowed b [v] o w
/-- A new block that nothing names. -/
theorem Inv.pushed {G : Ghost} {m : M} {w : World} (hI : Inv G m w) (o : Obj) : ∃ G', Inv G' m (w.alloc o) ∧ Ext G w G' (w.alloc o) ∧ G'.nb = G.nb ∧ G'.box = G.box ∧ G'.mp = G.mp := by
  obtain ⟨h1, h2⟩ := hI.push (Pushed.alloc w o) (fun _ => False)
  exact ⟨_, h2, h1, rfl, rfl, rfl⟩
set_option maxHeartbeats 1000000 in
theorem as_any (cells : List PV) (m : M) (id : Nat) (x : PV) (hid : m.get id = some [x]) :
    ACalls Tryd.prog 22 [.ifc 35 (.ep cells), .ifc 54 (.bp id 0)] m (fun v m' => v = .v (.bool true) ∧ m' = m.upd id [.ep cells]) := by
  refine ⟨by kernel_rfl, fun G w vs hI hl hr => ?_⟩
  obtain ⟨v0, v1, rfl⟩ : ∃ v0 v1, vs = [v0, v1] := by
    match vs, hl with
    | [v0, v1], _ => exact ⟨v0, v1, rfl⟩
  have h0 := hr 0 (by simp) (by simp)
  have h1 := hr 1 (by simp) (by simp)
  simp only [List.getElem_cons_zero, List.getElem_cons_succ] at h0 h1
  obtain ⟨y0, rfl, hep⟩ : ∃ y0, v0 = .iface 35 y0 ∧ Rep G w (.ep cells) y0 := by
    cases h0 with
    | ifc _ _ y h => exact ⟨y, rfl, h⟩
  obtain ⟨ad, rfl⟩ : ∃ ad, y0 = .pointer (some ad) := by
    obtain ⟨b, off, c, rfl, _⟩ := ep_inv hep
    exact ⟨_, rfl⟩
  obtain ⟨rfl, hm, hnb⟩ : v1 = .iface 54 (.pointer (some ⟨G.box id, 0, none⟩)) ∧ G.mp id = false ∧ id < G.nb := by
    cases h1 with
    | ifc _ _ y h =>
      cases h with
      | bp _ _ q1 q2 => exact ⟨rfl, q2, q1⟩
  obtain ⟨cs, e, k1, k2, k3, k4, k5⟩ := hI.boxC hid hm
  obtain ⟨u, rfl⟩ := List.length_eq_one_iff.1 (k2.symm.trans rfl)
  have ht : w.cell? ⟨G.box id, 0, none⟩ = some u := by simp [World.cell?, k1]
  have hf : w.frozen? ⟨G.box id, 0, none⟩ = false := by simp [World.frozen?, k1]
  have hg := (hI.lay _ (by simp only [laidC]; exact List.mem_singleton.2 rfl)).1
  refine (as_hit ad ⟨G.box id, 0, none⟩ u w hg ht hf).mono ?_
  rintro ev w' ⟨rfl, rfl⟩
  obtain ⟨G1, i1, e1, a1, b1, c1⟩ := hI.pushed (.cells #[.pointer (some ⟨G.box id, 0, none⟩)] 54)
  obtain ⟨G2, i2, e2, a2, b2, c2⟩ := i1.pushed (.cells #[.pointer (some ⟨4, 54, none⟩), .pointer (some ⟨w.heap.size, 0, none⟩), .int .u64 150] 66)
  obtain ⟨G3, i3, e3, a3, b3, c3⟩ := i2.pushed (.cells #[.pointer (some ⟨4, 54, none⟩), .pointer (some ⟨w.heap.size, 0, none⟩), .int .u64 150] 66)
  obtain ⟨G4, i4, e4, a4, b4, c4⟩ := i3.pushed (.cells #[.pointer (some ad)] 35)
  have hE := ((e1.trans e2).trans e3).trans e4
  have hbx : G4.box id = G.box id := by rw [b4, b3, b2, b1]
  have hmp : G4.mp id = false := by rw [c4, c3, c2, c1]; exact hm
  have k1' : ∀ {w : World} (o : Obj), w.heap[G.box id]? = some (.cells #[u] e (0, 0)) → (w.alloc o).heap[G.box id]? = some (.cells #[u] e (0, 0)) := fun {w} o h =>
    ((Pushed.alloc w o).old (Array.getElem?_eq_some_iff.1 h).1).trans h
  have hb5 := one_setCell (u := .pointer (some ad)) (k1' (.cells #[.pointer (some ad)] 35) (k1' (.cells #[.pointer (some ⟨4, 54, none⟩), .pointer (some ⟨w.heap.size, 0, none⟩), .int .u64 150] 66) (k1' (.cells #[.pointer (some ⟨4, 54, none⟩), .pointer (some ⟨w.heap.size, 0, none⟩), .int .u64 150] 66) (k1' (.cells #[.pointer (some ⟨G.box id, 0, none⟩)] 54) k1))))
  have hrow := setCell_rowed ((((w.alloc (.cells #[.pointer (some ⟨G.box id, 0, none⟩)] 54)).alloc (.cells #[.pointer (some ⟨4, 54, none⟩), .pointer (some ⟨w.heap.size, 0, none⟩), .int .u64 150] 66)).alloc (.cells #[.pointer (some ⟨4, 54, none⟩), .pointer (some ⟨w.heap.size, 0, none⟩), .int .u64 150] 66)).alloc (.cells #[.pointer (some ad)] 35)) (G4.box id) 0 (.pointer (some ad))
  obtain ⟨hE5, hI5⟩ := i4.store (c' := [.ep cells]) hid hmp hrow [.pointer (some ad)] e (by rw [hbx]; exact hb5) rfl (fun j q1 q2 => by
    obtain rfl : j = 0 := by simp at q1; omega
    exact hep.mono hE) (fun v hv => by
    obtain rfl := List.mem_singleton.1 hv
    rfl)
  rw [hbx] at hE5 hI5
  exact .inl ⟨_, .v (.bool true), _, _, rfl, ⟨rfl, rfl⟩, .v rfl, hI5, hE.trans hE5⟩

/-- errors.As of an At, for the run. -/
def asHook (next : CallR) : CallR := fun g args m => if g = 22 then (match args with
  | [PV.ifc t (PV.ep cells), PV.ifc t' (PV.bp id 0)] => if t = 35 ∧ t' = 54 then (match m.get id with
    | some [_] => some (.val (.v (.bool true)) (m.upd id [.ep cells]))
    | _ => none) else none
  | _ => none) else next g args m
theorem asHook_ok {next : CallR} (hn : CallOk Tryd.prog next) : CallOk Tryd.prog (asHook next) := by
  intro g args m r h
  unfold asHook at h
  split at h
  · rename_i hg
    subst hg
    split at h
    · split at h
      · rename_i hq
        obtain ⟨rfl, rfl⟩ := hq
        split at h
        · rename_i x hx
          cases h
          exact as_any _ m _ _ hx
        · cases h
      · cases h
    · cases h
  · exact hn _ _ _ _ h
end Go.Proofs.YtofnlkogpljmmaaDoor
