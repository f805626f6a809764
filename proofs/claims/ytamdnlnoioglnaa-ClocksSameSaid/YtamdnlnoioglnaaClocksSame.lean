/-
  Proved: the law ClocksSame returns true at every input, and its arguments read afterwards as before. No condition.
-/
import Derived.Test.YtamdnlnoioglnaaRows
import Derived.WalkKit
import Derived.ProofKit
import Derived.OpenShut
import Derived.Test.YtamdnlnoioglnaaClkSame
namespace Go.Proofs.Ytamdnlnoioglnaa.clocksSame
open Go Go.ChangeShapes Go.WideShapes Go.ChangeAt Go.RowKit Go.Proofs.Ytamdnlnoioglnaa
set_option linter.unusedVariables false

theorem own : ownKnob Try.prog.godebug = none := by kernel_rfl

set_option maxRecDepth 100000 in
theorem law (xs : List PV) (h : AllTy Try.prog [33, 33] xs) : ACalls Try.prog 4 xs M0 (fun v m' => v = .v (.bool true)) := by
  obtain ⟨x, r, rfl, ⟨n, hx, hxa⟩, y, r2, rfl, ⟨n2, hy, hya⟩, rfl⟩ := h
  have hg : ∀ m, m < n → ∀ x : PV, TyCs Try.prog m 79 x.cells → (if aggT Try.prog 79 then x = .ag x.cells else x.cells = [x]) → ∃ a : On, x = a.pv := fun _ _ _ h h' => on_of h h'
  obtain ⟨a, ha⟩ := slice_of Try.underlying33 On.pv (fun _ _ _ h h' => on_of h h') hx
  obtain ⟨b, hb⟩ := slice_of Try.underlying33 On.pv (fun _ _ _ h h' => on_of h h') hy
  have hn : aggT Try.prog 33 = false := by simp [aggT, Try.underlying33]
  rw [if_neg (by simp [hn])] at hxa hya
  have hx' : x = .sl .no (a.map On.pv) := by rw [hxa] at ha; simpa using ha
  have hy' : y = .sl .no (b.map On.pv) := by rw [hya] at hb; simpa using hb
  rw [hx', hy']
  exact (clocksSame_any a b M0).mono fun v m' h => h.1

set_option maxRecDepth 100000 in
theorem lifted (os : Os) (started : os.Started) (H : Type) (enc : TypeId × Value → H) :
    ReturnsInHanded {} Try.checked os 4 .any (Rows.clocksSameSpec.pre6 enc Try.prog Try.f4 Rows.clocksSameRow.domain false) (Rows.clocksSameSpec.post enc Try.prog Try.f4 false true false false) := by
  refine lifted_gen (C := Try.checked) (fn := Try.f4) (s := Rows.clocksSameSpec) (conds := Rows.clocksSameRow.domain) (tb := 4) own started (by kernel_rfl) Try.func4
    (ChangeSpec.witness6 (enc := enc) (C := Try.checked) false ⟨#[], #[.slice none 0 0, .slice none 0 0], []⟩ 8 (by kernel_rfl) (by kernel_rfl) (by kernel_rfl) (by kernel_rfl))
    rfl (fun ds hl => ?_) (by kernel_rfl) Try.underlying4 [33, 79, 9] (by kernel_rfl) (of_decide_eq_true (by kernel_rfl)) (by kernel_rfl) (of_decide_eq_true (by kernel_rfl)) law
  match ds, hl with
  | [d0, d1], _ => rfl

theorem over : Rows.clocksSameRow.holds Try.pinned (OpenSpec.ofChange Rows.clocksSameSpec) :=
  OpenClaim.holds_of_wide 4 Try.f4 rfl rfl rfl rfl rfl rfl rfl ⟨rfl, rfl, rfl, rfl, rfl⟩ rfl rfl rfl rfl rfl (by kernel_rfl) Try.func4 (by kernel_rfl)
    (of_decide_eq_true (by kernel_rfl)) (by unfold Func.isWrapper; first | (rw [if_pos (by decide +kernel)]; kernel_rfl) | (rw [if_neg (by decide +kernel)]; exact ⟨rfl, rfl⟩))
    (fun os started H enc _ => lifted os started H enc)

theorem proved : Rows.ClocksSameSaid :=
  over
#print axioms proved
end Go.Proofs.Ytamdnlnoioglnaa.clocksSame
