/-
  Proved: the law ClocksWhens returns true at every input, and its arguments read afterwards as before. No condition.
-/
import Derived.Test.YtamdnlnoioglnaaRows
import Derived.WalkKit
import Derived.ProofKit
import Derived.OpenShut
import Derived.Shelf.Vars
import Derived.Test.YtamdnlnoioglnaaCkL
import Derived.Test.YtamdnlnoioglnaaAbInvB
namespace Go.Proofs.Ytamdnlnoioglnaa.clocksWhens
open Go Go.ChangeShapes Go.WideShapes Go.ChangeAt Go.RowKit Go.Proofs Go.Proofs.Ytamdnlnoioglnaa
set_option linter.unusedVariables false

theorem own : ownKnob Try.prog.godebug = none := by kernel_rfl

theorem handed (W : World) (h : W.ShapedOpen Try.prog) : ∀ q ∈ laidC, laidAt W q := fun q hq => by simp [laidC] at hq
set_option maxRecDepth 100000 in
theorem law (xs : List PV) (h : AllTy Try.prog [35, 4] xs) : ACalls Try.prog 5 xs M0 (fun v m' => v = .v (.bool true)) := by
  obtain ⟨x, r, rfl, ⟨n, hx, hxa⟩, y, r2, rfl, ⟨n2, hy, hya⟩, rfl⟩ := h
  have hbb : aggT Try.prog 35 = false := by simp [aggT, Try.underlying35]
  have h1 : aggT Try.prog 4 = false := by simp [aggT, Try.underlying4]
  rw [if_neg (by simp [hbb])] at hxa
  rw [if_neg (by simp [h1])] at hya
  obtain ⟨a, ha⟩ := slice_of (α := Bool) Try.underlying35 pB (fun m _ w hw hwa => by
    rw [if_neg (by simp [h1])] at hwa
    obtain ⟨i, hi1⟩ := bool_of Try.underlying4 hw
    exact ⟨i, by rw [hwa] at hi1; simpa using hi1⟩) hx
  obtain ⟨b, hb⟩ := bool_of Try.underlying4 hy
  have hx' : x = .sl .no (a.map pB) := by rw [hxa] at ha; exact (List.cons.inj ha).1
  have hy' : y = pB b := by rw [hya] at hb; exact (List.cons.inj hb).1
  rw [hx', hy']
  exact whens_any a b

set_option maxRecDepth 100000 in
theorem lifted (os : Os) (started : os.Started) (H : Type) (enc : TypeId × Value → H) :
    ReturnsInHanded {} Try.checked os 5 .any (Rows.clocksWhensSpec.pre6 enc Try.prog Try.f5 Rows.clocksWhensRow.domain false) (Rows.clocksWhensSpec.post enc Try.prog Try.f5 false true false false) := by
  refine lifted_gen (C := Try.checked) (fn := Try.f5) (s := Rows.clocksWhensSpec) (conds := Rows.clocksWhensRow.domain) (tb := 4) own started (by kernel_rfl) Try.func5
    (ChangeSpec.witness6 (enc := enc) (C := Try.checked) false ⟨#[], #[.slice none 0 0, .bool false], []⟩ 8 (by kernel_rfl) (by kernel_rfl) (by kernel_rfl) (by kernel_rfl))
    rfl (fun ds hl => ?_) (by kernel_rfl) Try.underlying4 [35, 4] (by kernel_rfl) (of_decide_eq_true (by kernel_rfl)) (by kernel_rfl) (of_decide_eq_true (by kernel_rfl)) law handed
  match ds, hl with
  | [d0, d1], _ => rfl

theorem over : Rows.clocksWhensRow.holds Try.pinned (OpenSpec.ofChange Rows.clocksWhensSpec) :=
  OpenClaim.holds_of_wide 5 Try.f5 rfl rfl rfl rfl rfl rfl rfl ⟨rfl, rfl, rfl, rfl, rfl⟩ rfl rfl rfl rfl rfl (by kernel_rfl) Try.func5 (by kernel_rfl)
    (of_decide_eq_true (by kernel_rfl)) (by unfold Func.isWrapper; first | (rw [if_pos (by decide +kernel)]; kernel_rfl) | (rw [if_neg (by decide +kernel)]; exact ⟨rfl, rfl⟩))
    (fun os started H enc _ => lifted os started H enc)

theorem proved : Rows.ClocksWhensSaid :=
  over
#print axioms proved
end Go.Proofs.Ytamdnlnoioglnaa.clocksWhens
