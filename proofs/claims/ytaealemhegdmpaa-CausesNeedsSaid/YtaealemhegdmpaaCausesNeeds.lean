/-
 Proved: the law CausesNeeds returns true at every input, and its arguments read afterwards as before. No condition.
-/
-- halved
import Derived.Test.YtaealemhegdmpaaRows
import Derived.WalkKit
import Derived.ProofKit
import Derived.OpenShut
import Derived.Shelf.Vars
import Derived.Test.YtaealemhegdmpaaCnX
import Derived.Test.YtaealemhegdmpaaAbInvB
namespace Go.Proofs.Ytaealemhegdmpaa.causesNeeds
open Go Go.ChangeShapes Go.WideShapes Go.ChangeAt Go.RowKit Go.Proofs Go.Proofs.Ytaealemhegdmpaa
set_option linter.unusedVariables false

theorem own : ownKnob Try.prog.godebug = none := by kernel_rfl

theorem handed (W : World) (h : W.ShapedOpen Try.prog) : ∀ q ∈ laidC, laidAt W q := fun q hq => by simp [laidC] at hq
set_option maxRecDepth 100000 in
theorem law (xs : List PV) (h : AllTy Try.prog [22] xs) : ACalls Try.prog 4 xs M0 (fun v m' => v = .v (.bool true)) := by
 obtain ⟨x, r, rfl, ⟨n, hx, hxa⟩, rfl⟩ := h
 have hs : aggT Try.prog 22 = false := by simp [aggT, Try.underlying22]
 rw [if_neg (by simp [hs])] at hxa
 obtain ⟨a, ha1, ha⟩ := bytes_of Try.underlying22 Try.underlying5 hx
 have hx' : x = .sl .no (a.map pU) := by rw [hxa] at ha; exact (List.cons.inj ha).1
 subst hx'
 exact needsLaw_any a ha1

set_option maxRecDepth 100000 in
theorem lifted (os : Os) (started : os.Started) (H : Type) (enc : TypeId × Value → H) :
    ReturnsInHanded {} Try.checked os 4 .any (Rows.causesNeedsSpec.pre6 enc Try.prog Try.f4 Rows.causesNeedsRow.domain false) (Rows.causesNeedsSpec.post enc Try.prog Try.f4 false true false false) := by
 refine lifted_gen (C := Try.checked) (fn := Try.f4) (s := Rows.causesNeedsSpec) (conds := Rows.causesNeedsRow.domain) (tb := 4) own started (by kernel_rfl) Try.func4
  (ChangeSpec.witness6 (enc := enc) (C := Try.checked) false ⟨#[], #[.slice none 0 0], []⟩ 8 (by kernel_rfl) (by kernel_rfl) (by kernel_rfl) (by kernel_rfl))
  rfl (fun ds hl => ?_) (by kernel_rfl) Try.underlying4 [22, 5] (by kernel_rfl) (of_decide_eq_true (by kernel_rfl)) (by kernel_rfl) (of_decide_eq_true (by kernel_rfl)) law handed
 match ds, hl with
 | [d0], _ => rfl

theorem over : Rows.causesNeedsRow.holds Try.pinned (OpenSpec.ofChange Rows.causesNeedsSpec) :=
 OpenClaim.holds_of_wide 4 Try.f4 rfl rfl rfl rfl rfl rfl rfl ⟨rfl, rfl, rfl, rfl, rfl⟩ rfl rfl rfl rfl rfl (by kernel_rfl) Try.func4 (by kernel_rfl)
  (of_decide_eq_true (by kernel_rfl)) (by unfold Func.isWrapper; first | (rw [if_pos (by decide +kernel)]; kernel_rfl) | (rw [if_neg (by decide +kernel)]; exact ⟨rfl, rfl⟩))
  (fun os started H enc _ => lifted os started H enc)

theorem proved : Rows.CausesNeedsSaid :=
 over
#print axioms proved
end Go.Proofs.Ytaealemhegdmpaa.causesNeeds
