/-
  Proved: the law ObcLists returns true at every input, and its arguments read afterwards as before. No condition.
-/
import Derived.Test.YtmcajiccepgagaaRows
import Derived.WalkKit
import Derived.ProofKit
import Derived.OpenShut
import Derived.Shelf.Vars
import Derived.Test.YtmcajiccepgagaaObLi
import Derived.Test.YtmcajiccepgagaaAbInvB
namespace Go.Proofs.Ytmcajiccepgagaa.obcLists
open Go Go.ChangeShapes Go.WideShapes Go.ChangeAt Go.RowKit Go.Proofs Go.Proofs.Ytmcajiccepgagaa
set_option linter.unusedVariables false

theorem own : ownKnob Try.prog.godebug = none := by kernel_rfl

theorem handed (W : World) (h : W.ShapedOpen Try.prog) : ∀ q ∈ laidC, laidAt W q := fun q hq => by simp [laidC] at hq
set_option maxRecDepth 100000 in
theorem law (xs : List PV) (h : AllTy Try.prog [65, 65] xs) : ACalls Try.prog 5 xs M0 (fun v m' => v = .v (.bool true)) := by
  obtain ⟨x, r, rfl, ⟨n, hx, hxa⟩, y, r2, rfl, ⟨n2, hy, hya⟩, rfl⟩ := h
  have hs : aggT Try.prog 65 = false := by simp [aggT, Try.underlying65]
  rw [if_neg (by simp [hs])] at hxa hya
  obtain ⟨a, ha1, ha⟩ := bytes_of Try.underlying65 Try.underlying5 hx
  obtain ⟨b, hb1, hb⟩ := bytes_of Try.underlying65 Try.underlying5 hy
  have hx' : x = .sl .no (a.map pU) := by rw [hxa] at ha; exact (List.cons.inj ha).1
  have hy' : y = .sl .no (b.map pU) := by rw [hya] at hb; exact (List.cons.inj hb).1
  subst hx' hy'
  exact lists_any a b ha1 hb1

set_option maxRecDepth 100000 in
theorem lifted (os : Os) (started : os.Started) (H : Type) (enc : TypeId × Value → H) :
    ReturnsInHanded {} Try.checked os 5 .any (Rows.obcListsSpec.pre6 enc Try.prog Try.f5 Rows.obcListsRow.domain false) (Rows.obcListsSpec.post enc Try.prog Try.f5 false true false false) := by
  refine lifted_gen (C := Try.checked) (fn := Try.f5) (s := Rows.obcListsSpec) (conds := Rows.obcListsRow.domain) (tb := 4) own started (by kernel_rfl) Try.func5
    (ChangeSpec.witness6 (enc := enc) (C := Try.checked) false ⟨#[], #[.slice none 0 0, .slice none 0 0], []⟩ 8 (by kernel_rfl) (by kernel_rfl) (by kernel_rfl) (by kernel_rfl))
    rfl (fun ds hl => ?_) (by kernel_rfl) Try.underlying4 [65, 5] (by kernel_rfl) (of_decide_eq_true (by kernel_rfl)) (by kernel_rfl) (of_decide_eq_true (by kernel_rfl)) law handed
  match ds, hl with
  | [d0, d1], _ => rfl

theorem over : Rows.obcListsRow.holds Try.pinned (OpenSpec.ofChange Rows.obcListsSpec) :=
  OpenClaim.holds_of_wide 5 Try.f5 rfl rfl rfl rfl rfl rfl rfl ⟨rfl, rfl, rfl, rfl, rfl⟩ rfl rfl rfl rfl rfl (by kernel_rfl) Try.func5 (by kernel_rfl)
    (of_decide_eq_true (by kernel_rfl)) (by unfold Func.isWrapper; first | (rw [if_pos (by decide +kernel)]; kernel_rfl) | (rw [if_neg (by decide +kernel)]; exact ⟨rfl, rfl⟩))
    (fun os started H enc _ => lifted os started H enc)

theorem proved : Rows.ObcListsSaid :=
  over
#print axioms proved
end Go.Proofs.Ytmcajiccepgagaa.obcLists
