/-
  Proved: the law ObcParts returns true at every input, and its arguments read afterwards as before. No condition.
-/
import Derived.Test.YtmcajiccepgagaaRows
import Derived.WalkKit
import Derived.ProofKit
import Derived.OpenShut
import Derived.Shelf.Vars
import Derived.Test.YtmcajiccepgagaaObPa
import Derived.Test.YtmcajiccepgagaaAbInvB
namespace Go.Proofs.Ytmcajiccepgagaa.obcParts
open Go Go.ChangeShapes Go.WideShapes Go.ChangeAt Go.RowKit Go.Proofs Go.Proofs.Ytmcajiccepgagaa
set_option linter.unusedVariables false

theorem own : ownKnob Try.prog.godebug = none := by kernel_rfl

theorem handed (W : World) (h : W.ShapedOpen Try.prog) : ∀ q ∈ laidC, laidAt W q := fun q hq => by simp [laidC] at hq
set_option maxRecDepth 100000 in
theorem law (xs : List PV) (h : AllTy Try.prog [22, 23] xs) : ACalls Try.prog 3 xs M0 (fun v m' => v = .v (.bool true)) := by
  obtain ⟨x, r, rfl, ⟨n, hx, hxa⟩, y, r2, rfl, ⟨n2, hy, hya⟩, rfl⟩ := h
  have hi : aggT Try.prog 22 = false := by simp [aggT, Try.underlying22]
  have hbb : aggT Try.prog 23 = false := by simp [aggT, Try.underlying23]
  have h1 : aggT Try.prog 4 = false := by simp [aggT, Try.underlying4]
  have h32 : aggT Try.prog 21 = false := by simp [aggT, Try.underlying21]
  rw [if_neg (by simp [hi])] at hxa
  rw [if_neg (by simp [hbb])] at hya
  have e3 : IntKind.i32.min = -2147483648 := by decide
  have e4 : IntKind.i32.max = 2147483647 := by decide
  obtain ⟨a, ha⟩ := slice_of (α := { i : Int // R32 i }) Try.underlying22 (fun i => pJ i.1) (fun m _ w hw hwa => by
    rw [if_neg (by simp [h32])] at hwa
    obtain ⟨i, hi1, i1, i2⟩ := intR_of Try.underlying21 hw
    exact ⟨⟨i, by unfold R32; omega⟩, by rw [hwa] at hi1; simpa using hi1⟩) hx
  obtain ⟨b, hb⟩ := slice_of (α := Bool) Try.underlying23 pB (fun m _ w hw hwa => by
    rw [if_neg (by simp [h1])] at hwa
    obtain ⟨i, hi1⟩ := bool_of Try.underlying4 hw
    exact ⟨i, by rw [hwa] at hi1; simpa using hi1⟩) hy
  have hx' : x = .sl .no ((a.map Subtype.val).map pJ) := by rw [hxa] at ha; rw [List.map_map]; exact (List.cons.inj ha).1
  have hy' : y = .sl .no (b.map pB) := by rw [hya] at hb; exact (List.cons.inj hb).1
  rw [hx', hy']
  exact partsL_any (a.map Subtype.val) b (fun i hi => by obtain ⟨q, _, rfl⟩ := List.mem_map.1 hi; exact q.2)

set_option maxRecDepth 100000 in
theorem lifted (os : Os) (started : os.Started) (H : Type) (enc : TypeId × Value → H) :
    ReturnsInHanded {} Try.checked os 3 .any (Rows.obcPartsSpec.pre6 enc Try.prog Try.f3 Rows.obcPartsRow.domain false) (Rows.obcPartsSpec.post enc Try.prog Try.f3 false true false false) := by
  refine lifted_gen (C := Try.checked) (fn := Try.f3) (s := Rows.obcPartsSpec) (conds := Rows.obcPartsRow.domain) (tb := 4) own started (by kernel_rfl) Try.func3
    (ChangeSpec.witness6 (enc := enc) (C := Try.checked) false ⟨#[], #[.slice none 0 0, .slice none 0 0], []⟩ 8 (by kernel_rfl) (by kernel_rfl) (by kernel_rfl) (by kernel_rfl))
    rfl (fun ds hl => ?_) (by kernel_rfl) Try.underlying4 [22, 23, 21, 4] (by kernel_rfl) (of_decide_eq_true (by kernel_rfl)) (by kernel_rfl) (of_decide_eq_true (by kernel_rfl)) law handed
  match ds, hl with
  | [d0, d1], _ => rfl

theorem over : Rows.obcPartsRow.holds Try.pinned (OpenSpec.ofChange Rows.obcPartsSpec) :=
  OpenClaim.holds_of_wide 3 Try.f3 rfl rfl rfl rfl rfl rfl rfl ⟨rfl, rfl, rfl, rfl, rfl⟩ rfl rfl rfl rfl rfl (by kernel_rfl) Try.func3 (by kernel_rfl)
    (of_decide_eq_true (by kernel_rfl)) (by unfold Func.isWrapper; first | (rw [if_pos (by decide +kernel)]; kernel_rfl) | (rw [if_neg (by decide +kernel)]; exact ⟨rfl, rfl⟩))
    (fun os started H enc _ => lifted os started H enc)

theorem proved : Rows.ObcPartsSaid :=
  over
#print axioms proved
end Go.Proofs.Ytmcajiccepgagaa.obcParts
