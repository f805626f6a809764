/-
  Proved: the law ObcCounts returns true at every input, and its arguments read afterwards as before. No condition.
-/
import Derived.Test.YtmcajiccepgagaaRows
import Derived.WalkKit
import Derived.ProofKit
import Derived.OpenShut
import Derived.Shelf.Vars
import Derived.Test.YtmcajiccepgagaaObCo
import Derived.Test.YtmcajiccepgagaaAbInvB
namespace Go.Proofs.Ytmcajiccepgagaa.obcCounts
open Go Go.ChangeShapes Go.WideShapes Go.ChangeAt Go.RowKit Go.Proofs Go.Proofs.Ytmcajiccepgagaa
set_option linter.unusedVariables false

theorem own : ownKnob Try.prog.godebug = none := by kernel_rfl

theorem handed (W : World) (h : W.ShapedOpen Try.prog) : ∀ q ∈ laidC, laidAt W q := fun q hq => by simp [laidC] at hq
set_option maxRecDepth 100000 in
theorem law (xs : List PV) (h : AllTy Try.prog [21, 22, 5] xs) : ACalls Try.prog 4 xs M0 (fun v m' => v = .v (.bool true)) := by
  obtain ⟨x, r, rfl, ⟨n, hx, hxa⟩, y, r2, rfl, ⟨n2, hy, hya⟩, z, r3, rfl, ⟨n3, hz, hza⟩, rfl⟩ := h
  have hi : aggT Try.prog 22 = false := by simp [aggT, Try.underlying22]
  have h8 : aggT Try.prog 5 = false := by simp [aggT, Try.underlying5]
  have h32 : aggT Try.prog 21 = false := by simp [aggT, Try.underlying21]
  rw [if_neg (by simp [h32])] at hxa
  rw [if_neg (by simp [hi])] at hya
  rw [if_neg (by simp [h8])] at hza
  have e3 : IntKind.i32.min = -2147483648 := by decide
  have e4 : IntKind.i32.max = 2147483647 := by decide
  obtain ⟨a, ha, a1, a2⟩ := intR_of Try.underlying21 hx
  obtain ⟨b, hb⟩ := slice_of (α := { i : Int // R32 i }) Try.underlying22 (fun i => pJ i.1) (fun m _ w hw hwa => by
    rw [if_neg (by simp [h32])] at hwa
    obtain ⟨i, hi1, i1, i2⟩ := intR_of Try.underlying21 hw
    exact ⟨⟨i, by unfold R32; omega⟩, by rw [hwa] at hi1; simpa using hi1⟩) hy
  obtain ⟨c, hc, c1, c2⟩ := u8_of Try.underlying5 hz
  have hx' : x = .v (.int .i32 a) := by rw [hxa] at ha; simpa using ha
  have hy' : y = .sl .no ((b.map Subtype.val).map pJ) := by rw [hya] at hb; rw [List.map_map]; exact (List.cons.inj hb).1
  have hz' : z = .v (.int .u8 c) := by rw [hza] at hc; simpa using hc
  rw [hx', hy', hz']
  exact counts_any a (b.map Subtype.val) c (by unfold R32; omega) (fun i hi => by obtain ⟨q, _, rfl⟩ := List.mem_map.1 hi; exact q.2) ⟨c1, c2⟩

set_option maxRecDepth 100000 in
theorem lifted (os : Os) (started : os.Started) (H : Type) (enc : TypeId × Value → H) :
    ReturnsInHanded {} Try.checked os 4 .any (Rows.obcCountsSpec.pre6 enc Try.prog Try.f4 Rows.obcCountsRow.domain false) (Rows.obcCountsSpec.post enc Try.prog Try.f4 false true false false) := by
  refine lifted_gen (C := Try.checked) (fn := Try.f4) (s := Rows.obcCountsSpec) (conds := Rows.obcCountsRow.domain) (tb := 4) own started (by kernel_rfl) Try.func4
    (ChangeSpec.witness6 (enc := enc) (C := Try.checked) false ⟨#[], #[.int .i32 0, .slice none 0 0, .int .u8 0], []⟩ 8 (by kernel_rfl) (by kernel_rfl) (by kernel_rfl) (by kernel_rfl))
    rfl (fun ds hl => ?_) (by kernel_rfl) Try.underlying4 [21, 22, 5] (by kernel_rfl) (of_decide_eq_true (by kernel_rfl)) (by kernel_rfl) (of_decide_eq_true (by kernel_rfl)) law handed
  match ds, hl with
  | [d0, d1, d2], _ => rfl

theorem over : Rows.obcCountsRow.holds Try.pinned (OpenSpec.ofChange Rows.obcCountsSpec) :=
  OpenClaim.holds_of_wide 4 Try.f4 rfl rfl rfl rfl rfl rfl rfl ⟨rfl, rfl, rfl, rfl, rfl⟩ rfl rfl rfl rfl rfl (by kernel_rfl) Try.func4 (by kernel_rfl)
    (of_decide_eq_true (by kernel_rfl)) (by unfold Func.isWrapper; first | (rw [if_pos (by decide +kernel)]; kernel_rfl) | (rw [if_neg (by decide +kernel)]; exact ⟨rfl, rfl⟩))
    (fun os started H enc _ => lifted os started H enc)

theorem proved : Rows.ObcCountsSaid :=
  over
#print axioms proved
end Go.Proofs.Ytmcajiccepgagaa.obcCounts
