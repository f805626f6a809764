/-
  Proved: the law CliteBases returns true at every input, and its arguments read afterwards as before. No condition.
-/
import Derived.Test.YtepjjgnkhcjpcaaRows
import Derived.WalkKit
import Derived.ProofKit
import Derived.OpenShut
import Derived.Shelf.Vars
import Derived.Test.YtepjjgnkhcjpcaaCeG5
import Derived.Test.YtepjjgnkhcjpcaaAbInvB
namespace Go.Proofs.Ytepjjgnkhcjpcaa.cliteBases
open Go Go.ChangeShapes Go.WideShapes Go.ChangeAt Go.RowKit Go.Proofs Go.Proofs.Ytepjjgnkhcjpcaa
set_option linter.unusedVariables false

theorem own : ownKnob Try.prog.godebug = none := by kernel_rfl

theorem handed (W : World) (h : W.ShapedOpen Try.prog) : ∀ q ∈ laidC, laidAt W q := fun q hq => by simp [laidC] at hq
set_option maxRecDepth 100000 in
theorem law (xs : List PV) (h : AllTy Try.prog [3, 5, 21] xs) : ACalls Try.prog 7 xs M0 (fun v m' => v = .v (.bool true)) := by
  obtain ⟨x, r, rfl, ⟨n, hx, hxa⟩, y, r2, rfl, ⟨n2, hy, hya⟩, z, r3, rfl, ⟨n3, hz, hza⟩, rfl⟩ := h
  have hn : aggT Try.prog 3 = false := by simp [aggT, Try.underlying3]
  have hu : aggT Try.prog 5 = false := by simp [aggT, Try.underlying5]
  have hi : aggT Try.prog 21 = false := by simp [aggT, Try.underlying21]
  rw [if_neg (by simp [hn])] at hxa
  rw [if_neg (by simp [hu])] at hya
  rw [if_neg (by simp [hi])] at hza
  obtain ⟨b, hb, b1, b2⟩ := intR_of Try.underlying3 hx
  obtain ⟨c, hc, c1, c2⟩ := u8_of Try.underlying5 hy
  obtain ⟨d, hd, d1, d2⟩ := intR_of Try.underlying21 hz
  have hx' : x = .v (.int .i64 b) := by rw [hxa] at hb; simpa using hb
  have hy' : y = .v (.int .u8 c) := by rw [hya] at hc; simpa using hc
  have hz' : z = .v (.int .i32 d) := by rw [hza] at hd; simpa using hd
  have e1 : IntKind.i64.min = -2 ^ 63 := by decide
  have e2 : IntKind.i64.max = 2 ^ 63 - 1 := by decide
  have e3 : IntKind.i32.min = -2147483648 := by decide
  have e4 : IntKind.i32.max = 2147483647 := by decide
  rw [hx', hy', hz']
  exact bases_any b d c ⟨by omega, by omega⟩ ⟨c1, c2⟩ ⟨by omega, by omega⟩

set_option maxRecDepth 100000 in
theorem lifted (os : Os) (started : os.Started) (H : Type) (enc : TypeId × Value → H) :
    ReturnsInHanded {} Try.checked os 7 .any (Rows.cliteBasesSpec.pre6 enc Try.prog Try.f7 Rows.cliteBasesRow.domain false) (Rows.cliteBasesSpec.post enc Try.prog Try.f7 false true false false) := by
  refine lifted_gen (C := Try.checked) (fn := Try.f7) (s := Rows.cliteBasesSpec) (conds := Rows.cliteBasesRow.domain) (tb := 4) own started (by kernel_rfl) Try.func7
    (ChangeSpec.witness6 (enc := enc) (C := Try.checked) false ⟨#[], #[.int .i64 0, .int .u8 0, .int .i32 0], []⟩ 8 (by kernel_rfl) (by kernel_rfl) (by kernel_rfl) (by kernel_rfl))
    rfl (fun ds hl => ?_) (by kernel_rfl) Try.underlying4 [3, 5, 21] (by kernel_rfl) (of_decide_eq_true (by kernel_rfl)) (by kernel_rfl) (of_decide_eq_true (by kernel_rfl)) law handed
  match ds, hl with
  | [d0, d1, d2], _ => rfl

theorem over : Rows.cliteBasesRow.holds Try.pinned (OpenSpec.ofChange Rows.cliteBasesSpec) :=
  OpenClaim.holds_of_wide 7 Try.f7 rfl rfl rfl rfl rfl rfl rfl ⟨rfl, rfl, rfl, rfl, rfl⟩ rfl rfl rfl rfl rfl (by kernel_rfl) Try.func7 (by kernel_rfl)
    (of_decide_eq_true (by kernel_rfl)) (by unfold Func.isWrapper; first | (rw [if_pos (by decide +kernel)]; kernel_rfl) | (rw [if_neg (by decide +kernel)]; exact ⟨rfl, rfl⟩))
    (fun os started H enc _ => lifted os started H enc)

theorem proved : Rows.CliteBasesSaid :=
  over
#print axioms proved
end Go.Proofs.Ytepjjgnkhcjpcaa.cliteBases
