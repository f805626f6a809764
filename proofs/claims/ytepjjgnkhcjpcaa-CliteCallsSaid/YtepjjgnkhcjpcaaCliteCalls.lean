/-
  Proved: the law CliteCalls returns true at every input, and its arguments read afterwards as before. No condition.
-/
import Derived.Test.YtepjjgnkhcjpcaaRows
import Derived.WalkKit
import Derived.ProofKit
import Derived.OpenShut
import Derived.Shelf.Vars
import Derived.Test.YtepjjgnkhcjpcaaCeG5
import Derived.Test.YtepjjgnkhcjpcaaAbInvB
namespace Go.Proofs.Ytepjjgnkhcjpcaa.cliteCalls
open Go Go.ChangeShapes Go.WideShapes Go.ChangeAt Go.RowKit Go.Proofs Go.Proofs.Ytepjjgnkhcjpcaa
set_option linter.unusedVariables false

theorem own : ownKnob Try.prog.godebug = none := by kernel_rfl

theorem handed (W : World) (h : W.ShapedOpen Try.prog) : ∀ q ∈ laidC, laidAt W q := fun q hq => by simp [laidC] at hq
set_option maxRecDepth 100000 in
theorem law (xs : List PV) (h : AllTy Try.prog [5, 4, 5] xs) : ACalls Try.prog 4 xs M0 (fun v m' => v = .v (.bool true)) := by
  obtain ⟨x, r, rfl, ⟨n, hx, hxa⟩, y, r2, rfl, ⟨n2, hy, hya⟩, z, r3, rfl, ⟨n3, hz, hza⟩, rfl⟩ := h
  have hu : aggT Try.prog 5 = false := by simp [aggT, Try.underlying5]
  have hb : aggT Try.prog 4 = false := by simp [aggT, Try.underlying4]
  rw [if_neg (by simp [hu])] at hxa
  rw [if_neg (by simp [hb])] at hya
  rw [if_neg (by simp [hu])] at hza
  obtain ⟨a, ha, a1, a2⟩ := u8_of Try.underlying5 hx
  obtain ⟨c, hc⟩ := bool_of Try.underlying4 hy
  obtain ⟨d, hd, d1, d2⟩ := u8_of Try.underlying5 hz
  have hx' : x = .v (.int .u8 a) := by rw [hxa] at ha; simpa using ha
  have hy' : y = .v (.bool c) := by rw [hya] at hc; simpa using hc
  have hz' : z = .v (.int .u8 d) := by rw [hza] at hd; simpa using hd
  rw [hx', hy', hz']
  exact calls_any a d c ⟨a1, a2⟩ ⟨d1, d2⟩

set_option maxRecDepth 100000 in
theorem lifted (os : Os) (started : os.Started) (H : Type) (enc : TypeId × Value → H) :
    ReturnsInHanded {} Try.checked os 4 .any (Rows.cliteCallsSpec.pre6 enc Try.prog Try.f4 Rows.cliteCallsRow.domain false) (Rows.cliteCallsSpec.post enc Try.prog Try.f4 false true false false) := by
  refine lifted_gen (C := Try.checked) (fn := Try.f4) (s := Rows.cliteCallsSpec) (conds := Rows.cliteCallsRow.domain) (tb := 4) own started (by kernel_rfl) Try.func4
    (ChangeSpec.witness6 (enc := enc) (C := Try.checked) false ⟨#[], #[.int .u8 0, .bool false, .int .u8 0], []⟩ 8 (by kernel_rfl) (by kernel_rfl) (by kernel_rfl) (by kernel_rfl))
    rfl (fun ds hl => ?_) (by kernel_rfl) Try.underlying4 [5, 4] (by kernel_rfl) (of_decide_eq_true (by kernel_rfl)) (by kernel_rfl) (of_decide_eq_true (by kernel_rfl)) law handed
  match ds, hl with
  | [d0, d1, d2], _ => rfl

theorem over : Rows.cliteCallsRow.holds Try.pinned (OpenSpec.ofChange Rows.cliteCallsSpec) :=
  OpenClaim.holds_of_wide 4 Try.f4 rfl rfl rfl rfl rfl rfl rfl ⟨rfl, rfl, rfl, rfl, rfl⟩ rfl rfl rfl rfl rfl (by kernel_rfl) Try.func4 (by kernel_rfl)
    (of_decide_eq_true (by kernel_rfl)) (by unfold Func.isWrapper; first | (rw [if_pos (by decide +kernel)]; kernel_rfl) | (rw [if_neg (by decide +kernel)]; exact ⟨rfl, rfl⟩))
    (fun os started H enc _ => lifted os started H enc)

theorem proved : Rows.CliteCallsSaid :=
  over
#print axioms proved
end Go.Proofs.Ytepjjgnkhcjpcaa.cliteCalls
