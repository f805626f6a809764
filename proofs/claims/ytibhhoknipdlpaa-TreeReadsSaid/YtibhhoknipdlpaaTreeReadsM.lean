/-
  Proved: the law TreeReads returns true at every input, and its arguments read afterwards as before. No condition.
-/
import Derived.Test.YtibhhoknipdlpaaRows
import Derived.WalkKit
import Derived.ProofKit
import Derived.OpenShut
import Derived.Test.YtibhhoknipdlpaaRdK12
namespace Go.Proofs.Ytibhhoknipdlpaa.treeReads
open Go Go.ChangeShapes Go.WideShapes Go.ChangeAt Go.RowKit Go.Proofs.Ytibhhoknipdlpaa
set_option linter.unusedVariables false

theorem own : ownKnob Try.prog.godebug = none := by kernel_rfl

set_option maxRecDepth 100000 in
theorem law (xs : List PV) (h : AllTy Try.prog [22, 23] xs) : ACalls Try.prog 3 xs M0 (fun v m' => v = .v (.bool true)) := by
  obtain ⟨x, r, rfl, ⟨n1, hx, hxa⟩, y, r2, rfl, ⟨n2, hy, hya⟩, rfl⟩ := h
  obtain ⟨l, hl, hn⟩ := bytes_of Try.underlying22 Try.underlying5 hx
  rw [if_neg (by simp [aggT, Try.underlying22])] at hxa
  have hx' : x = .sl .no (l.map pU) := by rw [hxa] at hn; simpa using hn
  rw [hx']
  exact treeReads_any l hl y M0

set_option maxRecDepth 100000 in
theorem lifted (os : Os) (started : os.Started) (H : Type) (enc : TypeId × Value → H) :
    ReturnsInHanded {} Try.checked os 3 .any (Rows.treeReadsSpec.pre6 enc Try.prog Try.f3 Rows.treeReadsRow.domain false) (Rows.treeReadsSpec.post enc Try.prog Try.f3 false true false false) := by
  refine lifted_gen (C := Try.checked) (fn := Try.f3) (s := Rows.treeReadsSpec) (conds := Rows.treeReadsRow.domain) (tb := 4) own started (by kernel_rfl) Try.func3
    (ChangeSpec.witness6 (enc := enc) (C := Try.checked) false ⟨#[], #[.slice none 0 0, .int .u16 0], []⟩ 8 (by kernel_rfl) (by kernel_rfl) (by kernel_rfl) (by kernel_rfl))
    rfl (fun ds hl => ?_) (by kernel_rfl) Try.underlying4 [22, 23, 5] (by kernel_rfl) (of_decide_eq_true (by kernel_rfl)) (by kernel_rfl) (of_decide_eq_true (by kernel_rfl)) law
  match ds, hl with
  | [d0, d1], _ => rfl

theorem over : Rows.treeReadsRow.holds Try.pinned (OpenSpec.ofChange Rows.treeReadsSpec) :=
  OpenClaim.holds_of_wide 3 Try.f3 rfl rfl rfl rfl rfl rfl rfl ⟨rfl, rfl, rfl, rfl, rfl⟩ rfl rfl rfl rfl rfl (by kernel_rfl) Try.func3 (by kernel_rfl)
    (of_decide_eq_true (by kernel_rfl)) (by unfold Func.isWrapper; first | (rw [if_pos (by decide +kernel)]; kernel_rfl) | (rw [if_neg (by decide +kernel)]; exact ⟨rfl, rfl⟩))
    (fun os started H enc _ => lifted os started H enc)

theorem proved : Rows.TreeReadsSaid :=
  over
#print axioms proved
end Go.Proofs.Ytibhhoknipdlpaa.treeReads
