/-
  Proved: the law TreeVars returns true at every input, and its arguments read afterwards as before. No condition.
-/
import Derived.Test.YtibhhoknipdlpaaRows
import Derived.WalkKit
import Derived.ProofKit
import Derived.OpenShut
import Derived.Test.YtibhhoknipdlpaaAbVars
namespace Go.Proofs.Ytibhhoknipdlpaa.treeVars
open Go Go.ChangeShapes Go.WideShapes Go.ChangeAt Go.RowKit Go.Proofs.Ytibhhoknipdlpaa
set_option linter.unusedVariables false

theorem own : ownKnob Try.prog.godebug = none := by kernel_rfl

set_option maxRecDepth 100000 in
theorem law (xs : List PV) (h : AllTy Try.prog [52, 52] xs) : ACalls Try.prog 4 xs M0 (fun v m' => v = .v (.bool true)) := by
  obtain ⟨x, r, rfl, ⟨n, hx, hxa⟩, y, r2, rfl, ⟨n2, hy, hya⟩, rfl⟩ := h
  obtain ⟨a, ha⟩ := va_of hx
  obtain ⟨b, hb⟩ := va_of hy
  have hx' : x = a.pv := by rw [agg_of (P := Try.prog) (t := 52) Try.underlying52 hxa, ha]; rfl
  have hy' : y = b.pv := by rw [agg_of (P := Try.prog) (t := 52) Try.underlying52 hya, hb]; rfl
  rw [hx', hy']
  exact (treeVars_any a b M0).mono fun v m' h => h.1

def arg0 : Value := .agg #[.string ByteArray.empty, .int .u8 0, .string ByteArray.empty, .slice none 0 0, .bool false, .int .u8 0, .int .u8 0, .int .i32 0, .string ByteArray.empty, .slice none 0 0, .slice none 0 0, .int .i64 0, .int .i64 0, .int .i64 0, .int .i64 0]

set_option maxRecDepth 100000 in
theorem lifted (os : Os) (started : os.Started) (H : Type) (enc : TypeId × Value → H) :
    ReturnsInHanded {} Try.checked os 4 .any (Rows.treeVarsSpec.pre6 enc Try.prog Try.f4 Rows.treeVarsRow.domain false) (Rows.treeVarsSpec.post enc Try.prog Try.f4 false true false false) := by
  refine lifted_gen (C := Try.checked) (fn := Try.f4) (s := Rows.treeVarsSpec) (conds := Rows.treeVarsRow.domain) (tb := 4) own started (by kernel_rfl) Try.func4
    (ChangeSpec.witness6 (enc := enc) (C := Try.checked) false ⟨#[], #[arg0, arg0], []⟩ 8 (by kernel_rfl) (by kernel_rfl) (by kernel_rfl) (by kernel_rfl))
    rfl (fun ds hl => ?_) (by kernel_rfl) Try.underlying4 [52, 9, 49, 50, 4, 44, 37, 5, 63, 21, 41, 30, 3] (by kernel_rfl) (of_decide_eq_true (by kernel_rfl)) (by kernel_rfl) (of_decide_eq_true (by kernel_rfl)) law
  match ds, hl with
  | [d1, d2], _ => rfl

theorem over : Rows.treeVarsRow.holds Try.pinned (OpenSpec.ofChange Rows.treeVarsSpec) :=
  OpenClaim.holds_of_wide 4 Try.f4 rfl rfl rfl rfl rfl rfl rfl ⟨rfl, rfl, rfl, rfl, rfl⟩ rfl rfl rfl rfl rfl (by kernel_rfl) Try.func4 (by kernel_rfl)
    (of_decide_eq_true (by kernel_rfl)) (by unfold Func.isWrapper; first | (rw [if_pos (by decide +kernel)]; kernel_rfl) | (rw [if_neg (by decide +kernel)]; exact ⟨rfl, rfl⟩))
    (fun os started H enc _ => lifted os started H enc)

theorem proved : Rows.TreeVarsSaid :=
  over
#print axioms proved
end Go.Proofs.Ytibhhoknipdlpaa.treeVars
