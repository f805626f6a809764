/-
  Proved: the law TreeValues returns true at every input, and its arguments read afterwards as before. No condition.
-/
import Derived.Test.YtibhhoknipdlpaaRows
import Derived.WalkKit
import Derived.ProofKit
import Derived.OpenShut
import Derived.Test.YtibhhoknipdlpaaAbValues
import Derived.Test.YtibhhoknipdlpaaAbLaw
namespace Go.Proofs.Ytibhhoknipdlpaa.treeValues
open Go Go.ChangeShapes Go.WideShapes Go.ChangeAt Go.RowKit Go.Proofs.Ytibhhoknipdlpaa
set_option linter.unusedVariables false

theorem own : ownKnob Try.prog.godebug = none := by kernel_rfl

set_option maxRecDepth 100000 in
theorem law (xs : List PV) (h : AllTy Try.prog [44, 21, 4, 9] xs) : ACalls Try.prog 5 xs M0 (fun v m' => v = .v (.bool true)) := by
  obtain ⟨x, r, rfl, ⟨n1, hx, hxa⟩, y, r2, rfl, ⟨n2, hy, hya⟩, z, r3, rfl, ⟨n3, hz, hza⟩, u, r4, rfl, ⟨n4, hu, hua⟩, rfl⟩ := h
  obtain ⟨e, he⟩ := ex_of _ hx
  have hx' : x = e.pv := by rw [agg_of (P := Try.prog) (t := 44) Try.underlying44 hxa, he, e.pv_eq]
  obtain ⟨n, hn⟩ := int_of Try.underlying21 hy
  obtain ⟨b, hb⟩ := bool_of Try.underlying4 hz
  obtain ⟨s, hs⟩ := str_of Try.underlying9 hu
  rw [if_neg (by simp [aggT, Try.underlying21])] at hya
  rw [if_neg (by simp [aggT, Try.underlying4])] at hza
  rw [if_neg (by simp [aggT, Try.underlying9])] at hua
  have hy' : y = .v (.int .i32 n) := by rw [hya] at hn; simpa using hn
  have hz' : z = pB b := by rw [hza] at hb; simpa using hb
  have hu' : u = pS s := by rw [hua] at hs; simpa using hs
  rw [hx', hy', hz', hu']
  exact (treeValues_any e n b s M0).mono fun v m' h => h.1

set_option maxRecDepth 100000 in
theorem lifted (os : Os) (started : os.Started) (H : Type) (enc : TypeId × Value → H) :
    ReturnsInHanded {} Try.checked os 5 .any (Rows.treeValuesSpec.pre6 enc Try.prog Try.f5 Rows.treeValuesRow.domain false) (Rows.treeValuesSpec.post enc Try.prog Try.f5 false true false false) := by
  refine lifted_gen (C := Try.checked) (fn := Try.f5) (s := Rows.treeValuesSpec) (conds := Rows.treeValuesRow.domain) (tb := 4) own started (by kernel_rfl) Try.func5
    (ChangeSpec.witness6 (enc := enc) (C := Try.checked) false ⟨#[], #[.agg #[.int .u8 0, .int .u8 0, .int .i32 0, .string ByteArray.empty, .slice none 0 0, .slice none 0 0, .int .i64 0, .int .i64 0], .int .i32 0, .bool false, .string ByteArray.empty], []⟩ 8 (by kernel_rfl) (by kernel_rfl) (by kernel_rfl) (by kernel_rfl))
    rfl (fun ds hl => ?_) (by kernel_rfl) Try.underlying4 [44, 21, 4, 9, 5, 41, 30, 37, 3] (by kernel_rfl) (of_decide_eq_true (by kernel_rfl)) (by kernel_rfl) (of_decide_eq_true (by kernel_rfl)) law
  match ds, hl with
  | [d0, d1, d2, d3], _ => rfl

theorem over : Rows.treeValuesRow.holds Try.pinned (OpenSpec.ofChange Rows.treeValuesSpec) :=
  OpenClaim.holds_of_wide 5 Try.f5 rfl rfl rfl rfl rfl rfl rfl ⟨rfl, rfl, rfl, rfl, rfl⟩ rfl rfl rfl rfl rfl (by kernel_rfl) Try.func5 (by kernel_rfl)
    (of_decide_eq_true (by kernel_rfl)) (by unfold Func.isWrapper; first | (rw [if_pos (by decide +kernel)]; kernel_rfl) | (rw [if_neg (by decide +kernel)]; exact ⟨rfl, rfl⟩))
    (fun os started H enc _ => lifted os started H enc)

theorem proved : Rows.TreeValuesSaid :=
  over
#print axioms proved
end Go.Proofs.Ytibhhoknipdlpaa.treeValues
