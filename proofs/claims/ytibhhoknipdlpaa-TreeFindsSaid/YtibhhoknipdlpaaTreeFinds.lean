/-
  Proved: the law TreeFinds returns true at every input, and its arguments read afterwards as before. No condition.
-/
import Derived.Test.YtibhhoknipdlpaaRows
import Derived.WalkKit
import Derived.ProofKit
import Derived.OpenShut
import Derived.Test.YtibhhoknipdlpaaAbFinds
import Derived.Test.YtibhhoknipdlpaaAbInv
import Derived.Test.YtibhhoknipdlpaaAbLaw
namespace Go.Proofs.Ytibhhoknipdlpaa.treeFinds
open Go Go.ChangeShapes Go.WideShapes Go.ChangeAt Go.RowKit Go.Proofs.Ytibhhoknipdlpaa
set_option linter.unusedVariables false

theorem own : ownKnob Try.prog.godebug = none := by kernel_rfl

set_option maxRecDepth 100000 in
theorem law (xs : List PV) (h : AllTy Try.prog [41, 66, 9, 5] xs) : ACalls Try.prog 6 xs M0 (fun v m' => v = .v (.bool true)) := by
  obtain ⟨x, r, rfl, ⟨n1, hx, hxa⟩, y, r2, rfl, ⟨n2, hy, hya⟩, z, r3, rfl, ⟨n3, hz, hza⟩, u, r4, rfl, ⟨n4, hu, hua⟩, rfl⟩ := h
  obtain ⟨names, hn⟩ := strs_of Try.underlying41 Try.underlying9 hx
  obtain ⟨ctors, hc⟩ := slice_of Try.underlying66 pSs (fun m _ x hx hi => by
    obtain ⟨l, hl⟩ := strs_of Try.underlying41 Try.underlying9 hx
    rw [if_neg (by simp [aggT, Try.underlying41])] at hi
    rw [hi] at hl
    exact ⟨l, by simpa [pSs] using hl⟩) hy
  obtain ⟨s, hs⟩ := str_of Try.underlying9 hz
  obtain ⟨k, hk⟩ := int_of Try.underlying5 hu
  rw [if_neg (by simp [aggT, Try.underlying41])] at hxa
  rw [if_neg (by simp [aggT, Try.underlying66])] at hya
  rw [if_neg (by simp [aggT, Try.underlying9])] at hza
  rw [if_neg (by simp [aggT, Try.underlying5])] at hua
  have hx' : x = .sl .no (names.map pS) := by rw [hxa] at hn; simpa using hn
  have hy' : y = .sl .no (ctors.map pSs) := by rw [hya] at hc; simpa using hc
  have hz' : z = pS s := by rw [hza] at hs; simpa using hs
  have hu' : u = .v (.int .u8 k) := by rw [hua] at hk; simpa using hk
  rw [hx', hy', hz', hu']
  exact (treeFinds_any names ctors s k M0).mono fun v m' h => h.1

set_option maxRecDepth 100000 in
theorem lifted (os : Os) (started : os.Started) (H : Type) (enc : TypeId × Value → H) :
    ReturnsInHanded {} Try.checked os 6 .any (Rows.treeFindsSpec.pre6 enc Try.prog Try.f6 Rows.treeFindsRow.domain false) (Rows.treeFindsSpec.post enc Try.prog Try.f6 false true false false) := by
  refine lifted_gen (C := Try.checked) (fn := Try.f6) (s := Rows.treeFindsSpec) (conds := Rows.treeFindsRow.domain) (tb := 4) own started (by kernel_rfl) Try.func6
    (ChangeSpec.witness6 (enc := enc) (C := Try.checked) false ⟨#[], #[.slice none 0 0, .slice none 0 0, .string ByteArray.empty, .int .u8 0], []⟩ 8 (by kernel_rfl) (by kernel_rfl) (by kernel_rfl) (by kernel_rfl))
    rfl (fun ds hl => ?_) (by kernel_rfl) Try.underlying4 [41, 66, 9, 5] (by kernel_rfl) (of_decide_eq_true (by kernel_rfl)) (by kernel_rfl) (of_decide_eq_true (by kernel_rfl)) law
  match ds, hl with
  | [d0, d1, d2, d3], _ => rfl

theorem over : Rows.treeFindsRow.holds Try.pinned (OpenSpec.ofChange Rows.treeFindsSpec) :=
  OpenClaim.holds_of_wide 6 Try.f6 rfl rfl rfl rfl rfl rfl rfl ⟨rfl, rfl, rfl, rfl, rfl⟩ rfl rfl rfl rfl rfl (by kernel_rfl) Try.func6 (by kernel_rfl)
    (of_decide_eq_true (by kernel_rfl)) (by unfold Func.isWrapper; first | (rw [if_pos (by decide +kernel)]; kernel_rfl) | (rw [if_neg (by decide +kernel)]; exact ⟨rfl, rfl⟩))
    (fun os started H enc _ => lifted os started H enc)

theorem proved : Rows.TreeFindsSaid :=
  over
#print axioms proved
end Go.Proofs.Ytibhhoknipdlpaa.treeFinds
