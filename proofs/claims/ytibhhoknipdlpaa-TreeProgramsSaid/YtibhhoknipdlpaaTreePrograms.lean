/-
 Proved: the law TreePrograms returns true at every input, and its arguments read afterwards as before. No condition.
-/
-- halved
import Derived.Test.YtibhhoknipdlpaaRows
import Derived.WalkKit
import Derived.ProofKit
import Derived.OpenShut
import Derived.Shelf.Vars
import Derived.Test.YtibhhoknipdlpaaTpL
import Derived.Test.YtibhhoknipdlpaaAbInvB
namespace Go.Proofs.Ytibhhoknipdlpaa.treePrograms
open Go Go.ChangeShapes Go.WideShapes Go.ChangeAt Go.RowKit Go.Proofs Go.Proofs.Ytibhhoknipdlpaa
set_option linter.unusedVariables false

theorem own : ownKnob Try.prog.godebug = none := by kernel_rfl

theorem handed (W : World) (h : W.ShapedOpen Try.prog) : ∀ q ∈ laidC, laidAt W q := fun q hq => by simp [laidC] at hq
set_option maxRecDepth 100000 in
theorem law (xs : List PV) (h : AllTy Try.prog [22, 22, 23, 5] xs) : ACalls Try.prog 7 xs M0 (fun v m' => v = .v (.bool true)) := by
 obtain ⟨x, r, rfl, ⟨n, hx, hxa⟩, y, r2, rfl, ⟨n2, hy, hya⟩, u, r3, rfl, ⟨n3, hu, hua⟩, z, r4, rfl, ⟨n4, hz, hza⟩, rfl⟩ := h
 have hs : aggT Try.prog 22 = false := by simp [aggT, Try.underlying22]
 have h8 : aggT Try.prog 5 = false := by simp [aggT, Try.underlying5]
 have h16 : aggT Try.prog 23 = false := by simp [aggT, Try.underlying23]
 rw [if_neg (by simp [hs])] at hxa hya
 rw [if_neg (by simp [h8])] at hza
 rw [if_neg (by simp [h16])] at hua
 have e5 : IntKind.u16.min = 0 := by decide
 have e6 : IntKind.u16.max = 65535 := by decide
 obtain ⟨a, ha1, ha⟩ := bytes_of Try.underlying22 Try.underlying5 hx
 obtain ⟨b, hb1, hb⟩ := bytes_of Try.underlying22 Try.underlying5 hy
 obtain ⟨c, hc, c1, c2⟩ := u8_of Try.underlying5 hz
 obtain ⟨d, hd, d1, d2⟩ := intR_of Try.underlying23 hu
 have hx' : x = .sl .no (a.map pU) := by rw [hxa] at ha; exact (List.cons.inj ha).1
 have hy' : y = .sl .no (b.map pU) := by rw [hya] at hb; exact (List.cons.inj hb).1
 have hz' : z = .v (.int .u8 c) := by rw [hza] at hc; simpa using hc
 have hu' : u = .v (.int .u16 d) := by rw [hua] at hd; simpa using hd
 rw [hx', hy', hz', hu']
 exact programs_any a b ha1 hb1 d c ⟨by omega, by omega⟩ ⟨c1, c2⟩ M0

set_option maxRecDepth 100000 in
theorem lifted (os : Os) (started : os.Started) (H : Type) (enc : TypeId × Value → H) :
    ReturnsInHanded {} Try.checked os 7 .any (Rows.treeProgramsSpec.pre6 enc Try.prog Try.f7 Rows.treeProgramsRow.domain false) (Rows.treeProgramsSpec.post enc Try.prog Try.f7 false true false false) := by
 refine lifted_gen (C := Try.checked) (fn := Try.f7) (s := Rows.treeProgramsSpec) (conds := Rows.treeProgramsRow.domain) (tb := 4) own started (by kernel_rfl) Try.func7
  (ChangeSpec.witness6 (enc := enc) (C := Try.checked) false ⟨#[], #[.slice none 0 0, .slice none 0 0, .int .u16 0, .int .u8 0], []⟩ 8 (by kernel_rfl) (by kernel_rfl) (by kernel_rfl) (by kernel_rfl))
  rfl (fun ds hl => ?_) (by kernel_rfl) Try.underlying4 [22, 5, 23] (by kernel_rfl) (of_decide_eq_true (by kernel_rfl)) (by kernel_rfl) (of_decide_eq_true (by kernel_rfl)) law handed
 match ds, hl with
 | [d0, d1, d2, d3], _ => rfl

theorem over : Rows.treeProgramsRow.holds Try.pinned (OpenSpec.ofChange Rows.treeProgramsSpec) :=
 OpenClaim.holds_of_wide 7 Try.f7 rfl rfl rfl rfl rfl rfl rfl ⟨rfl, rfl, rfl, rfl, rfl⟩ rfl rfl rfl rfl rfl (by kernel_rfl) Try.func7 (by kernel_rfl)
  (of_decide_eq_true (by kernel_rfl)) (by unfold Func.isWrapper; first | (rw [if_pos (by decide +kernel)]; kernel_rfl) | (rw [if_neg (by decide +kernel)]; exact ⟨rfl, rfl⟩))
  (fun os started H enc _ => lifted os started H enc)

theorem proved : Rows.TreeProgramsSaid :=
 over
#print axioms proved
end Go.Proofs.Ytibhhoknipdlpaa.treePrograms
