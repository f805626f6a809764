/-
  Proved: the law CliteRuns returns true at every input, and its arguments read afterwards as before. No condition.
-/
import Derived.Test.YtepjjgnkhcjpcaaRows
import Derived.WalkKit
import Derived.ProofKit
import Derived.OpenShut
import Derived.Shelf.Vars
import Derived.Test.YtepjjgnkhcjpcaaCeG8
import Derived.Test.YtepjjgnkhcjpcaaAbInvB
namespace Go.Proofs.Ytepjjgnkhcjpcaa.cliteRuns
open Go Go.ChangeShapes Go.WideShapes Go.ChangeAt Go.RowKit Go.Proofs Go.Proofs.Ytepjjgnkhcjpcaa
set_option linter.unusedVariables false

theorem own : ownKnob Try.prog.godebug = none := by kernel_rfl

theorem handed (W : World) (h : W.ShapedOpen Try.prog) : ∀ q ∈ laidC, laidAt W q := fun q hq => by simp [laidC] at hq
set_option maxRecDepth 100000 in
theorem law (xs : List PV) (h : AllTy Try.prog [22, 56, 5, 64] xs) : ACalls Try.prog 6 xs M0 (fun v m' => v = .v (.bool true)) := by
  obtain ⟨x, r, rfl, ⟨n, hx, hxa⟩, y, r2, rfl, ⟨n2, hy, hya⟩, z, r3, rfl, ⟨n3, hz, hza⟩, u, r4, rfl, ⟨n4, hu, hua⟩, rfl⟩ := h
  have hs : aggT Try.prog 22 = false := by simp [aggT, Try.underlying22]
  have hi : aggT Try.prog 56 = false := by simp [aggT, Try.underlying56]
  have h8 : aggT Try.prog 5 = false := by simp [aggT, Try.underlying5]
  have h16 : aggT Try.prog 64 = false := by simp [aggT, Try.underlying64]
  have h32 : aggT Try.prog 21 = false := by simp [aggT, Try.underlying21]
  rw [if_neg (by simp [hs])] at hxa
  rw [if_neg (by simp [hi])] at hya
  rw [if_neg (by simp [h8])] at hza
  rw [if_neg (by simp [h16])] at hua
  have e3 : IntKind.i32.min = -2147483648 := by decide
  have e4 : IntKind.i32.max = 2147483647 := by decide
  have e5 : IntKind.u16.min = 0 := by decide
  have e6 : IntKind.u16.max = 65535 := by decide
  obtain ⟨a, ha1, ha⟩ := bytes_of Try.underlying22 Try.underlying5 hx
  obtain ⟨b, hb⟩ := slice_of (α := { i : Int // R32 i }) Try.underlying56 (fun i => pJ i.1) (fun m _ w hw hwa => by
    rw [if_neg (by simp [h32])] at hwa
    obtain ⟨i, hi1, i1, i2⟩ := intR_of Try.underlying21 hw
    exact ⟨⟨i, by unfold R32; omega⟩, by rw [hwa] at hi1; simpa using hi1⟩) hy
  obtain ⟨c, hc, c1, c2⟩ := u8_of Try.underlying5 hz
  obtain ⟨d, hd, d1, d2⟩ := intR_of Try.underlying64 hu
  have hx' : x = .sl .no (a.map pU) := by rw [hxa] at ha; exact (List.cons.inj ha).1
  have hy' : y = .sl .no ((b.map Subtype.val).map pJ) := by rw [hya] at hb; rw [List.map_map]; exact (List.cons.inj hb).1
  have hz' : z = .v (.int .u8 c) := by rw [hza] at hc; simpa using hc
  have hu' : u = .v (.int .u16 d) := by rw [hua] at hd; simpa using hd
  rw [hx', hy', hz', hu']
  exact runs_any a (b.map Subtype.val) c d ha1 (fun i hi => by obtain ⟨q, _, rfl⟩ := List.mem_map.1 hi; exact q.2) ⟨c1, c2⟩ ⟨by omega, by omega⟩

set_option maxRecDepth 100000 in
theorem lifted (os : Os) (started : os.Started) (H : Type) (enc : TypeId × Value → H) :
    ReturnsInHanded {} Try.checked os 6 .any (Rows.cliteRunsSpec.pre6 enc Try.prog Try.f6 Rows.cliteRunsRow.domain false) (Rows.cliteRunsSpec.post enc Try.prog Try.f6 false true false false) := by
  refine lifted_gen (C := Try.checked) (fn := Try.f6) (s := Rows.cliteRunsSpec) (conds := Rows.cliteRunsRow.domain) (tb := 4) own started (by kernel_rfl) Try.func6
    (ChangeSpec.witness6 (enc := enc) (C := Try.checked) false ⟨#[], #[.slice none 0 0, .slice none 0 0, .int .u8 0, .int .u16 0], []⟩ 8 (by kernel_rfl) (by kernel_rfl) (by kernel_rfl) (by kernel_rfl))
    rfl (fun ds hl => ?_) (by kernel_rfl) Try.underlying4 [22, 5, 56, 21, 64] (by kernel_rfl) (of_decide_eq_true (by kernel_rfl)) (by kernel_rfl) (of_decide_eq_true (by kernel_rfl)) law handed
  match ds, hl with
  | [d0, d1, d2, d3], _ => rfl

theorem over : Rows.cliteRunsRow.holds Try.pinned (OpenSpec.ofChange Rows.cliteRunsSpec) :=
  OpenClaim.holds_of_wide 6 Try.f6 rfl rfl rfl rfl rfl rfl rfl ⟨rfl, rfl, rfl, rfl, rfl⟩ rfl rfl rfl rfl rfl (by kernel_rfl) Try.func6 (by kernel_rfl)
    (of_decide_eq_true (by kernel_rfl)) (by unfold Func.isWrapper; first | (rw [if_pos (by decide +kernel)]; kernel_rfl) | (rw [if_neg (by decide +kernel)]; exact ⟨rfl, rfl⟩))
    (fun os started H enc _ => lifted os started H enc)

theorem proved : Rows.CliteRunsSaid :=
  over
#print axioms proved
end Go.Proofs.Ytepjjgnkhcjpcaa.cliteRuns
