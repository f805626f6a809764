/-
  Proved: the law TypesOperators returns true at every input, and its arguments read afterwards as before. Where the listed variable errors.errorType holds what the program's text lays there; the card ties it to that text.
-/
import Derived.Test.YticdboelpgalpaaDoorRows
import Derived.Test.YticdboelpgalpaaDoorTie
import Derived.Test.YticdboelpgalpaaDoorCards
import Derived.WalkKit
import Derived.ProofKit
import Derived.OpenShut
import Derived.SevenTiedAt
import Derived.Test.YticdboelpgalpaaDoorAbLaid
import Derived.Test.YticdboelpgalpaaDoorTyOpA
import Derived.Test.YticdboelpgalpaaDoorTyOpB
import Derived.Test.YticdboelpgalpaaDoorTyOpC
import Derived.Test.YticdboelpgalpaaDoorTyOpD
import Derived.Test.YticdboelpgalpaaDoorTyOpE
import Derived.Test.YticdboelpgalpaaDoorTyOpF
import Derived.Test.YticdboelpgalpaaDoorTyOpG
import Derived.Test.YticdboelpgalpaaDoorTyOpH
namespace Go.Proofs.YticdboelpgalpaaDoor.typesOperators
open Go Go.ChangeShapes Go.WideShapes Go.ChangeAt Go.RowKit Go.Proofs.YticdboelpgalpaaDoor
set_option linter.unusedVariables false

theorem own : ownKnob Tryd.prog.godebug = none := by kernel_rfl
theorem rt : (Tryd.prog.cutTypes.find? (·.1 == "internal/reflectlite.rtype")).map (·.2) = some 152 := by kernel_rfl
theorem oneRow : ((List.range Tryd.prog.types.size).filter fun t => Tryd.prog.rowNamed t [101, 114, 114, 111, 114]) = [37] := by kernel_rfl
theorem handle_of_laid (W : World) (h : laidMetH Tryd.prog Rows.typesOperatorsRow.laid W) : ∀ q ∈ laidC, W.cell? ⟨q.1, 0, none⟩ = some q.2 := by
  have h' : laidMet Tryd.prog [] W ∧ handlesMet Tryd.prog Rows.typesOperatorsRow.laid W := h
  obtain ⟨name, u, ty, e1, e2, e3, e4, e5⟩ := h'.2 _ (List.mem_singleton.2 rfl)
  have en : name = [101, 114, 114, 111, 114] := (Option.some.inj e1).symm
  subst en
  obtain rfl := Option.some.inj (rt.symm.trans e2)
  have hm : ty ∈ (List.range Tryd.prog.types.size).filter fun t => Tryd.prog.rowNamed t [101, 114, 114, 111, 114] := List.mem_filter.2 ⟨List.mem_range.2 e3, e4⟩
  rw [oneRow] at hm
  obtain rfl := List.mem_singleton.1 hm
  have hh : typeHandle Tryd.prog 37 = .pointer (some ⟨1, 37, none⟩) := by kernel_rfl
  rw [hh] at e5
  intro q hq
  simp only [laidC] at hq
  obtain rfl := List.mem_singleton.1 hq
  simpa using World.var?_cell (show Tryd.prog.globalNamed "errors.errorType" = some _ by kernel_rfl) e5 0

theorem u8_of {P : Program} {t : TypeId} (h : P.underlying t = some (.int .u8)) : ∀ {n : Nat} {p : List PV}, TyCs P n t p → ∃ i : Int, p = [.v (.int .u8 i)] ∧ 0 ≤ i ∧ i ≤ 255
  | 0, _, hh => hh.elim
  | n + 1, p, hh => by
    simp only [TyCs, h] at hh
    obtain ⟨i, h1, h2⟩ := hh
    simp only [Lit.wf, Bool.and_eq_true, decide_eq_true_eq] at h2
    have e1 : IntKind.u8.min = 0 := by decide
    have e2 : IntKind.u8.max = 255 := by decide
    rw [e1, e2] at h2
    exact ⟨i, h1, h2.1, h2.2⟩

theorem typesOperators_any (op a b : Int) (ho : 0 ≤ op ∧ op ≤ 255) (ha : 0 ≤ a ∧ a ≤ 255) (hb : 0 ≤ b ∧ b ≤ 255) : ACalls Tryd.prog 3 [.v (.int .u8 op), .v (.int .u8 a), .v (.int .u8 b)] M0 (fun v m' => v = .v (.bool true)) := by
  obtain ⟨k, hk, hk2⟩ : ∃ k : Int, op.tmod 14 = k ∧ 0 ≤ k ∧ k < 14 := ⟨_, rfl, by rw [Int.tmod_eq_emod_of_nonneg ho.1]; omega, by rw [Int.tmod_eq_emod_of_nonneg ho.1]; omega⟩
  obtain ⟨i, hi, hi2⟩ : ∃ i : Int, a.tmod 4 = i ∧ 0 ≤ i ∧ i < 4 := ⟨_, rfl, by rw [Int.tmod_eq_emod_of_nonneg ha.1]; omega, by rw [Int.tmod_eq_emod_of_nonneg ha.1]; omega⟩
  obtain ⟨j, hj, hj2⟩ : ∃ i : Int, b.tmod 4 = i ∧ 0 ≤ i ∧ i < 4 := ⟨_, rfl, by rw [Int.tmod_eq_emod_of_nonneg hb.1]; omega, by rw [Int.tmod_eq_emod_of_nonneg hb.1]; omega⟩
  have hk' : op.tmod 2 = k.tmod 2 := by
    rw [Int.tmod_eq_emod_of_nonneg ho.1] at hk ⊢
    rw [Int.tmod_eq_emod_of_nonneg hk2.1]
    omega
  have hi3 : i = 0 ∨ i = 1 ∨ i = 2 ∨ i = 3 := by omega
  have hj3 : j = 0 ∨ j = 1 ∨ j = 2 ∨ j = 3 := by omega
  rcases hi3 with rfl | rfl | rfl | rfl
  · rcases hj3 with rfl | rfl | rfl | rfl
    · exact tyop_0_0 op a b k hk hk' hk2 hi hj
    · exact tyop_0_1 op a b k hk hk' hk2 hi hj
    · exact tyop_0_2 op a b k hk hk' hk2 hi hj
    · exact tyop_0_3 op a b k hk hk' hk2 hi hj
  · rcases hj3 with rfl | rfl | rfl | rfl
    · exact tyop_1_0 op a b k hk hk' hk2 hi hj
    · exact tyop_1_1 op a b k hk hk' hk2 hi hj
    · exact tyop_1_2 op a b k hk hk' hk2 hi hj
    · exact tyop_1_3 op a b k hk hk' hk2 hi hj
  · rcases hj3 with rfl | rfl | rfl | rfl
    · exact tyop_2_0 op a b k hk hk' hk2 hi hj
    · exact tyop_2_1 op a b k hk hk' hk2 hi hj
    · exact tyop_2_2 op a b k hk hk' hk2 hi hj
    · exact tyop_2_3 op a b k hk hk' hk2 hi hj
  · rcases hj3 with rfl | rfl | rfl | rfl
    · exact tyop_3_0 op a b k hk hk' hk2 hi hj
    · exact tyop_3_1 op a b k hk hk' hk2 hi hj
    · exact tyop_3_2 op a b k hk hk' hk2 hi hj
    · exact tyop_3_3 op a b k hk hk' hk2 hi hj

set_option maxRecDepth 100000 in
theorem law (xs : List PV) (h : AllTy Tryd.prog [5, 5, 5] xs) : ACalls Tryd.prog 3 xs M0 (fun v m' => v = .v (.bool true)) := by
  obtain ⟨x, r, rfl, ⟨n, hx, hxa⟩, y, r2, rfl, ⟨n2, hy, hya⟩, z, r3, rfl, ⟨n3, hz, hza⟩, rfl⟩ := h
  have hn : aggT Tryd.prog 5 = false := by simp [aggT, Tryd.underlying5]
  rw [if_neg (by simp [hn])] at hxa hya hza
  obtain ⟨a, ha, a0, a1⟩ := u8_of Tryd.underlying5 hx
  obtain ⟨b, hb, b0, b1⟩ := u8_of Tryd.underlying5 hy
  obtain ⟨c, hc, c0, c1⟩ := u8_of Tryd.underlying5 hz
  have hx' : x = .v (.int .u8 a) := by rw [hxa] at ha; simpa using ha
  have hy' : y = .v (.int .u8 b) := by rw [hya] at hb; simpa using hb
  have hz' : z = .v (.int .u8 c) := by rw [hza] at hc; simpa using hc
  rw [hx', hy', hz']
  exact typesOperators_any a b c ⟨a0, a1⟩ ⟨b0, b1⟩ ⟨c0, c1⟩

set_option maxRecDepth 100000 in
theorem lifted (os : Os) (started : os.Started) (H : Type) (enc : TypeId × Value → H) :
    ReturnsInHanded {} Tryd.checked os 3 .any (fun w args => (Rows.typesOperatorsSpec.pre enc Tryd.prog Tryd.f3 Rows.typesOperatorsRow.domain false w args ∧ laidMetH Tryd.prog Rows.typesOperatorsRow.laid w) ∧ sizedMet enc Tryd.prog Tryd.f3 (OpenSpec.ofChange Rows.typesOperatorsSpec) false w args) (Rows.typesOperatorsSpec.post enc Tryd.prog Tryd.f3 false true false false) := by
  refine lifted_laid (C := Tryd.checked) (fn := Tryd.f3) (s := Rows.typesOperatorsSpec) (conds := Rows.typesOperatorsRow.domain) (laid := Rows.typesOperatorsRow.laid) (tb := 4) own started (by kernel_rfl) Tryd.func3
    (ChangeSpec.witness_at (enc := enc) (C := Tryd.checked) (os := os) (X := fun w _ => laidMetH Tryd.prog Rows.typesOperatorsRow.laid w) false
      { World.holding Tryd.prog os ⟨#[], #[], []⟩ with heap := (World.holding Tryd.prog os ⟨#[], #[], []⟩).heap.modify 0 fun
        | .cells _ t frozen => .cells #[.iface 152 (.agg #[.pointer (some ⟨1, 37, none⟩)])] t frozen
        | o => o }
      #[.int .u8 0, .int .u8 0, .int .u8 0] 8 rfl (by kernel_rfl) (by kernel_rfl) (by kernel_rfl) (by kernel_rfl) (by kernel_rfl) (laidMetH_of_parts (laidMet_nil _ _) (by kernel_rfl)))
    rfl (fun ds hl => ?_) (by kernel_rfl) Tryd.underlying4 [5, 4] (by kernel_rfl) (of_decide_eq_true (by kernel_rfl)) (by kernel_rfl) (of_decide_eq_true (by kernel_rfl)) law handle_of_laid
  match ds, hl with
  | [d0, d1, d2], _ => rfl

theorem over : Rows.TypesOperatorsSaid :=
  OpenClaim.holds_of_wide 3 Tryd.f3 rfl rfl rfl rfl rfl rfl rfl ⟨rfl, rfl, rfl, rfl, rfl⟩ rfl rfl rfl rfl rfl (by kernel_rfl) Tryd.func3 (by kernel_rfl)
    (of_decide_eq_true (by kernel_rfl)) (by unfold Func.isWrapper; first | (rw [if_pos (by decide +kernel)]; kernel_rfl) | (rw [if_neg (by decide +kernel)]; exact ⟨rfl, rfl⟩))
    (fun os started H enc _ => lifted os started H enc)

theorem standless : ∀ t ∈ Tryd.f3.params, Tryd.prog.wantsStandIn t = false := by
  have h : ∀ t ∈ ([5, 5, 5] : List TypeId), Tryd.prog.wantsStandIn t = false := fun t ht => by
    have hall : ([5, 5, 5] : List TypeId).all (fun t => !Tryd.prog.wantsStandIn t) = true := by kernel_rfl
    simpa using List.all_eq_true.1 hall t ht
  intro t ht
  refine h t ?_
  rw [Tryd.params3] at ht
  simpa using ht

theorem proved : Rows.TypesOperatorsCardSaid :=
  Claim7.holds_tied_plain_at .later [] [.handle] true (true, "4183b5a2132310a47e1b7f9d6bb70b8430ac81112932a41227ce6a94dba73576") true
    over (fun _ h => by cases h) (by kernel_rfl) (fun _ h => by cases h) typesOperators_row_tie rfl ⟨rfl, rfl⟩ (by kernel_rfl) rfl
    (fun f fn hf hfn => by
      obtain rfl : f = 3 := Option.some.inj ((show Tryd.prog.funcNamed "metronome/metronomelaw08.TypesOperators" = some 3 by kernel_rfl).symm.trans hf) |>.symm
      obtain rfl : fn = Tryd.f3 := (Option.some.inj (Tryd.func3.symm.trans hfn)).symm
      exact ⟨by kernel_rfl, fun j t ht => standless t (Array.mem_of_getElem? ht)⟩)
    (by kernel_rfl)
#print axioms proved
end Go.Proofs.YticdboelpgalpaaDoor.typesOperators
