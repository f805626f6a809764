/-
  Proved: the law CausesChains returns true at every input, and its arguments read afterwards as before. Where the listed variable errors.errorType holds what the program's text lays there; the card ties it to that text.
-/
import Derived.Test.YtaealemhegdmpaaDoorRows
import Derived.Test.YtaealemhegdmpaaDoorTie
import Derived.Test.YtaealemhegdmpaaDoorCards
import Derived.WalkKit
import Derived.ProofKit
import Derived.OpenShut
import Derived.SevenTiedAt
import Derived.Shelf.Vars
import Derived.Test.YtaealemhegdmpaaDoorLwA
import Derived.Test.YtaealemhegdmpaaDoorCrZ
namespace Go.Proofs.YtaealemhegdmpaaDoor.causesChains
open Go Go.ChangeShapes Go.WideShapes Go.ChangeAt Go.RowKit Go.Proofs Go.Proofs.YtaealemhegdmpaaDoor
set_option linter.unusedVariables false

theorem own : ownKnob Tryd.prog.godebug = none := by kernel_rfl
theorem rt : (Tryd.prog.cutTypes.find? (·.1 == "internal/reflectlite.rtype")).map (·.2) = some 133 := by kernel_rfl
theorem oneRow : ((List.range Tryd.prog.types.size).filter fun t => Tryd.prog.rowNamed t [101, 114, 114, 111, 114]) = [31] := by kernel_rfl
theorem handle_of_laid (W : World) (h : laidMetH Tryd.prog Rows.causesChainsRow.laid W) (hs : W.ShapedOpen Tryd.prog) : ∀ q ∈ laidC, laidAt W q := by
  have h' : laidMet Tryd.prog [] W ∧ handlesMet Tryd.prog Rows.causesChainsRow.laid W := h
  obtain ⟨name, u, ty, e1, e2, e3, e4, e5⟩ := h'.2 _ (List.mem_singleton.2 rfl)
  have en : name = [101, 114, 114, 111, 114] := (Option.some.inj e1).symm
  subst en
  obtain rfl := Option.some.inj (rt.symm.trans e2)
  have hm : ty ∈ (List.range Tryd.prog.types.size).filter fun t => Tryd.prog.rowNamed t [101, 114, 114, 111, 114] := List.mem_filter.2 ⟨List.mem_range.2 e3, e4⟩
  rw [oneRow] at hm
  obtain rfl := List.mem_singleton.1 hm
  have hh : typeHandle Tryd.prog 31 = .pointer (some ⟨1, 31, none⟩) := by kernel_rfl
  rw [hh] at e5
  intro q hq
  simp only [laidC, List.mem_cons, List.not_mem_nil, or_false] at hq
  subst hq
  refine ⟨_, ?_, rfl⟩
  simpa using World.var?_cell (show Tryd.prog.globalNamed "errors.errorType" = some _ by kernel_rfl) e5 0

set_option maxRecDepth 100000 in
theorem law (xs : List PV) (h : AllTy Tryd.prog [22, 23] xs) : ACalls Tryd.prog 3 xs M0 (fun v m' => v = .v (.bool true)) := by
  obtain ⟨x, r, rfl, ⟨n, hx, hxa⟩, y, r2, rfl, ⟨n2, hy, hya⟩, rfl⟩ := h
  have hu : aggT Tryd.prog 22 = false := by simp [aggT, Tryd.underlying22]
  have hb : aggT Tryd.prog 23 = false := by simp [aggT, Tryd.underlying23]
  rw [if_neg (by simp [hu])] at hxa
  rw [if_neg (by simp [hb])] at hya
  obtain ⟨a, ha1, ha⟩ := bytes_of Tryd.underlying22 Tryd.underlying5 hx
  obtain ⟨b, hb2⟩ := bools_of Tryd.underlying23 Tryd.underlying4 hy
  have hx' : x = .sl .no (a.map chU) := by rw [hxa] at ha; exact (List.cons.inj ha).1
  have hy' : y = .sl .no (b.map pB) := by rw [hya] at hb2; exact (List.cons.inj hb2).1
  subst hx' hy'
  exact chainsLaw_any a ha1 b

set_option maxRecDepth 100000 in
theorem lifted (os : Os) (started : os.Started) (H : Type) (enc : TypeId × Value → H) :
    ReturnsInHanded {} Tryd.checked os 3 .any (fun w args => (Rows.causesChainsSpec.pre enc Tryd.prog Tryd.f3 Rows.causesChainsRow.domain false w args ∧ laidMetH Tryd.prog Rows.causesChainsRow.laid w) ∧ sizedMet enc Tryd.prog Tryd.f3 (OpenSpec.ofChange Rows.causesChainsSpec) false w args) (Rows.causesChainsSpec.post enc Tryd.prog Tryd.f3 false true false false) := by
  refine lifted_laid (C := Tryd.checked) (fn := Tryd.f3) (s := Rows.causesChainsSpec) (conds := Rows.causesChainsRow.domain) (laid := Rows.causesChainsRow.laid) (tb := 4) own started (by kernel_rfl) Tryd.func3
    (ChangeSpec.witness_at (enc := enc) (C := Tryd.checked) (os := os) (X := fun w _ => laidMetH Tryd.prog Rows.causesChainsRow.laid w) false
      { World.holding Tryd.prog os ⟨#[], #[], []⟩ with heap := (World.holding Tryd.prog os ⟨#[], #[], []⟩).heap.modify 0 fun
        | .cells _ t frozen => .cells #[.iface 133 (.agg #[.pointer (some ⟨1, 31, none⟩)])] t frozen
        | o => o }
      #[.slice none 0 0, .slice none 0 0] 8 rfl (by kernel_rfl) (by kernel_rfl) (by kernel_rfl) (by kernel_rfl) (by kernel_rfl) (laidMetH_of_parts (laidMet_nil _ _) (by kernel_rfl)))
    rfl (fun ds hl => ?_) (by kernel_rfl) Tryd.underlying4 [22, 5, 23, 4] (by kernel_rfl) (of_decide_eq_true (by kernel_rfl)) (by kernel_rfl) (of_decide_eq_true (by kernel_rfl)) law handle_of_laid
  match ds, hl with
  | [d0, d1], _ => rfl

theorem over : Rows.CausesChainsSaid :=
  OpenClaim.holds_of_wide 3 Tryd.f3 rfl rfl rfl rfl rfl rfl rfl ⟨rfl, rfl, rfl, rfl, rfl⟩ rfl rfl rfl rfl rfl (by kernel_rfl) Tryd.func3 (by kernel_rfl)
    (of_decide_eq_true (by kernel_rfl)) (by unfold Func.isWrapper; first | (rw [if_pos (by decide +kernel)]; kernel_rfl) | (rw [if_neg (by decide +kernel)]; exact ⟨rfl, rfl⟩))
    (fun os started H enc _ => lifted os started H enc)

theorem standless : ∀ t ∈ Tryd.f3.params, Tryd.prog.wantsStandIn t = false := by
  have h : ∀ t ∈ ([22, 23] : List TypeId), Tryd.prog.wantsStandIn t = false := fun t ht => by
    have hall : ([22, 23] : List TypeId).all (fun t => !Tryd.prog.wantsStandIn t) = true := by kernel_rfl
    simpa using List.all_eq_true.1 hall t ht
  intro t ht
  refine h t ?_
  rw [Tryd.params3] at ht
  simpa using ht

theorem proved : Rows.CausesChainsCardSaid :=
  Claim7.holds_tied_plain_at .later [] [.handle] true (true, "44503939243134e8f98086b0f81026e7404318471fe20baf97fe201ce854790a") true
    over (fun _ h => by cases h) (by kernel_rfl) (fun _ h => by cases h) causesChains_row_tie rfl ⟨rfl, rfl⟩ (by kernel_rfl) rfl
    (fun f fn hf hfn => by
      obtain rfl : f = 3 := Option.some.inj ((show Tryd.prog.funcNamed "metronome/metronomelaw11.CausesChains" = some 3 by kernel_rfl).symm.trans hf) |>.symm
      obtain rfl : fn = Tryd.f3 := (Option.some.inj (Tryd.func3.symm.trans hfn)).symm
      exact ⟨by kernel_rfl, fun j t ht => standless t (Array.mem_of_getElem? ht)⟩)
    (by kernel_rfl)
#print axioms proved
end Go.Proofs.YtaealemhegdmpaaDoor.causesChains
