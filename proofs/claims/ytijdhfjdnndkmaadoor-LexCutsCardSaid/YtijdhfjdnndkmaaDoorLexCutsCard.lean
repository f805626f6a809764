/-
  Proved: the law LexCuts returns true at every input, and its arguments read afterwards as before. Where the listed variable errors.errorType holds what the program's text lays there; the card ties it to that text.
-/
import Derived.Test.YtijdhfjdnndkmaaDoorRows
import Derived.Test.YtijdhfjdnndkmaaDoorTie
import Derived.Test.YtijdhfjdnndkmaaDoorCards
import Derived.WalkKit
import Derived.ProofKit
import Derived.OpenShut
import Derived.SevenTiedAt
import Derived.Shelf.Vars
import Derived.Test.YtijdhfjdnndkmaaDoorAbLaid
import Derived.Test.YtijdhfjdnndkmaaDoorLxCut
namespace Go.Proofs.YtijdhfjdnndkmaaDoor.lexCuts
open Go Go.ChangeShapes Go.WideShapes Go.ChangeAt Go.RowKit Go.Proofs Go.Proofs.YtijdhfjdnndkmaaDoor
set_option linter.unusedVariables false

theorem own : ownKnob Tryd.prog.godebug = none := by kernel_rfl
theorem rt : (Tryd.prog.cutTypes.find? (·.1 == "internal/reflectlite.rtype")).map (·.2) = some 74 := by kernel_rfl
theorem oneRow : ((List.range Tryd.prog.types.size).filter fun t => Tryd.prog.rowNamed t [101, 114, 114, 111, 114]) = [27] := by kernel_rfl
theorem handle_of_laid (W : World) (h : laidMetH Tryd.prog Rows.lexCutsRow.laid W) (hs : W.ShapedOpen Tryd.prog) : ∀ q ∈ laidC, laidAt W q := by
  have h' : laidMet Tryd.prog [] W ∧ handlesMet Tryd.prog Rows.lexCutsRow.laid W := h
  obtain ⟨name, u, ty, e1, e2, e3, e4, e5⟩ := h'.2 _ (List.mem_singleton.2 rfl)
  have en : name = [101, 114, 114, 111, 114] := (Option.some.inj e1).symm
  subst en
  obtain rfl := Option.some.inj (rt.symm.trans e2)
  have hm : ty ∈ (List.range Tryd.prog.types.size).filter fun t => Tryd.prog.rowNamed t [101, 114, 114, 111, 114] := List.mem_filter.2 ⟨List.mem_range.2 e3, e4⟩
  rw [oneRow] at hm
  obtain rfl := List.mem_singleton.1 hm
  have hh : typeHandle Tryd.prog 27 = .pointer (some ⟨2, 27, none⟩) := by kernel_rfl
  rw [hh] at e5
  intro q hq
  simp only [laidC, List.mem_cons, List.not_mem_nil, or_false] at hq
  rcases hq with rfl | rfl
  case inr =>
    obtain ⟨n, hn⟩ := cell_of_shapedOpen_int (P := Tryd.prog) (g := 1) (t := 3) (zero := #[.int .i64 0]) hs (of_decide_eq_true (by kernel_rfl)) (by kernel_rfl) rfl (by kernel_rfl) (by kernel_rfl) Tryd.underlying3
    exact ⟨_, hn, n, rfl⟩
  refine ⟨_, ?_, rfl⟩
  simpa using World.var?_cell (show Tryd.prog.globalNamed "errors.errorType" = some _ by kernel_rfl) e5 0

set_option maxRecDepth 100000 in
theorem law (xs : List PV) (h : AllTy Tryd.prog [9, 9] xs) : ACalls Tryd.prog 5 xs M0 (fun v m' => v = .v (.bool true)) := by
  obtain ⟨x, r, rfl, ⟨n, hx, hxa⟩, y, r2, rfl, ⟨n2, hy, hya⟩, rfl⟩ := h
  have hs : aggT Tryd.prog 9 = false := by simp [aggT, Tryd.underlying9]
  rw [if_neg (by simp [hs])] at hxa hya
  obtain ⟨a, ha⟩ := str_of Tryd.underlying9 hx
  obtain ⟨b, hb⟩ := str_of Tryd.underlying9 hy
  have hx' : x = .v (.string a) := by rw [hxa] at ha; simpa using ha
  have hy' : y = .v (.string b) := by rw [hya] at hb; simpa using hb
  rw [hx', hy']
  exact cuts_any a b

set_option maxRecDepth 100000 in
theorem lifted (os : Os) (started : os.Started) (H : Type) (enc : TypeId × Value → H) :
    ReturnsInHanded {} Tryd.checked os 5 .any (fun w args => (Rows.lexCutsSpec.pre enc Tryd.prog Tryd.f5 Rows.lexCutsRow.domain false w args ∧ laidMetH Tryd.prog Rows.lexCutsRow.laid w) ∧ sizedMet enc Tryd.prog Tryd.f5 (OpenSpec.ofChange Rows.lexCutsSpec) false w args) (Rows.lexCutsSpec.post enc Tryd.prog Tryd.f5 false true false false) := by
  refine lifted_laid (C := Tryd.checked) (fn := Tryd.f5) (s := Rows.lexCutsSpec) (conds := Rows.lexCutsRow.domain) (laid := Rows.lexCutsRow.laid) (tb := 4) own started (by kernel_rfl) Tryd.func5
    (ChangeSpec.witness_at (enc := enc) (C := Tryd.checked) (os := os) (X := fun w _ => laidMetH Tryd.prog Rows.lexCutsRow.laid w) false
      { World.holding Tryd.prog os ⟨#[], #[], []⟩ with heap := (World.holding Tryd.prog os ⟨#[], #[], []⟩).heap.modify 0 fun
        | .cells _ t frozen => .cells #[.iface 74 (.agg #[.pointer (some ⟨2, 27, none⟩)])] t frozen
        | o => o }
      #[.string ⟨#[]⟩, .string ⟨#[]⟩] 8 rfl (by kernel_rfl) (by kernel_rfl) (by kernel_rfl) (by kernel_rfl) (by kernel_rfl) (laidMetH_of_parts (laidMet_nil _ _) (by kernel_rfl)))
    rfl (fun ds hl => ?_) (by kernel_rfl) Tryd.underlying4 [9] (by kernel_rfl) (of_decide_eq_true (by kernel_rfl)) (by kernel_rfl) (of_decide_eq_true (by kernel_rfl)) law handle_of_laid
  match ds, hl with
  | [d0, d1], _ => rfl

theorem over : Rows.LexCutsSaid :=
  OpenClaim.holds_of_wide 5 Tryd.f5 rfl rfl rfl rfl rfl rfl rfl ⟨rfl, rfl, rfl, rfl, rfl⟩ rfl rfl rfl rfl rfl (by kernel_rfl) Tryd.func5 (by kernel_rfl)
    (of_decide_eq_true (by kernel_rfl)) (by unfold Func.isWrapper; first | (rw [if_pos (by decide +kernel)]; kernel_rfl) | (rw [if_neg (by decide +kernel)]; exact ⟨rfl, rfl⟩))
    (fun os started H enc _ => lifted os started H enc)

theorem standless : ∀ t ∈ Tryd.f5.params, Tryd.prog.wantsStandIn t = false := by
  have h : ∀ t ∈ ([9, 9] : List TypeId), Tryd.prog.wantsStandIn t = false := fun t ht => by
    have hall : ([9, 9] : List TypeId).all (fun t => !Tryd.prog.wantsStandIn t) = true := by kernel_rfl
    simpa using List.all_eq_true.1 hall t ht
  intro t ht
  refine h t ?_
  rw [Tryd.params5] at ht
  simpa using ht

theorem proved : Rows.LexCutsCardSaid :=
  Claim7.holds_tied_plain_at .later [] [.handle] true (true, "f7fe81f5debdbaa37a70564e6000e46a71b42d42ca0f977bf1ac604b0816dcfb") true
    over (fun _ h => by cases h) (by kernel_rfl) (fun _ h => by cases h) lexCuts_row_tie rfl ⟨rfl, rfl⟩ (by kernel_rfl) rfl
    (fun f fn hf hfn => by
      obtain rfl : f = 5 := Option.some.inj ((show Tryd.prog.funcNamed "metronome/metronomelaw03.LexCuts" = some 5 by kernel_rfl).symm.trans hf) |>.symm
      obtain rfl : fn = Tryd.f5 := (Option.some.inj (Tryd.func5.symm.trans hfn)).symm
      exact ⟨by kernel_rfl, fun j t ht => standless t (Array.mem_of_getElem? ht)⟩)
    (by kernel_rfl)
#print axioms proved
end Go.Proofs.YtijdhfjdnndkmaaDoor.lexCuts
