/-
  Proved: the law FaultsFirst returns true at every input, and its arguments read afterwards as before. Where the listed variable errors.errorType holds what the program's text lays there; the card ties it to that text.
-/
import Derived.Test.YtofnlkogpljmmaaDoorRows
import Derived.Test.YtofnlkogpljmmaaDoorTie
import Derived.Test.YtofnlkogpljmmaaDoorCards
import Derived.WalkKit
import Derived.ProofKit
import Derived.OpenShut
import Derived.SevenTiedAt
import Derived.Test.YtofnlkogpljmmaaDoorAbLaid
import Derived.Test.YtofnlkogpljmmaaDoorFlt5
namespace Go.Proofs.YtofnlkogpljmmaaDoor.faultsFirst
open Go Go.ChangeShapes Go.WideShapes Go.ChangeAt Go.RowKit Go.Proofs.YtofnlkogpljmmaaDoor
set_option linter.unusedVariables false

theorem own : ownKnob Tryd.prog.godebug = none := by kernel_rfl
theorem rt : (Tryd.prog.cutTypes.find? (·.1 == "internal/reflectlite.rtype")).map (·.2) = some 74 := by kernel_rfl
theorem oneRow : ((List.range Tryd.prog.types.size).filter fun t => Tryd.prog.rowNamed t [101, 114, 114, 111, 114]) = [24] := by kernel_rfl
theorem handle_of_laid (W : World) (h : laidMetH Tryd.prog Rows.faultsFirstRow.laid W) : ∀ q ∈ laidC, W.cell? ⟨q.1, 0, none⟩ = some q.2 := by
  have h' : laidMet Tryd.prog [] W ∧ handlesMet Tryd.prog Rows.faultsFirstRow.laid W := h
  obtain ⟨name, u, ty, e1, e2, e3, e4, e5⟩ := h'.2 _ (List.mem_singleton.2 rfl)
  have en : name = [101, 114, 114, 111, 114] := (Option.some.inj e1).symm
  subst en
  obtain rfl := Option.some.inj (rt.symm.trans e2)
  have hm : ty ∈ (List.range Tryd.prog.types.size).filter fun t => Tryd.prog.rowNamed t [101, 114, 114, 111, 114] := List.mem_filter.2 ⟨List.mem_range.2 e3, e4⟩
  rw [oneRow] at hm
  obtain rfl := List.mem_singleton.1 hm
  have hh : typeHandle Tryd.prog 24 = .pointer (some ⟨4, 24, none⟩) := by kernel_rfl
  rw [hh] at e5
  intro q hq
  simp only [laidC] at hq
  obtain rfl := List.mem_singleton.1 hq
  simpa using World.var?_cell (show Tryd.prog.globalNamed "errors.errorType" = some _ by kernel_rfl) e5 0

set_option maxRecDepth 100000 in
theorem law (xs : List PV) (h : AllTy Tryd.prog [48, 48, 49] xs) : ACalls Tryd.prog 7 xs M0 (fun v m' => v = .v (.bool true)) := by
  obtain ⟨x, r, rfl, ⟨n, hx, hxa⟩, y, r2, rfl, ⟨n2, hy, hya⟩, z, r3, rfl, ⟨n3, hz, hza⟩, rfl⟩ := h
  have hn : aggT Tryd.prog 48 = false := by simp [aggT, Tryd.underlying48]
  have hi : aggT Tryd.prog 3 = false := by simp [aggT, Tryd.underlying3]
  have hu : aggT Tryd.prog 49 = false := by simp [aggT, Tryd.underlying49]
  rw [if_neg (by simp [hn])] at hxa hya
  rw [if_neg (by simp [hu])] at hza
  have ints : ∀ {n : Nat} {p : List PV}, TyCs Tryd.prog n 48 p → ∃ l : List Int, p = [.sl .no (l.map qI)] := fun {n p} hh => by
    refine slice_of Tryd.underlying48 qI (fun m _ x hx hq => ?_) hh
    rw [if_neg (by simp [hi])] at hq
    obtain ⟨s, hs⟩ := int_of Tryd.underlying3 hx
    rw [hq] at hs
    exact ⟨s, by simpa [qI] using hs⟩
  obtain ⟨L, hL⟩ := ints hx
  obtain ⟨C, hC⟩ := ints hy
  obtain ⟨K, hK0, hK⟩ := bytes_of Tryd.underlying49 Tryd.underlying5 hz
  have hx' : x = .sl .no (L.map qI) := by rw [hxa] at hL; simpa using hL
  have hy' : y = .sl .no (C.map qI) := by rw [hya] at hC; simpa using hC
  have hz' : z = .sl .no (K.map qU) := by
    rw [hza] at hK
    have e : z = .sl .no (K.map fun i => .v (.int .u8 i)) := by simpa using hK
    exact e
  rw [hx', hy', hz']
  exact first_law L C K hK0

set_option maxRecDepth 100000 in
theorem lifted (os : Os) (started : os.Started) (H : Type) (enc : TypeId × Value → H) :
    ReturnsInHanded {} Tryd.checked os 7 .any (fun w args => (Rows.faultsFirstSpec.pre enc Tryd.prog Tryd.f7 Rows.faultsFirstRow.domain false w args ∧ laidMetH Tryd.prog Rows.faultsFirstRow.laid w) ∧ sizedMet enc Tryd.prog Tryd.f7 (OpenSpec.ofChange Rows.faultsFirstSpec) false w args) (Rows.faultsFirstSpec.post enc Tryd.prog Tryd.f7 false true false false) := by
  refine lifted_laid (C := Tryd.checked) (fn := Tryd.f7) (s := Rows.faultsFirstSpec) (conds := Rows.faultsFirstRow.domain) (laid := Rows.faultsFirstRow.laid) (tb := 4) own started (by kernel_rfl) Tryd.func7
    (ChangeSpec.witness_at (enc := enc) (C := Tryd.checked) (os := os) (X := fun w _ => laidMetH Tryd.prog Rows.faultsFirstRow.laid w) false
      { World.holding Tryd.prog os ⟨#[], #[], []⟩ with heap := (World.holding Tryd.prog os ⟨#[], #[], []⟩).heap.modify 0 fun
        | .cells _ t frozen => .cells #[.iface 74 (.agg #[.pointer (some ⟨4, 24, none⟩)])] t frozen
        | o => o }
      #[.slice none 0 0, .slice none 0 0, .slice none 0 0] 8 rfl (by kernel_rfl) (by kernel_rfl) (by kernel_rfl) (by kernel_rfl) (by kernel_rfl) (laidMetH_of_parts (laidMet_nil _ _) (by kernel_rfl)))
    rfl (fun ds hl => ?_) (by kernel_rfl) Tryd.underlying4 [48, 49, 3, 5] (by kernel_rfl) (of_decide_eq_true (by kernel_rfl)) (by kernel_rfl) (of_decide_eq_true (by kernel_rfl)) law handle_of_laid
  match ds, hl with
  | [d0, d1, d2], _ => rfl

theorem over : Rows.FaultsFirstSaid :=
  OpenClaim.holds_of_wide 7 Tryd.f7 rfl rfl rfl rfl rfl rfl rfl ⟨rfl, rfl, rfl, rfl, rfl⟩ rfl rfl rfl rfl rfl (by kernel_rfl) Tryd.func7 (by kernel_rfl)
    (of_decide_eq_true (by kernel_rfl)) (by unfold Func.isWrapper; first | (rw [if_pos (by decide +kernel)]; kernel_rfl) | (rw [if_neg (by decide +kernel)]; exact ⟨rfl, rfl⟩))
    (fun os started H enc _ => lifted os started H enc)

theorem standless : ∀ t ∈ Tryd.f7.params, Tryd.prog.wantsStandIn t = false := by
  have h : ∀ t ∈ ([48, 48, 49] : List TypeId), Tryd.prog.wantsStandIn t = false := fun t ht => by
    have hall : ([48, 48, 49] : List TypeId).all (fun t => !Tryd.prog.wantsStandIn t) = true := by kernel_rfl
    simpa using List.all_eq_true.1 hall t ht
  intro t ht
  refine h t ?_
  rw [Tryd.params7] at ht
  simpa using ht

theorem proved : Rows.FaultsFirstCardSaid :=
  Claim7.holds_tied_plain_at .later [] [.handle] true (true, "48894fda5ed020d8c5daf8cbb777c62d46eb52be12f42dbcf3c421aa0f7d7a9f") true
    over (fun _ h => by cases h) (by kernel_rfl) (fun _ h => by cases h) faultsFirst_row_tie rfl ⟨rfl, rfl⟩ (by kernel_rfl) rfl
    (fun f fn hf hfn => by
      obtain rfl : f = 7 := Option.some.inj ((show Tryd.prog.funcNamed "metronome/metronomelaw01.FaultsFirst" = some 7 by kernel_rfl).symm.trans hf) |>.symm
      obtain rfl : fn = Tryd.f7 := (Option.some.inj (Tryd.func7.symm.trans hfn)).symm
      exact ⟨by kernel_rfl, fun j t ht => standless t (Array.mem_of_getElem? ht)⟩)
    (by kernel_rfl)
#print axioms proved
end Go.Proofs.YtofnlkogpljmmaaDoor.faultsFirst
