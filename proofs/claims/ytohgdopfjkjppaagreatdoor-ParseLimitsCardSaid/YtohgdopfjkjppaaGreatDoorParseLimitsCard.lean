/-
 Proved: the law ParseLimits returns true at every input, and its arguments read afterwards as before. Where the listed variable errors.errorType holds what the program's text lays there; the card ties it to that text.
-/
-- halved
import Derived.Test.YtohgdopfjkjppaaGreatDoorRows
import Derived.Test.YtohgdopfjkjppaaGreatDoorTie
import Derived.Test.YtohgdopfjkjppaaGreatDoorCards
import Derived.WalkKit
import Derived.ProofKit
import Derived.OpenShut
import Derived.SevenTiedAt
import Derived.Shelf.Vars
import Derived.Test.YtohgdopfjkjppaaGreatDoorLwA
import Derived.Test.YtohgdopfjkjppaaGreatDoorFA
import Derived.Test.YtohgdopfjkjppaaGreatDoorAbInvB
namespace Go.Proofs.YtohgdopfjkjppaaGreatDoor.parseLimits
open Go Go.ChangeShapes Go.WideShapes Go.ChangeAt Go.RowKit Go.Proofs Go.Proofs.YtohgdopfjkjppaaGreatDoor
set_option linter.unusedVariables false

theorem own : ownKnob Tryz.prog.godebug = none := by kernel_rfl
theorem rt : (Tryz.prog.cutTypes.find? (·.1 == "internal/reflectlite.rtype")).map (·.2) = some 127 := by kernel_rfl
theorem oneRow : ((List.range Tryz.prog.types.size).filter fun t => Tryz.prog.rowNamed t [101, 114, 114, 111, 114]) = [31] := by kernel_rfl
theorem handle_of_laid (W : World) (h : laidMetH Tryz.prog Rows.parseLimitsRow.laid W) (hs : W.ShapedOpen Tryz.prog) : ∀ q ∈ laidC, laidAt W q := by
 have h' : laidMet Tryz.prog [] W ∧ handlesMet Tryz.prog Rows.parseLimitsRow.laid W := h
 obtain ⟨name, u, ty, e1, e2, e3, e4, e5⟩ := h'.2 _ (List.mem_singleton.2 rfl)
 have en : name = [101, 114, 114, 111, 114] := (Option.some.inj e1).symm
 subst en
 obtain rfl := Option.some.inj (rt.symm.trans e2)
 have hm : ty ∈ (List.range Tryz.prog.types.size).filter fun t => Tryz.prog.rowNamed t [101, 114, 114, 111, 114] := List.mem_filter.2 ⟨List.mem_range.2 e3, e4⟩
 rw [oneRow] at hm
 obtain rfl := List.mem_singleton.1 hm
 have hh : typeHandle Tryz.prog 31 = .pointer (some ⟨2, 31, none⟩) := by kernel_rfl
 rw [hh] at e5
 intro q hq
 simp only [laidC, List.mem_cons, List.not_mem_nil, or_false] at hq
 rcases hq with rfl | rfl
 case inr =>
  obtain ⟨n, hn⟩ := cell_of_shapedOpen_int (P := Tryz.prog) (g := 1) (t := 3) (zero := #[.int .i64 0]) hs (of_decide_eq_true (by kernel_rfl)) (by kernel_rfl) rfl (by kernel_rfl) (by kernel_rfl) Tryz.underlying3
  exact ⟨_, hn, n, rfl⟩
 refine ⟨_, ?_, rfl⟩
 simpa using World.var?_cell (show Tryz.prog.globalNamed "errors.errorType" = some _ by kernel_rfl) e5 0

set_option maxRecDepth 100000 in
theorem law (xs : List PV) (h : AllTy Tryz.prog [5, 5] xs) : ACalls Tryz.prog 5 xs M0 (fun v m' => v = .v (.bool true)) := by
 obtain ⟨x, r, rfl, ⟨n, hx, hxa⟩, y, r2, rfl, ⟨n2, hy, hya⟩, rfl⟩ := h
 have hu : aggT Tryz.prog 5 = false := by simp [aggT, Tryz.underlying5]
 rw [if_neg (by simp [hu])] at hxa
 rw [if_neg (by simp [hu])] at hya
 obtain ⟨a, ha, ha1, ha2⟩ := u8_of Tryz.underlying5 hx
 obtain ⟨b, hb, hb1, hb2⟩ := u8_of Tryz.underlying5 hy
 have hx' : x = .v (.int .u8 a) := by rw [hxa] at ha; exact (List.cons.inj ha).1
 have hy' : y = .v (.int .u8 b) := by rw [hya] at hb; exact (List.cons.inj hb).1
 subst hx' hy'
 exact (parselimits_any a b ⟨ha1, ha2⟩ ⟨hb1, hb2⟩ _).mono fun v m' h => h.1


set_option maxRecDepth 100000 in
theorem lifted (os : Os) (started : os.Started) (H : Type) (enc : TypeId × Value → H) :
    ReturnsInHanded {} Tryz.checked os 5 .any (fun w args => (Rows.parseLimitsSpec.pre enc Tryz.prog Tryz.f5 Rows.parseLimitsRow.domain false w args ∧ laidMetH Tryz.prog Rows.parseLimitsRow.laid w) ∧ sizedMet enc Tryz.prog Tryz.f5 (OpenSpec.ofChange Rows.parseLimitsSpec) false w args) (Rows.parseLimitsSpec.post enc Tryz.prog Tryz.f5 false true false false) := by
 refine lifted_laid (C := Tryz.checked) (fn := Tryz.f5) (s := Rows.parseLimitsSpec) (conds := Rows.parseLimitsRow.domain) (laid := Rows.parseLimitsRow.laid) (tb := 4) own started (by kernel_rfl) Tryz.func5
  (ChangeSpec.witness_at (enc := enc) (C := Tryz.checked) (os := os) (X := fun w _ => laidMetH Tryz.prog Rows.parseLimitsRow.laid w) false
   { World.holding Tryz.prog os ⟨#[], #[], []⟩ with heap := (World.holding Tryz.prog os ⟨#[], #[], []⟩).heap.modify 0 fun
    | .cells _ t frozen => .cells #[.iface 127 (.agg #[.pointer (some ⟨2, 31, none⟩)])] t frozen
    | o => o }
   #[.int .u8 0, .int .u8 0] 8 rfl (by kernel_rfl) (by kernel_rfl) (by kernel_rfl) (by kernel_rfl) (by kernel_rfl) (laidMetH_of_parts (laidMet_nil _ _) (by kernel_rfl)))
  rfl (fun ds hl => ?_) (by kernel_rfl) Tryz.underlying4 [5] (by kernel_rfl) (of_decide_eq_true (by kernel_rfl)) (by kernel_rfl) (of_decide_eq_true (by kernel_rfl)) law handle_of_laid
 match ds, hl with
 | [d0, d1], _ => rfl

theorem over : Rows.ParseLimitsSaid :=
 OpenClaim.holds_of_wide 5 Tryz.f5 rfl rfl rfl rfl rfl rfl rfl ⟨rfl, rfl, rfl, rfl, rfl⟩ rfl rfl rfl rfl rfl (by kernel_rfl) Tryz.func5 (by kernel_rfl)
  (of_decide_eq_true (by kernel_rfl)) (by unfold Func.isWrapper; first | (rw [if_pos (by decide +kernel)]; kernel_rfl) | (rw [if_neg (by decide +kernel)]; exact ⟨rfl, rfl⟩))
  (fun os started H enc _ => lifted os started H enc)

theorem standless : ∀ t ∈ Tryz.f5.params, Tryz.prog.wantsStandIn t = false := by
 have h : ∀ t ∈ ([5, 5] : List TypeId), Tryz.prog.wantsStandIn t = false := fun t ht => by
  have hall : ([5, 5] : List TypeId).all (fun t => !Tryz.prog.wantsStandIn t) = true := by kernel_rfl
  simpa using List.all_eq_true.1 hall t ht
 intro t ht
 refine h t ?_
 rw [Tryz.params5] at ht
 simpa using ht

theorem proved : Rows.ParseLimitsCardSaid :=
 Claim7.holds_tied_plain_at .later [] [.handle] true (true, "3d302a36c25c91f09ef6180719806aba6a532b3a7e4c809c6f516af8422256e9") true
  over (fun _ h => by cases h) (by kernel_rfl) (fun _ h => by cases h) parseLimits_row_tie rfl ⟨rfl, rfl⟩ (by kernel_rfl) rfl
  (fun f fn hf hfn => by
   obtain rfl : f = 5 := Option.some.inj ((show Tryz.prog.funcNamed "metronome/metronomelaw06.ParseLimits" = some 5 by kernel_rfl).symm.trans hf) |>.symm
   obtain rfl : fn = Tryz.f5 := (Option.some.inj (Tryz.func5.symm.trans hfn)).symm
   exact ⟨by kernel_rfl, fun j t ht => standless t (Array.mem_of_getElem? ht)⟩)
  (by kernel_rfl)
#print axioms proved
end Go.Proofs.YtohgdopfjkjppaaGreatDoor.parseLimits
