/-
 Proved: the law TypesExprs returns true at every input, and its arguments read afterwards as before. Where the listed variable errors.errorType holds what the program's text lays there; the card ties it to that text.
-/
-- halved
import Derived.Test.YthhhnfjcaicjnaaGreatDoorRows
import Derived.Test.YthhhnfjcaicjnaaGreatDoorTie
import Derived.Test.YthhhnfjcaicjnaaGreatDoorCards
import Derived.WalkKit
import Derived.ProofKit
import Derived.OpenShut
import Derived.SevenTiedAt
import Derived.Shelf.Vars
import Derived.Test.YthhhnfjcaicjnaaGreatDoorLwA
import Derived.Test.YthhhnfjcaicjnaaGreatDoorTeP
namespace Go.Proofs.YthhhnfjcaicjnaaGreatDoor.typesExprs
open Go Go.ChangeShapes Go.WideShapes Go.ChangeAt Go.RowKit Go.Proofs Go.Proofs.YthhhnfjcaicjnaaGreatDoor
set_option linter.unusedVariables false

theorem own : ownKnob Tryz.prog.godebug = none := by kernel_rfl
theorem rt : (Tryz.prog.cutTypes.find? (·.1 == "internal/reflectlite.rtype")).map (·.2) = some 181 := by kernel_rfl
theorem oneRow : ((List.range Tryz.prog.types.size).filter fun t => Tryz.prog.rowNamed t [101, 114, 114, 111, 114]) = [33] := by kernel_rfl
theorem handle_of_laid (W : World) (h : laidMetH Tryz.prog Rows.typesExprsRow.laid W) (hs : W.ShapedOpen Tryz.prog) : ∀ q ∈ laidC, laidAt W q := by
 have h' : laidMet Tryz.prog [] W ∧ handlesMet Tryz.prog Rows.typesExprsRow.laid W := h
 obtain ⟨name, u, ty, e1, e2, e3, e4, e5⟩ := h'.2 _ (List.mem_singleton.2 rfl)
 have en : name = [101, 114, 114, 111, 114] := (Option.some.inj e1).symm
 subst en
 obtain rfl := Option.some.inj (rt.symm.trans e2)
 have hm : ty ∈ (List.range Tryz.prog.types.size).filter fun t => Tryz.prog.rowNamed t [101, 114, 114, 111, 114] := List.mem_filter.2 ⟨List.mem_range.2 e3, e4⟩
 rw [oneRow] at hm
 obtain rfl := List.mem_singleton.1 hm
 have hh : typeHandle Tryz.prog 33 = .pointer (some ⟨1, 33, none⟩) := by kernel_rfl
 rw [hh] at e5
 intro q hq
 simp only [laidC, List.mem_cons, List.not_mem_nil, or_false] at hq
 subst hq
 refine ⟨_, ?_, rfl⟩
 simpa using World.var?_cell (show Tryz.prog.globalNamed "errors.errorType" = some _ by kernel_rfl) e5 0

set_option maxRecDepth 100000 in
theorem law (xs : List PV) (h : AllTy Tryz.prog [22, 23, 5] xs) : ACalls Tryz.prog 3 xs M0 (fun v m' => v = .v (.bool true)) := by
 obtain ⟨x, r, rfl, ⟨n, hx, hxa⟩, u, r3, rfl, ⟨n3, hu, hua⟩, z, r4, rfl, ⟨n4, hz, hza⟩, rfl⟩ := h
 have hs : aggT Tryz.prog 22 = false := by simp [aggT, Tryz.underlying22]
 have h8 : aggT Tryz.prog 5 = false := by simp [aggT, Tryz.underlying5]
 have h16 : aggT Tryz.prog 23 = false := by simp [aggT, Tryz.underlying23]
 rw [if_neg (by simp [hs])] at hxa
 rw [if_neg (by simp [h8])] at hza
 rw [if_neg (by simp [h16])] at hua
 have e5 : IntKind.u16.min = 0 := by decide
 have e6 : IntKind.u16.max = 65535 := by decide
 obtain ⟨a, ha1, ha⟩ := bytes_of Tryz.underlying22 Tryz.underlying5 hx
 obtain ⟨c, hc, c1, c2⟩ := u8_of Tryz.underlying5 hz
 obtain ⟨d, hd, d1, d2⟩ := intR_of Tryz.underlying23 hu
 have hx' : x = .sl .no (a.map pU) := by rw [hxa] at ha; exact (List.cons.inj ha).1
 have hz' : z = .v (.int .u8 c) := by rw [hza] at hc; simpa using hc
 have hu' : u = .v (.int .u16 d) := by rw [hua] at hd; simpa using hd
 rw [hx', hz', hu']
 exact exprs_any a ha1 d c ⟨by omega, by omega⟩ ⟨c1, c2⟩ M0

set_option maxRecDepth 100000 in
theorem lifted (os : Os) (started : os.Started) (H : Type) (enc : TypeId × Value → H) :
    ReturnsInHanded {} Tryz.checked os 3 .any (fun w args => (Rows.typesExprsSpec.pre enc Tryz.prog Tryz.f3 Rows.typesExprsRow.domain false w args ∧ laidMetH Tryz.prog Rows.typesExprsRow.laid w) ∧ sizedMet enc Tryz.prog Tryz.f3 (OpenSpec.ofChange Rows.typesExprsSpec) false w args) (Rows.typesExprsSpec.post enc Tryz.prog Tryz.f3 false true false false) := by
 refine lifted_laid (C := Tryz.checked) (fn := Tryz.f3) (s := Rows.typesExprsSpec) (conds := Rows.typesExprsRow.domain) (laid := Rows.typesExprsRow.laid) (tb := 4) own started (by kernel_rfl) Tryz.func3
  (ChangeSpec.witness_at (enc := enc) (C := Tryz.checked) (os := os) (X := fun w _ => laidMetH Tryz.prog Rows.typesExprsRow.laid w) false
   { World.holding Tryz.prog os ⟨#[], #[], []⟩ with heap := (World.holding Tryz.prog os ⟨#[], #[], []⟩).heap.modify 0 fun
    | .cells _ t frozen => .cells #[.iface 181 (.agg #[.pointer (some ⟨1, 33, none⟩)])] t frozen
    | o => o }
   #[.slice none 0 0, .int .u16 0, .int .u8 0] 8 rfl (by kernel_rfl) (by kernel_rfl) (by kernel_rfl) (by kernel_rfl) (by kernel_rfl) (laidMetH_of_parts (laidMet_nil _ _) (by kernel_rfl)))
  rfl (fun ds hl => ?_) (by kernel_rfl) Tryz.underlying4 [22, 5, 23] (by kernel_rfl) (of_decide_eq_true (by kernel_rfl)) (by kernel_rfl) (of_decide_eq_true (by kernel_rfl)) law handle_of_laid
 match ds, hl with
 | [d0, d1, d2], _ => rfl

theorem over : Rows.TypesExprsSaid :=
 OpenClaim.holds_of_wide 3 Tryz.f3 rfl rfl rfl rfl rfl rfl rfl ⟨rfl, rfl, rfl, rfl, rfl⟩ rfl rfl rfl rfl rfl (by kernel_rfl) Tryz.func3 (by kernel_rfl)
  (of_decide_eq_true (by kernel_rfl)) (by unfold Func.isWrapper; first | (rw [if_pos (by decide +kernel)]; kernel_rfl) | (rw [if_neg (by decide +kernel)]; exact ⟨rfl, rfl⟩))
  (fun os started H enc _ => lifted os started H enc)

theorem standless : ∀ t ∈ Tryz.f3.params, Tryz.prog.wantsStandIn t = false := by
 have h : ∀ t ∈ ([22, 23, 5] : List TypeId), Tryz.prog.wantsStandIn t = false := fun t ht => by
  have hall : ([22, 23, 5] : List TypeId).all (fun t => !Tryz.prog.wantsStandIn t) = true := by kernel_rfl
  simpa using List.all_eq_true.1 hall t ht
 intro t ht
 refine h t ?_
 rw [Tryz.params3] at ht
 simpa using ht

theorem proved : Rows.TypesExprsCardSaid :=
 Claim7.holds_tied_plain_at .later [] [.handle] true (true, "5199055d8402a3702c5a77759cec4fdd4e4183905730121de20b36c067cd5402") true
  over (fun _ h => by cases h) (by kernel_rfl) (fun _ h => by cases h) typesExprs_row_tie rfl ⟨rfl, rfl⟩ (by kernel_rfl) rfl
  (fun f fn hf hfn => by
   obtain rfl : f = 3 := Option.some.inj ((show Tryz.prog.funcNamed "metronome/metronomelaw08.TypesExprs" = some 3 by kernel_rfl).symm.trans hf) |>.symm
   obtain rfl : fn = Tryz.f3 := (Option.some.inj (Tryz.func3.symm.trans hfn)).symm
   exact ⟨by kernel_rfl, fun j t ht => standless t (Array.mem_of_getElem? ht)⟩)
  (by kernel_rfl)
#print axioms proved
end Go.Proofs.YthhhnfjcaicjnaaGreatDoor.typesExprs
