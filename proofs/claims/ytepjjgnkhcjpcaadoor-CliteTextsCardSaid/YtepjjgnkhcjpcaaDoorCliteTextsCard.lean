/-
  Proved: the law CliteTexts returns true at every input, and its arguments read afterwards as before. Where the three listed variables (tables of the library) hold what the program's text lays there; the card ties them to that text.
-/
import Derived.Test.YtepjjgnkhcjpcaaDoorRows
import Derived.Test.YtepjjgnkhcjpcaaDoorTie
import Derived.Test.YtepjjgnkhcjpcaaDoorCards
import Derived.WalkKit
import Derived.ProofKit
import Derived.OpenShut
import Derived.SevenTiedAt
import Derived.Shelf.Vars
import Derived.Lib.LaidTab
import Derived.LaidSub
import Derived.Lib.ItoaNum
import Derived.Test.YtepjjgnkhcjpcaaDoorAbLaid
import Derived.Test.YtepjjgnkhcjpcaaDoorCtL
import Derived.Test.YtepjjgnkhcjpcaaDoorAbInvB
namespace Go.Proofs.YtepjjgnkhcjpcaaDoor.cliteTexts
open Go Go.ChangeShapes Go.WideShapes Go.ChangeAt Go.RowKit Go.Proofs Go.Proofs.YtepjjgnkhcjpcaaDoor
set_option linter.unusedVariables false
set_option maxRecDepth 100000

theorem own : ownKnob Tryd.prog.godebug = none := by kernel_rfl
theorem handle_of_laid (W : World) (h : laidMetH Tryd.prog Rows.cliteTextsRow.laid W) (hs : W.ShapedOpen Tryd.prog) : ∀ q ∈ laidC, laidAt W q := by
  have h' : laidMet Tryd.prog [("math/bits.deBruijn32tab", Rows.laid_math_bits_deBruijn32tab), ("math/bits.deBruijn64tab", Rows.laid_math_bits_deBruijn64tab), ("internal/strconv.uint64pow10", Rows.laid_internal_strconv_uint64pow10)] W := h
  have h2 : laidMet Tryd.prog [("internal/strconv.uint64pow10", Lib.tabData .u64 Lib.pow10Tab)] W := h'.filter (fun x => x.1 == "internal/strconv.uint64pow10")
  have h3 := Lib.tabIs_of_head (g := 0) (t := 89) (e := 80) (n := 20) (by kernel_rfl) (by kernel_rfl) (by kernel_rfl) (by kernel_rfl) (by kernel_rfl) (by kernel_rfl) h2
  intro q hq
  simp only [laidC, List.mem_singleton] at hq
  subst hq
  unfold Lib.TabIs World.var? at h3
  rw [show Tryd.prog.globalNamed "internal/strconv.uint64pow10" = some 0 by kernel_rfl] at h3
  have h4 : (match W.heap[0]? with | some (Obj.cells cs _ _) => some cs | _ => none) = some ((Lib.pow10Tab.map fun z => Value.int .u64 z).toArray) := h3
  cases hh : W.heap[0]? with
  | none => rw [hh] at h4; cases h4
  | some o =>
    rw [hh] at h4
    cases o with
    | cells cs t f =>
      have h5 : cs = (Lib.pow10Tab.map fun z => Value.int .u64 z).toArray := Option.some.inj h4
      exact ⟨cs, t, f, hh, by rw [h5]; rfl⟩
    | _ => cases h4

set_option maxRecDepth 100000 in
theorem law (xs : List PV) (h : AllTy Tryd.prog [22, 22] xs) : ACalls Tryd.prog 3 xs M0 (fun v m' => v = .v (.bool true)) := by
  obtain ⟨x, r, rfl, ⟨n, hx, hxa⟩, y, r2, rfl, ⟨n2, hy, hya⟩, rfl⟩ := h
  have hs : aggT Tryd.prog 22 = false := by simp [aggT, Tryd.underlying22]
  rw [if_neg (by simp [hs])] at hxa hya
  obtain ⟨a, ha1, ha⟩ := bytes_of Tryd.underlying22 Tryd.underlying5 hx
  obtain ⟨b, hb1, hb⟩ := bytes_of Tryd.underlying22 Tryd.underlying5 hy
  have hx' : x = .sl .no (a.map pU) := by rw [hxa] at ha; exact (List.cons.inj ha).1
  have hy' : y = .sl .no (b.map pU) := by rw [hya] at hb; exact (List.cons.inj hb).1
  subst hx' hy'
  exact textsLaw_any a b ha1 hb1

set_option maxRecDepth 100000 in
theorem lifted (os : Os) (started : os.Started) (H : Type) (enc : TypeId × Value → H) :
    ReturnsInHanded {} Tryd.checked os 3 .any (fun w args => (Rows.cliteTextsSpec.pre enc Tryd.prog Tryd.f3 Rows.cliteTextsRow.domain false w args ∧ laidMetH Tryd.prog Rows.cliteTextsRow.laid w) ∧ sizedMet enc Tryd.prog Tryd.f3 (OpenSpec.ofChange Rows.cliteTextsSpec) false w args) (Rows.cliteTextsSpec.post enc Tryd.prog Tryd.f3 false true false false) := by
  refine lifted_laid (C := Tryd.checked) (fn := Tryd.f3) (s := Rows.cliteTextsSpec) (conds := Rows.cliteTextsRow.domain) (laid := Rows.cliteTextsRow.laid) (tb := 4) own started (by kernel_rfl) Tryd.func3
    (ChangeSpec.witness_at (enc := enc) (C := Tryd.checked) (os := os) (X := fun w _ => laidMetH Tryd.prog Rows.cliteTextsRow.laid w) false
      { World.holding Tryd.prog os ⟨#[], #[], []⟩ with heap := ((((World.holding Tryd.prog os ⟨#[], #[], []⟩).heap.modify 0 fun | .cells _ t frozen => .cells #[.int .u64 1, .int .u64 10, .int .u64 100, .int .u64 1000, .int .u64 10000, .int .u64 100000, .int .u64 1000000, .int .u64 10000000, .int .u64 100000000, .int .u64 1000000000, .int .u64 10000000000, .int .u64 100000000000, .int .u64 1000000000000, .int .u64 10000000000000, .int .u64 100000000000000, .int .u64 1000000000000000, .int .u64 10000000000000000, .int .u64 100000000000000000, .int .u64 1000000000000000000, .int .u64 10000000000000000000] t frozen | o => o).modify 1 fun | .cells _ t frozen => .cells #[.int .u8 0, .int .u8 1, .int .u8 28, .int .u8 2, .int .u8 29, .int .u8 14, .int .u8 24, .int .u8 3, .int .u8 30, .int .u8 22, .int .u8 20, .int .u8 15, .int .u8 25, .int .u8 17, .int .u8 4, .int .u8 8, .int .u8 31, .int .u8 27, .int .u8 13, .int .u8 23, .int .u8 21, .int .u8 19, .int .u8 16, .int .u8 7, .int .u8 26, .int .u8 12, .int .u8 18, .int .u8 6, .int .u8 11, .int .u8 5, .int .u8 10, .int .u8 9] t frozen | o => o).modify 2 fun | .cells _ t frozen => .cells #[.int .u8 0, .int .u8 1, .int .u8 56, .int .u8 2, .int .u8 57, .int .u8 49, .int .u8 28, .int .u8 3, .int .u8 61, .int .u8 58, .int .u8 42, .int .u8 50, .int .u8 38, .int .u8 29, .int .u8 17, .int .u8 4, .int .u8 62, .int .u8 47, .int .u8 59, .int .u8 36, .int .u8 45, .int .u8 43, .int .u8 51, .int .u8 22, .int .u8 53, .int .u8 39, .int .u8 33, .int .u8 30, .int .u8 24, .int .u8 18, .int .u8 12, .int .u8 5, .int .u8 63, .int .u8 55, .int .u8 48, .int .u8 27, .int .u8 60, .int .u8 41, .int .u8 37, .int .u8 16, .int .u8 46, .int .u8 35, .int .u8 44, .int .u8 21, .int .u8 52, .int .u8 32, .int .u8 23, .int .u8 11, .int .u8 54, .int .u8 26, .int .u8 40, .int .u8 15, .int .u8 34, .int .u8 20, .int .u8 31, .int .u8 10, .int .u8 25, .int .u8 14, .int .u8 19, .int .u8 9, .int .u8 13, .int .u8 8, .int .u8 7, .int .u8 6] t frozen | o => o) }
      #[.slice none 0 0, .slice none 0 0] 8 rfl (by kernel_rfl) (by kernel_rfl) (by kernel_rfl) (by kernel_rfl) (by kernel_rfl) (laidMetH_of_parts (laidMet_of_run' 400 (by kernel_rfl) (by kernel_rfl)) (by kernel_rfl)))
    rfl (fun ds hl => ?_) (by kernel_rfl) Tryd.underlying4 [22, 5] (by kernel_rfl) (of_decide_eq_true (by kernel_rfl)) (by kernel_rfl) (of_decide_eq_true (by kernel_rfl)) law handle_of_laid
  match ds, hl with
  | [d0, d1], _ => rfl

theorem over : Rows.CliteTextsSaid :=
  OpenClaim.holds_of_wide 3 Tryd.f3 rfl rfl rfl rfl rfl rfl rfl ⟨rfl, rfl, rfl, rfl, rfl⟩ rfl rfl rfl rfl rfl (by kernel_rfl) Tryd.func3 (by kernel_rfl)
    (of_decide_eq_true (by kernel_rfl)) (by unfold Func.isWrapper; first | (rw [if_pos (by decide +kernel)]; kernel_rfl) | (rw [if_neg (by decide +kernel)]; exact ⟨rfl, rfl⟩))
    (fun os started H enc _ => lifted os started H enc)

theorem standless : ∀ t ∈ Tryd.f3.params, Tryd.prog.wantsStandIn t = false := by
  have h : ∀ t ∈ ([22, 22] : List TypeId), Tryd.prog.wantsStandIn t = false := fun t ht => by
    have hall : ([22, 22] : List TypeId).all (fun t => !Tryd.prog.wantsStandIn t) = true := by kernel_rfl
    simpa using List.all_eq_true.1 hall t ht
  intro t ht
  refine h t ?_
  rw [Tryd.params3] at ht
  simpa using ht

theorem proved : Rows.CliteTextsCardSaid :=
  Claim7.holds_tied_plain_at .later [] [.data, .data, .data] true (true, "5bfce42863fe035afbad6b60e8497cffc225bab984c0e916968ba9b3f49dfb6b") true
    over (fun _ h => by cases h) (by kernel_rfl) (fun _ h => by cases h) cliteTexts_row_tie rfl ⟨rfl, rfl⟩ (by kernel_rfl) rfl
    (fun f fn hf hfn => by
      obtain rfl : f = 3 := Option.some.inj ((show Tryd.prog.funcNamed "metronome/metronomelaw23.CliteTexts" = some 3 by kernel_rfl).symm.trans hf) |>.symm
      obtain rfl : fn = Tryd.f3 := (Option.some.inj (Tryd.func3.symm.trans hfn)).symm
      exact ⟨by kernel_rfl, fun j t ht => standless t (Array.mem_of_getElem? ht)⟩)
    (by kernel_rfl)
#print axioms proved
end Go.Proofs.YtepjjgnkhcjpcaaDoor.cliteTexts
