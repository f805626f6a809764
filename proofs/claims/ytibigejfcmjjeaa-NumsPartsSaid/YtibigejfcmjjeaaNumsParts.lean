/-
  Proved: the law NumsParts returns true at every input, and its arguments read afterwards as before. No condition.
-/
import Derived.Test.YtibigejfcmjjeaaRows
import Derived.WalkKit
import Derived.ProofKit
import Derived.OpenShut
import Derived.Test.YtibigejfcmjjeaaNums
import Derived.ShutString
namespace Go.Proofs.Ytibigejfcmjjeaa.numsParts
open Go.ChangeShapes Go.WideShapes Go.ChangeAt Go.RowKit
open Go.ChangeMaps (open_string shut_string)
set_option linter.unusedVariables false      -- a walk need not use every 'w<i>' (that an integer argument fits its kind)

theorem own : ownKnob Try.prog.godebug = none := by kernel_rfl

theorem part0 (op a : Int) (h : op = 6 ∨ op = 7) : binN op a 0 = 0 := by
  rcases h with rfl | rfl <;> simp (config := { decide := true }) only [binN, partsN, if_true, if_false, or_true, true_or]
theorem part1 (a b : Int) (hb : b ≠ 0) (ha : R32 a) : binN 3 (binN 5 (binN 6 a b) b) (binN 7 a b) = a := by
  simp (config := { decide := true }) only [binN, partsN, if_true, if_false, or_true, true_or, if_neg hb]
  have h := Int.mul_tdiv_add_tmod a b
  rw [Int.mul_comm] at h
  obtain ⟨k, hk⟩ : ∃ k, wrap32 (a.tdiv b) = a.tdiv b - 4294967296 * k := ⟨(a.tdiv b + 2147483648) / 4294967296, by unfold wrap32; omega⟩
  rw [hk, Int.sub_mul, Int.mul_assoc]
  generalize a.tdiv b * b = x at *; generalize k * b = y; generalize a.tmod b = z at *
  unfold R32 at ha; unfold wrap32; omega
theorem part2 (a b : Int) (hb : b ≠ 0) : binN 7 a b = a.tmod b := by
  simp (config := { decide := true }) only [binN, partsN, if_true, if_false, or_true, if_neg hb]
theorem part3 (a b : Int) (hb : b ≠ 0) : (a.tmod b).natAbs < b.natAbs ∧ (0 ≤ a → 0 ≤ a.tmod b) ∧ (a ≤ 0 → a.tmod b ≤ 0) := by
  refine ⟨?_, fun h => Int.tmod_nonneg b h, fun h => ?_⟩
  · rw [Int.natAbs_tmod]; exact Nat.mod_lt _ (by omega)
  · have h2 : 0 ≤ (-a).tmod b := Int.tmod_nonneg b (by omega)
    rw [Int.neg_tmod] at h2; omega
set_option maxHeartbeats 2000000 in
theorem walk (a0 : Int) (a1 : Int) (w0 : (Lit.int .i32 a0).wf = true) (w1 : (Lit.int .i32 a1).wf = true) (w : World) :
    Calls Try.prog 4 #[.int .i32 a0, .int .i32 a1] w fun e w' => e = .returned (.bool true) ∧ Grown w w' := by
  have HA : R32 a0 := bounds_i32 w0
  have HB : R32 a1 := bounds_i32 w1
  by_cases h0 : a1 = 0
  · subst h0
    have f1 := part0 6 a0 (Or.inl rfl)
    have f2 := part0 7 a0 (Or.inr rfl)
    go_enter Try.func4, Try.ntmps4
    go_wp2_with (first | (go_at_call 10; refine (awake_any _).mono ?_; rintro e w' ⟨rfl, rfl⟩) | (go_at_call 11; refine (bin_any _ _ _ (by assumption) (by assumption) _).mono ?_; rintro e w' ⟨rfl, rfl⟩))
    go_ret
    exact ⟨rfl, Grown.refl _⟩
  · have f1 := part1 a0 a1 h0 HA
    obtain ⟨f2, f3, f4⟩ := part3 a0 a1 h0
    have hm := part2 a0 a1 h0
    rw [← hm] at f2 f3 f4
    have hmb := binN_bd 7 a0 a1 HA
    have hqb := binN_bd 6 a0 a1 HA
    have hpb := binN_bd 5 (binN 6 a0 a1) a1 hqb
    clear hm
    generalize hM : binN 7 a0 a1 = m at *
    generalize hQ : binN 6 a0 a1 = q at *
    unfold R32 at hmb
    have hmb2 : R32 m := hmb
    have HM := Lib.hid hmb2
    clear hmb2
    have hb1 : -2147483648 ≤ a1 ∧ a1 ≤ 2147483647 := HB
    have h1 : (a1 == 0) = false := by simpa using h0
    have F1 := Lib.hid f1
    clear f1
    rcases Int.lt_trichotomy m 0 with hm | hm | hm
    · have ha : a0 < 0 := by omega
      have h2 : (m == 0) = false := by simp; omega
      have F2 := F1.out
      by_cases hb : a1 < 0
      all_goals
        go_enter Try.func4, Try.ntmps4
        go_wp2_with (first | (go_at_call 10; refine (awake_any _).mono ?_; rintro e w' ⟨rfl, rfl⟩) | (go_at_call 11; refine (bin_any _ _ _ (by first | assumption | exact HM.out) (by first | assumption | exact HM.out) _).mono ?_; rintro e w' ⟨rfl, rfl⟩))
        go_ret
        exact ⟨rfl, Grown.refl _⟩
    · have F2 := F1.out
      subst hm
      by_cases hb : a1 < 0
      all_goals
        go_enter Try.func4, Try.ntmps4
        go_wp2_with (first | (go_at_call 10; refine (awake_any _).mono ?_; rintro e w' ⟨rfl, rfl⟩) | (go_at_call 11; refine (bin_any _ _ _ (by first | assumption | exact HM.out) (by first | assumption | exact HM.out) _).mono ?_; rintro e w' ⟨rfl, rfl⟩))
        go_ret
        exact ⟨rfl, Grown.refl _⟩
    · have ha : ¬ a0 < 0 := by omega
      have h3 : decide (m < 0) = false := by simp; omega
      have h4 : decide (a0 < 0) = false := by simp; omega
      have h2 : (m == 0) = false := by simp; omega
      have F2 := F1.out
      by_cases hb : a1 < 0
      all_goals
        go_enter Try.func4, Try.ntmps4
        go_wp2_with (first | (go_at_call 10; refine (awake_any _).mono ?_; rintro e w' ⟨rfl, rfl⟩) | (go_at_call 11; refine (bin_any _ _ _ (by first | assumption | exact HM.out) (by first | assumption | exact HM.out) _).mono ?_; rintro e w' ⟨rfl, rfl⟩))
        go_ret
        exact ⟨rfl, Grown.refl _⟩

set_option maxRecDepth 100000 in
theorem lifted (os : Os) (started : os.Started) (H : Type) (enc : TypeId × Value → H) :
    ReturnsInHanded {} Try.checked os 4 .any (Rows.numsPartsSpec.pre6 enc Try.prog Try.f4 Rows.numsPartsRow.domain false) (Rows.numsPartsSpec.post enc Try.prog Try.f4 false true false false) := by
  refine returnsInHanded_of_change (C := Try.checked) own started (by kernel_rfl) Try.func4
    (ChangeSpec.witness6 (enc := enc) (C := Try.checked) false ⟨#[], #[.int .i32 0, .int .i32 0], []⟩ 8 (by kernel_rfl) (by kernel_rfl) (by kernel_rfl) (by kernel_rfl)) ?_
  intro W base args ds gs before hval0 hW hcnd _
  have hval : ∀ (j : Nat) t v, Try.f4.params[j]? = some t → args[j]? = some v → Value.okWide Try.prog W .any base t v := hval0
  have hW' := hW
  obtain ⟨p, q, hA0, hV, rfl, hfz, hnd⟩ := hW
  have hA : DataW.TrodAll enc Try.prog W 0 (fun _ => true) true Try.f4.params.toList args.toList ds p := hA0
  rw [Try.params4] at hA hval
  obtain ⟨v0, vs0, d0, ds0, p0, q0, hargs, rfl, rfl, h0, r0⟩ := trodAll_cons hA
  obtain ⟨v1, vs1, d1, ds1, p1, q1, rfl, rfl, rfl, h1, r1⟩ := trodAll_cons r0
  obtain ⟨rfl, rfl, rfl⟩ := trodAll_nil r1
  obtain rfl : args = #[v0, v1] := by cases args; simp_all
  obtain ⟨rfl, rfl⟩ := trodVars_none hV
  obtain ⟨a0, rfl, rfl, rfl, w0⟩ := open_int Try.underlying21 (hval 0 21 v0 rfl rfl) h0
  obtain ⟨a1, rfl, rfl, rfl, w1⟩ := open_int Try.underlying21 (hval 1 21 v1 rfl rfl) h1
  clear hA0 hval0
  simp only [List.append_nil] at hW'
  refine (walk a0 a1 w0 w1 W).mono fun e W' ⟨he, hg⟩ => ?_
  subst he
  exact ⟨_, rfl, post_of_same (pa := []) (pv := []) hW' (fun _ _ _ => (trodAll_cons_mk (shut_bool Try.underlying4 _) trodAll_mk0)) (fun sp _ => (trodAll_cons_mk (shut_int Try.underlying21 w0) (trodAll_cons_mk (shut_int Try.underlying21 w1) trodAll_mk0))) (fun _ _ => rfl) rfl
    (hg.frame _) hg.2.1 (ok_one (by kernel_rfl) rfl (okWide_bool_mk Try.underlying4 _))⟩

theorem over : Rows.numsPartsRow.holds Try.pinned (OpenSpec.ofChange Rows.numsPartsSpec) :=
  OpenClaim.holds_of_wide 4 Try.f4 rfl rfl rfl rfl rfl rfl rfl ⟨rfl, rfl, rfl, rfl, rfl⟩ rfl rfl rfl rfl rfl (by kernel_rfl) Try.func4 (by kernel_rfl)
    (of_decide_eq_true (by kernel_rfl)) (by unfold Func.isWrapper; first | (rw [if_pos (by decide +kernel)]; kernel_rfl) | (rw [if_neg (by decide +kernel)]; exact ⟨rfl, rfl⟩))
    (fun os started H enc _ => lifted os started H enc)

theorem proved : Rows.NumsPartsSaid :=
  over
#print axioms proved
end Go.Proofs.Ytibigejfcmjjeaa.numsParts
