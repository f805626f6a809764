/-
  Proved: the law NumsRings returns true at every input, and its arguments read afterwards as before. No condition.
-/
import Derived.Test.YtibigejfcmjjeaaRows
import Derived.WalkKit
import Derived.ProofKit
import Derived.OpenShut
import Derived.Test.YtibigejfcmjjeaaNums
import Derived.ShutString
namespace Go.Proofs.Ytibigejfcmjjeaa.numsRings
open Go.ChangeShapes Go.WideShapes Go.ChangeAt Go.RowKit
open Go.ChangeMaps (open_string shut_string)
set_option linter.unusedVariables false      -- a walk need not use every 'w<i>' (that an integer argument fits its kind)

theorem own : ownKnob Try.prog.godebug = none := by kernel_rfl

theorem wrap_part (x : Int) : ∃ k, wrap32 x = x - 4294967296 * k := ⟨(x + 2147483648) / 4294967296, by unfold wrap32; omega⟩
theorem wrap_off (x k : Int) : wrap32 (x - 4294967296 * k) = wrap32 x := by unfold wrap32; omega
theorem wrap_mul (x c : Int) : wrap32 (wrap32 x * c) = wrap32 (x * c) := by
  obtain ⟨k, hk⟩ := wrap_part x
  rw [hk, Int.sub_mul, Int.mul_assoc, wrap_off]
theorem ring1 (a b c : Int) : binN 3 (binN 3 a b) c = binN 3 a (binN 3 c b) := by
  simp only [binN, if_true]; unfold wrap32; omega
theorem ring2 (a b c : Int) : binN 5 (binN 3 a b) c = binN 3 (binN 5 c a) (binN 5 c b) := by
  simp (config := { decide := true }) only [binN, if_true, if_false]
  rw [wrap_mul, Int.add_mul, Int.mul_comm a c, Int.mul_comm b c]
  generalize c * a = x; generalize c * b = y
  unfold wrap32; omega
theorem ring3 (a b : Int) (ha : R32 a) : binN 4 (binN 3 a b) b = a := by
  simp (config := { decide := true }) only [binN, if_true, if_false]
  unfold R32 at ha; unfold wrap32; omega
theorem ring4 (a : Int) : binN 3 a (unN 2 a) = 0 := by
  simp (config := { decide := true }) only [binN, unN, if_true, if_false]
  unfold wrap32; omega
set_option maxHeartbeats 2000000 in
theorem walk (a0 : Int) (a1 : Int) (a2 : Int) (w0 : (Lit.int .i32 a0).wf = true) (w1 : (Lit.int .i32 a1).wf = true) (w2 : (Lit.int .i32 a2).wf = true) (w : World) :
    Calls Try.prog 7 #[.int .i32 a0, .int .i32 a1, .int .i32 a2] w fun e w' => e = .returned (.bool true) ∧ Grown w w' := by
  have HA : R32 a0 := bounds_i32 w0
  have HB : R32 a1 := bounds_i32 w1
  have HC : R32 a2 := bounds_i32 w2
  have B := fun op a b ha => binN_bd op a b ha
  have f1 := ring1 a0 a1 a2
  have f2 := ring2 a0 a1 a2
  have f3 := ring3 a0 a1 HA
  have f4 := ring4 a0
  clear B
  go_enter Try.func7, Try.ntmps7
  go_wp2_with (first | (go_at_call 10; refine (awake_any _).mono ?_; rintro e w' ⟨rfl, rfl⟩) | (go_at_call 11; refine (bin_any _ _ _ (by repeat' (first | assumption | refine binN_bd _ _ _ ?_ | exact unN_bd _ _)) (by repeat' (first | assumption | refine binN_bd _ _ _ ?_ | exact unN_bd _ _)) _).mono ?_; rintro e w' ⟨rfl, rfl⟩) | (go_at_call 13; refine (un_any _ _ (by assumption) _).mono ?_; rintro e w' ⟨rfl, rfl⟩))
  go_ret
  exact ⟨rfl, Grown.refl _⟩

set_option maxRecDepth 100000 in
theorem lifted (os : Os) (started : os.Started) (H : Type) (enc : TypeId × Value → H) :
    ReturnsInHanded {} Try.checked os 7 .any (Rows.numsRingsSpec.pre6 enc Try.prog Try.f7 Rows.numsRingsRow.domain false) (Rows.numsRingsSpec.post enc Try.prog Try.f7 false true false false) := by
  refine returnsInHanded_of_change (C := Try.checked) own started (by kernel_rfl) Try.func7
    (ChangeSpec.witness6 (enc := enc) (C := Try.checked) false ⟨#[], #[.int .i32 0, .int .i32 0, .int .i32 0], []⟩ 8 (by kernel_rfl) (by kernel_rfl) (by kernel_rfl) (by kernel_rfl)) ?_
  intro W base args ds gs before hval0 hW hcnd _
  have hval : ∀ (j : Nat) t v, Try.f7.params[j]? = some t → args[j]? = some v → Value.okWide Try.prog W .any base t v := hval0
  have hW' := hW
  obtain ⟨p, q, hA0, hV, rfl, hfz, hnd⟩ := hW
  have hA : DataW.TrodAll enc Try.prog W 0 (fun _ => true) true Try.f7.params.toList args.toList ds p := hA0
  rw [Try.params7] at hA hval
  obtain ⟨v0, vs0, d0, ds0, p0, q0, hargs, rfl, rfl, h0, r0⟩ := trodAll_cons hA
  obtain ⟨v1, vs1, d1, ds1, p1, q1, rfl, rfl, rfl, h1, r1⟩ := trodAll_cons r0
  obtain ⟨v2, vs2, d2, ds2, p2, q2, rfl, rfl, rfl, h2, r2⟩ := trodAll_cons r1
  obtain ⟨rfl, rfl, rfl⟩ := trodAll_nil r2
  obtain rfl : args = #[v0, v1, v2] := by cases args; simp_all
  obtain ⟨rfl, rfl⟩ := trodVars_none hV
  obtain ⟨a0, rfl, rfl, rfl, w0⟩ := open_int Try.underlying21 (hval 0 21 v0 rfl rfl) h0
  obtain ⟨a1, rfl, rfl, rfl, w1⟩ := open_int Try.underlying21 (hval 1 21 v1 rfl rfl) h1
  obtain ⟨a2, rfl, rfl, rfl, w2⟩ := open_int Try.underlying21 (hval 2 21 v2 rfl rfl) h2
  clear hA0 hval0
  simp only [List.append_nil] at hW'
  refine (walk a0 a1 a2 w0 w1 w2 W).mono fun e W' ⟨he, hg⟩ => ?_
  subst he
  exact ⟨_, rfl, post_of_same (pa := []) (pv := []) hW' (fun _ _ _ => (trodAll_cons_mk (shut_bool Try.underlying4 _) trodAll_mk0)) (fun sp _ => (trodAll_cons_mk (shut_int Try.underlying21 w0) (trodAll_cons_mk (shut_int Try.underlying21 w1) (trodAll_cons_mk (shut_int Try.underlying21 w2) trodAll_mk0)))) (fun _ _ => rfl) rfl
    (hg.frame _) hg.2.1 (ok_one (by kernel_rfl) rfl (okWide_bool_mk Try.underlying4 _))⟩

theorem over : Rows.numsRingsRow.holds Try.pinned (OpenSpec.ofChange Rows.numsRingsSpec) :=
  OpenClaim.holds_of_wide 7 Try.f7 rfl rfl rfl rfl rfl rfl rfl ⟨rfl, rfl, rfl, rfl, rfl⟩ rfl rfl rfl rfl rfl (by kernel_rfl) Try.func7 (by kernel_rfl)
    (of_decide_eq_true (by kernel_rfl)) (by unfold Func.isWrapper; first | (rw [if_pos (by decide +kernel)]; kernel_rfl) | (rw [if_neg (by decide +kernel)]; exact ⟨rfl, rfl⟩))
    (fun os started H enc _ => lifted os started H enc)

theorem proved : Rows.NumsRingsSaid :=
  over
#print axioms proved
end Go.Proofs.Ytibigejfcmjjeaa.numsRings
