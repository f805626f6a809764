/-
  The walks over package nums and its reference: what each call answers; the world stays. Then the same as calls without addresses.
-/
import Derived.Test.YtmcajiccepgagaaAbKit
import Derived.WalkKit
import Derived.WalkSpells
import Derived.WalkLawsBesides
import Derived.Lib.Hide
import Derived.Deep.Light
set_option linter.unusedVariables false
set_option linter.unusedSimpArgs false
namespace Go.Proofs.Ytmcajiccepgagaa
open Go Go.RowKit

def orderN (op a b : Int) : Int :=
  if op = 16 then (if b ≤ a then 1 else 0) else if op = 11 then (if a = b then 1 else 0) else if op = 14 then (if a ≤ b then 1 else 0)
  else if op = 13 then (if a < b then 1 else 0) else if op = 15 then (if b < a then 1 else 0) else 0

def partsN (op a b : Int) : Int :=
  if b = 0 then 0 else if op = 6 then wrap32 (a.tdiv b) else a.tmod b

def binN (op a b : Int) : Int :=
  if op = 3 then wrap32 (a + b) else if op = 4 then wrap32 (a - b) else if op = 5 then wrap32 (a * b)
  else if op = 6 ∨ op = 7 then partsN op a b
  else if op = 8 then (if a ≠ 0 ∧ b ≠ 0 then 1 else 0) else if op = 9 then (if a ≠ 0 ∨ b ≠ 0 then 1 else 0)
  else if op = 12 ∨ op = 10 then (if a ≠ b then 1 else 0) else orderN op a b

def unN (op a : Int) : Int := if op = 1 then (if a = 0 then 1 else 0) else if op = 2 then wrap32 (-a) else 0

theorem tdiv_least : wrap32 (Int.tdiv (-2147483648) (-1)) = -2147483648 := by
  rw [show Int.tdiv (-2147483648) (-1) = 2147483648 from by decide]; unfold wrap32; omega
theorem tmod_least : Int.tmod (-2147483648) (-1) = 0 := by decide
def R32 (a : Int) : Prop := -2147483648 ≤ a ∧ a ≤ 2147483647

theorem r32_wrap (n : Int) : R32 (wrap32 n) := by unfold R32 wrap32; omega
theorem r32_ite {c : Prop} [Decidable c] {a b : Int} (ha : R32 a) (hb : R32 b) : R32 (if c then a else b) := by split <;> assumption
theorem r32_0 : R32 0 := by unfold R32; omega
theorem r32_1 : R32 1 := by unfold R32; omega
theorem r32_tmod (a b : Int) (ha : R32 a) : R32 (a.tmod b) := by
  unfold R32 at *
  have h1 : (a.tmod b).natAbs ≤ a.natAbs := by rw [Int.natAbs_tmod]; exact Nat.mod_le _ _
  rcases Int.le_total 0 a with h | h
  · have := Int.tmod_nonneg b h; omega
  · have h2 : 0 ≤ (-a).tmod b := Int.tmod_nonneg b (by omega)
    rw [Int.neg_tmod] at h2; omega
theorem mul_bd (a b : Int) (ha : -2147483648 ≤ a ∧ a ≤ 2147483647) (hb : -2147483648 ≤ b ∧ b ≤ 2147483647) :
    -4611686018427387904 ≤ a * b ∧ a * b ≤ 4611686018427387904 := by
  have h : (a * b).natAbs ≤ 2147483648 * 2147483648 := by
    rw [Int.natAbs_mul]; exact Nat.mul_le_mul (by omega) (by omega)
  omega
theorem binN_bd (op a b : Int) (ha : R32 a) : R32 (binN op a b) := by
  unfold binN partsN orderN
  repeat' (first | exact r32_wrap _ | exact r32_0 | exact r32_1 | exact r32_tmod _ _ ha | refine r32_ite ?_ ?_)
theorem unN_bd (op a : Int) : R32 (unN op a) := by
  unfold unN
  repeat' (first | exact r32_wrap _ | exact r32_0 | exact r32_1 | refine r32_ite ?_ ?_)

theorem ret32 {a b : Int} (h : a = b) : Ending.returned (.int .i32 a) = .returned (.int .i32 b) := by rw [h]

set_option maxHeartbeats 400000 in
theorem truth_any (b : Bool) (w : World) :
    Calls Try.prog 58 #[.bool b] w fun e w' => e = .returned (.int .i32 (if b then 1 else 0)) ∧ w = w' := by
  cases b
  all_goals
    go_enter Try.func58, Try.ntmps58
    go_wp2
    go_ret
    exact ⟨rfl, rfl⟩

set_option maxHeartbeats 400000 in
theorem is_any (b : Bool) (w : World) :
    Calls Try.prog 31 #[.bool b] w fun e w' => e = .returned (.int .i32 (if b then 1 else 0)) ∧ w = w' := by
  cases b
  all_goals
    go_enter Try.func31, Try.ntmps31
    go_wp2
    go_ret
    exact ⟨rfl, rfl⟩

set_option maxHeartbeats 1000000 in
theorem order_any (op a b : Int) (w : World) :
    Calls Try.prog 60 #[.int .u8 op, .int .i32 a, .int .i32 b] w fun e w' => e = .returned (.int .i32 (orderN op a b)) ∧ w = w' := by
  go_enter Try.func60, Try.ntmps60
  go_wp2_with (go_at_call 58; refine (truth_any _ _).mono ?_; rintro e w' ⟨rfl, rfl⟩)
  all_goals
    go_ret
    refine ⟨ret32 ?_, rfl⟩
    simp only [beq_iff_eq, beq_eq_false_iff_ne, ne_eq] at *
    unfold orderN
    simp only [*, if_true, if_false]
    repeat' split
    all_goals first | rfl | omega

set_option maxHeartbeats 1000000 in
theorem parts_any (op a b : Int) (ha : R32 a) (hb : R32 b) (w : World) :
    Calls Try.prog 59 #[.int .u8 op, .int .i32 a, .int .i32 b] w fun e w' => e = .returned (.int .i32 (partsN op a b)) ∧ w = w' := by
  unfold R32 at ha hb
  by_cases h0 : b = 0
  · go_enter Try.func59, Try.ntmps59
    go_wp2
    go_ret
    exact ⟨ret32 (by simp [partsN, h0]), rfl⟩
  · by_cases h1 : a = -2147483648
    · have e1 : partsN 6 (-2147483648) (-1) = -2147483648 := by simp only [partsN]; exact tdiv_least
      have e2 : ∀ op, ¬ op = 6 → partsN op (-2147483648) (-1) = 0 := by intro op h; simp only [partsN, if_neg h]; exact tmod_least
      have e3 : partsN 6 (-2147483648) b = wrap32 (-Int.tdiv 2147483648 b) := by
        simp only [partsN, if_neg h0, if_true, Int.neg_tdiv]
      have e4 : ∀ op, ¬ op = 6 → partsN op (-2147483648) b = -(2147483648 % b) := by
        intro op h; simp only [partsN, if_neg h0, if_neg h, Int.neg_tmod]; rw [Int.tmod_eq_emod_of_nonneg (by omega)]
      have E1 := Lib.hid e1; have E2 := Lib.hid e2; have E3 := Lib.hid e3; have E4 := Lib.hid e4
      clear e1 e2 e3 e4
      subst h1
      go_enter Try.func59, Try.ntmps59
      go_wp2
      all_goals
        go_ret
        refine ⟨ret32 ?_, rfl⟩
        simp only [beq_iff_eq, beq_eq_false_iff_ne, ne_eq] at *
        by_cases hb1 : b = -1
        · subst hb1
          by_cases ho : op = 6
          · subst ho; first | exact E1.out.symm | (exfalso; omega)
          · first | exact (E2.out op ho).symm | (exfalso; omega)
        · by_cases ho : op = 6
          · subst ho; first | exact E3.out.symm | (exfalso; omega)
          · first | exact (E4.out op ho).symm | (exfalso; omega)
    · go_enter Try.func59, Try.ntmps59
      go_wp2
      all_goals
        go_ret
        refine ⟨ret32 ?_, rfl⟩
        simp only [beq_iff_eq, beq_eq_false_iff_ne, ne_eq] at *
        simp only [partsN, *, if_true, if_false]

set_option maxHeartbeats 1000000 in
theorem bin_any (op a b : Int) (ha : R32 a) (hb : R32 b) (w : World) :
    Calls Try.prog 57 #[.int .u8 op, .int .i32 a, .int .i32 b] w fun e w' => e = .returned (.int .i32 (binN op a b)) ∧ w = w' := by
  have HA := Lib.hid ha
  have HB := Lib.hid hb
  clear ha hb
  go_enter Try.func57, Try.ntmps57
  go_wp2_with (first | (go_at_call 58; refine (truth_any _ _).mono ?_; rintro e w' ⟨rfl, rfl⟩) | (go_at_call 59; refine (parts_any _ _ _ HA.out HB.out _).mono ?_; rintro e w' ⟨rfl, rfl⟩) | (go_at_call 60; refine (order_any _ _ _ _).mono ?_; rintro e w' ⟨rfl, rfl⟩))
  all_goals
    go_ret
    refine ⟨ret32 ?_, rfl⟩
    simp only [beq_iff_eq, beq_eq_false_iff_ne, bne_iff_ne, bne_eq_false_iff_eq, ne_eq] at *
    unfold binN
    simp (config := { decide := true }) only [*, if_true, if_false, true_or, or_true, or_self, not_true_eq_false, not_false_eq_true, true_and, and_true, false_and, and_false, and_self]
    try (first | rfl | (repeat' split <;> first | rfl | omega))

set_option maxHeartbeats 1000000 in
theorem un_any (op a : Int) (ha : R32 a) (w : World) :
    Calls Try.prog 56 #[.int .u8 op, .int .i32 a] w fun e w' => e = .returned (.int .i32 (unN op a)) ∧ w = w' := by
  unfold R32 at ha
  go_enter Try.func56, Try.ntmps56
  go_wp2_with (go_at_call 58; refine (truth_any _ _).mono ?_; rintro e w' ⟨rfl, rfl⟩)
  all_goals
    go_ret
    refine ⟨ret32 ?_, rfl⟩
    simp only [beq_iff_eq, beq_eq_false_iff_ne, bne_iff_ne, bne_eq_false_iff_eq, ne_eq] at *
    simp (config := { decide := true }) only [unN, *, if_true, if_false]
    try (first | rfl | (repeat' split <;> first | rfl | omega))

set_option maxHeartbeats 1000000 in
theorem wrap_any (n : Int) (h0 : -4611686018427387905 < n) (h1 : n < 4611686018427387905) (w : World) :
    Calls Try.prog 30 #[.int .i64 n] w fun e w' => e = .returned (.int .i32 (wrap32 n)) ∧ w = w' := by
  go_enter Try.func30, Try.ntmps30
  go_wp2
  go_loop [0] (fun v => ∃ m : Int, v = .int .i64 m ∧ -4611686018427387905 < m ∧ m < 4611686018427387905 ∧ Hid (wrap32 m = wrap32 n)) (fun v => (intOf v).toNat)
  case atStart => exact ⟨n, rfl, h0, h1, Lib.hid rfl⟩
  case round =>
    obtain ⟨m, rfl, hm0, hm1, hw⟩ := hrel
    by_cases hc : 2147483648 ≤ m
    · go_wp2
      exact ⟨⟨_, rfl, by omega, by omega, Lib.hid (by rw [← hw.out]; unfold wrap32; omega)⟩, by simp only [intOf]; omega⟩
    · go_wp2
      go_loop [0] (fun v => ∃ m : Int, v = .int .i64 m ∧ -4611686018427387905 < m ∧ m < 2147483648 ∧ Hid (wrap32 m = wrap32 n)) (fun v => (-(intOf v)).toNat)
      case atStart => exact ⟨m, rfl, hm0, by omega, hw⟩
      case round =>
        obtain ⟨m2, rfl, hm20, hm21, hw2⟩ := hrel
        by_cases hc2 : m2 < -2147483648
        · go_wp2
          exact ⟨⟨_, rfl, by omega, by omega, Lib.hid (by rw [← hw2.out]; unfold wrap32; omega)⟩, by simp only [intOf]; omega⟩
        · go_wp2
          go_ret
          exact ⟨ret32 (by rw [← hw2.out]; first | rfl | (unfold wrap32; omega)), rfl⟩

theorem tdiv_bd (a b : Int) (ha : -2147483648 ≤ a ∧ a ≤ 2147483647) : -2147483648 ≤ a.tdiv b ∧ a.tdiv b ≤ 2147483648 := by
  have h : (a.tdiv b).natAbs ≤ a.natAbs := by rw [Int.natAbs_tdiv]; exact Nat.div_le_self _ _
  omega

set_option maxHeartbeats 2000000 in
theorem rbin_any (op a b : Int) (ha : R32 a) (hb : R32 b) (w : World) :
    Calls Try.prog 13 #[.int .u8 op, .int .i32 a, .int .i32 b] w fun e w' => e = .returned (.int .i32 (binN op a b)) ∧ w = w' := by
  have hr := r32_tmod a b ha
  unfold R32 at ha hb hr
  have hm : -4611686018427387904 ≤ a * b ∧ a * b ≤ 4611686018427387904 := mul_bd a b ha hb
  have hq := tdiv_bd a b ha
  have e1 : wrap32 (a.tmod b) = a.tmod b := by unfold wrap32; omega
  have E1 := Lib.hid e1
  clear e1
  by_cases h0 : b = 0
  all_goals
    go_enter Try.func13, Try.ntmps13
    go_wp2_with (first | (go_at_call 31; refine (is_any _ _).mono ?_; rintro e w' ⟨rfl, rfl⟩) | (go_at_call 30; refine (wrap_any _ (by omega) (by omega) _).mono ?_; rintro e w' ⟨rfl, rfl⟩))
    all_goals
      go_ret
      refine ⟨ret32 ?_, rfl⟩
      go_light
      simp only [beq_iff_eq, beq_eq_false_iff_ne, bne_iff_ne, bne_eq_false_iff_eq, ne_eq] at *
      unfold binN partsN orderN
      simp (config := { decide := true }) only [*, if_true, if_false, true_or, or_true, or_self, not_true_eq_false, not_false_eq_true, true_and, and_true, false_and, and_false, and_self, Int.add_zero, Int.sub_zero, Int.mul_zero, E1.out]
      try (first | rfl | (repeat' split <;> first | rfl | omega))

theorem ACalls.ofOld {g : FuncId} {vs : List Value} {r : Value} {m : M} (hc : canCall Try.prog g = true) (hr : atom r = true) (ha : ∀ v ∈ vs, atom v = true) (h : ∀ w, Calls Try.prog g vs.toArray w fun e w' => e = .returned r ∧ w = w') :
    ACalls Try.prog g (vs.map PV.v) m (fun v m' => v = .v r ∧ m' = m) := by
  refine ⟨hc, fun G w us hI hl hr' => ?_⟩
  have hus : us = vs := by
    apply List.ext_getElem (by simpa using hl.symm)
    intro j h1 h2
    have := hr' j (by simpa using h2) h1
    simp only [List.getElem_map] at this
    exact this.atomEq
  subst hus
  refine (h w).mono ?_
  rintro e w' ⟨rfl, rfl⟩
  exact .inl ⟨_, _, m, G, rfl, ⟨rfl, rfl⟩, .v hr, hI, .refl _ _⟩
abbrev pJ (n : Int) : PV := .v (.int .i32 n)
theorem numBin_any (op a b : Int) (ha : R32 a) (hb : R32 b) (m : M) : ACalls Try.prog 57 [.v (.int .u8 op), pJ a, pJ b] m (fun v m' => v = pJ (binN op a b) ∧ m' = m) :=
  ACalls.ofOld (vs := [.int .u8 op, .int .i32 a, .int .i32 b]) (by kernel_rfl) rfl (by simp [atom]) (fun w => bin_any op a b ha hb w)
theorem numUn_any (op a : Int) (ha : R32 a) (m : M) : ACalls Try.prog 56 [.v (.int .u8 op), pJ a] m (fun v m' => v = pJ (unN op a) ∧ m' = m) :=
  ACalls.ofOld (vs := [.int .u8 op, .int .i32 a]) (by kernel_rfl) rfl (by simp [atom]) (fun w => un_any op a ha w)
theorem refBin_any (op a b : Int) (ha : R32 a) (hb : R32 b) (m : M) : ACalls Try.prog 13 [.v (.int .u8 op), pJ a, pJ b] m (fun v m' => v = pJ (binN op a b) ∧ m' = m) :=
  ACalls.ofOld (vs := [.int .u8 op, .int .i32 a, .int .i32 b]) (by kernel_rfl) rfl (by simp [atom]) (fun w => rbin_any op a b ha hb w)
end Go.Proofs.Ytmcajiccepgagaa
