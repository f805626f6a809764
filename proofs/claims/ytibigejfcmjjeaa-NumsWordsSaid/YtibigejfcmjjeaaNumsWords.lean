/-
  Proved: the law NumsWords returns true at every input, and its arguments read afterwards as before. No condition.
-/
import Derived.Test.YtibigejfcmjjeaaRows
import Derived.WalkKit
import Derived.ProofKit
import Derived.OpenShut
import Derived.Test.YtibigejfcmjjeaaNums
import Derived.ShutString
namespace Go.Proofs.Ytibigejfcmjjeaa.numsWords
open Go.ChangeShapes Go.WideShapes Go.ChangeAt Go.RowKit
open Go.ChangeMaps (open_string shut_string)
set_option linter.unusedVariables false      -- a walk need not use every 'w<i>' (that an integer argument fits its kind)

theorem own : ownKnob Try.prog.godebug = none := by kernel_rfl

theorem grown_trans {a b c : World} (h1 : Grown a b) (h2 : Grown b c) : Grown a c :=
  ⟨World.keptBut_trans h1.1 h2.1, fun x => (h2.2.1 x).trans (h1.2.1 x), Nat.le_trans h1.2.2 h2.2.2⟩
def wordN (op : Int) : ByteArray := [⟨#[]⟩, ⟨#[110, 111, 116]⟩, ⟨#[45]⟩, ⟨#[43]⟩, ⟨#[45]⟩, ⟨#[42]⟩, ⟨#[47]⟩, ⟨#[109, 111, 100]⟩, ⟨#[97, 110, 100]⟩, ⟨#[111, 114]⟩, ⟨#[120, 111, 114]⟩, ⟨#[61]⟩, ⟨#[60, 62]⟩, ⟨#[60]⟩, ⟨#[60, 61]⟩, ⟨#[62]⟩, ⟨#[62, 61]⟩].getD op.toNat ⟨#[]⟩
def strengthN (op : Int) : Int := [0, 0, 0, 4, 4, 5, 5, 5, 2, 1, 1, 3, 3, 3, 3, 3, 3].getD op.toNat 0
def inN (op : Int) : Int := [0, 1, 2, 2, 2, 2, 2, 2, 1, 1, 1, 0, 0, 2, 2, 2, 2].getD op.toNat 0
def outN (op : Int) : Int := [0, 1, 2, 2, 2, 2, 2, 2, 1, 1, 1, 1, 1, 1, 1, 1, 1].getD op.toNat 0
theorem getD_out {α : Type} (l : List α) (d : α) (n : Nat) (h : l.length ≤ n) : l.getD n d = d := by
  rw [List.getD_eq_getElem?_getD, List.getElem?_eq_none h]; rfl
theorem word_out (op : Int) (h : 17 ≤ op) : wordN op = ⟨#[]⟩ := getD_out _ _ _ (by simp; omega)
theorem strength_out (op : Int) (h : 17 ≤ op) : strengthN op = 0 := getD_out _ _ _ (by simp; omega)
theorem in_out (op : Int) (h : 17 ≤ op) : inN op = 0 := getD_out _ _ _ (by simp; omega)
theorem out_out (op : Int) (h : 17 ≤ op) : outN op = 0 := getD_out _ _ _ (by simp; omega)
theorem retS {a b : ByteArray} (h : a = b) : Ending.returned (.string a) = .returned (.string b) := by rw [h]
theorem retI {k : IntKind} {a b : Int} (h : a = b) : Ending.returned (.int k a) = .returned (.int k b) := by rw [h]
theorem retB {k : IntKind} {a b c d : Int} (h : a = b) (h2 : c = d) : Ending.returned (.tuple #[.int k a, .int k c]) = .returned (.tuple #[.int k b, .int k d]) := by rw [h, h2]

set_option maxHeartbeats 4000000 in
theorem word_any (op : Int) (h0 : 0 ≤ op ∧ op ≤ 255) (w : World) :
    Calls Try.prog 17 #[.int .u8 op] w fun e w' => e = .returned (.string (wordN op)) ∧ Grown w w' := by
  have hop : op = 0 ∨ op = 1 ∨ op = 2 ∨ op = 3 ∨ op = 4 ∨ op = 5 ∨ op = 6 ∨ op = 7 ∨ op = 8 ∨ op = 9 ∨ op = 10 ∨ op = 11 ∨ op = 12 ∨ op = 13 ∨ op = 14 ∨ op = 15 ∨ op = 16 ∨ (17 ≤ op ∧ op ≤ 255) := by omega
  have t1 : 17 ≤ op → decide (op ≤ 10) = false ∧ decide (op ≤ 7) = false ∧ decide (op ≤ 16) = false ∧ decide (op ≤ 14) = false := by
    intro h; refine ⟨?_, ?_, ?_, ?_⟩ <;> simp <;> omega
  have t2 : 17 ≤ op → (op == 1) = false ∧ (op == 2) = false ∧ (op == 11) = false ∧ (op == 12) = false ∧ (op == 9) = false ∧ (op == 10) = false ∧ (op == 3) = false ∧ (op == 4) = false ∧ (op == 8) = false := by
    intro h; refine ⟨?_, ?_, ?_, ?_, ?_, ?_, ?_, ?_, ?_⟩ <;> simp <;> omega
  have H0 := Lib.hid h0
  clear h0
  rcases hop with rfl | rfl | rfl | rfl | rfl | rfl | rfl | rfl | rfl | rfl | rfl | rfl | rfl | rfl | rfl | rfl | rfl | h17
  rotate_left 17
  · obtain ⟨t3, t4, t5, t6⟩ := t1 h17.1
    obtain ⟨t7, t8, t9, t10, t11, t12, t13, t14, t15⟩ := t2 h17.1
    clear t1 t2
    go_enter Try.func17, Try.ntmps17
    go_wp2
    go_ret
    exact ⟨retS (by first | rfl | exact (word_out _ h17.1).symm), by repeat (first | exact Grown.refl _ | apply Grown.drew | apply Grown.alloc)⟩
  all_goals
    clear t1 t2
    go_enter Try.func17, Try.ntmps17
    go_wp2
    go_ret
    exact ⟨retS (by first | rfl | exact (word_out _ h17.1).symm), by repeat (first | exact Grown.refl _ | apply Grown.drew | apply Grown.alloc)⟩

set_option maxHeartbeats 4000000 in
theorem rword_any (op : Int) (h0 : 0 ≤ op ∧ op ≤ 255) (w : World) :
    Calls Try.prog 18 #[.int .u8 op] w fun e w' => e = .returned (.string (wordN op)) ∧ w = w' := by
  have hop : op = 0 ∨ op = 1 ∨ op = 2 ∨ op = 3 ∨ op = 4 ∨ op = 5 ∨ op = 6 ∨ op = 7 ∨ op = 8 ∨ op = 9 ∨ op = 10 ∨ op = 11 ∨ op = 12 ∨ op = 13 ∨ op = 14 ∨ op = 15 ∨ op = 16 ∨ (17 ≤ op ∧ op ≤ 255) := by omega
  have t1 : 17 ≤ op → decide (op ≤ 10) = false ∧ decide (op ≤ 7) = false ∧ decide (op ≤ 16) = false ∧ decide (op ≤ 14) = false := by
    intro h; refine ⟨?_, ?_, ?_, ?_⟩ <;> simp <;> omega
  have t2 : 17 ≤ op → (op == 1) = false ∧ (op == 2) = false ∧ (op == 11) = false ∧ (op == 12) = false ∧ (op == 9) = false ∧ (op == 10) = false ∧ (op == 3) = false ∧ (op == 4) = false ∧ (op == 8) = false := by
    intro h; refine ⟨?_, ?_, ?_, ?_, ?_, ?_, ?_, ?_, ?_⟩ <;> simp <;> omega
  have H0 := Lib.hid h0
  clear h0
  rcases hop with rfl | rfl | rfl | rfl | rfl | rfl | rfl | rfl | rfl | rfl | rfl | rfl | rfl | rfl | rfl | rfl | rfl | h17
  rotate_left 17
  · obtain ⟨t3, t4, t5, t6⟩ := t1 h17.1
    obtain ⟨t7, t8, t9, t10, t11, t12, t13, t14, t15⟩ := t2 h17.1
    clear t1 t2
    go_enter Try.func18, Try.ntmps18
    go_wp2
    go_ret
    exact ⟨retS (by first | rfl | exact (word_out _ h17.1).symm), rfl⟩
  all_goals
    clear t1 t2
    go_enter Try.func18, Try.ntmps18
    go_wp2
    go_ret
    exact ⟨retS (by first | rfl | exact (word_out _ h17.1).symm), rfl⟩

set_option maxHeartbeats 4000000 in
theorem strength_any (op : Int) (h0 : 0 ≤ op ∧ op ≤ 255) (w : World) :
    Calls Try.prog 19 #[.int .u8 op] w fun e w' => e = .returned (.int .i64 (strengthN op)) ∧ w = w' := by
  have hop : op = 0 ∨ op = 1 ∨ op = 2 ∨ op = 3 ∨ op = 4 ∨ op = 5 ∨ op = 6 ∨ op = 7 ∨ op = 8 ∨ op = 9 ∨ op = 10 ∨ op = 11 ∨ op = 12 ∨ op = 13 ∨ op = 14 ∨ op = 15 ∨ op = 16 ∨ (17 ≤ op ∧ op ≤ 255) := by omega
  have t1 : 17 ≤ op → decide (op ≤ 10) = false ∧ decide (op ≤ 7) = false ∧ decide (op ≤ 16) = false ∧ decide (op ≤ 14) = false := by
    intro h; refine ⟨?_, ?_, ?_, ?_⟩ <;> simp <;> omega
  have t2 : 17 ≤ op → (op == 1) = false ∧ (op == 2) = false ∧ (op == 11) = false ∧ (op == 12) = false ∧ (op == 9) = false ∧ (op == 10) = false ∧ (op == 3) = false ∧ (op == 4) = false ∧ (op == 8) = false := by
    intro h; refine ⟨?_, ?_, ?_, ?_, ?_, ?_, ?_, ?_, ?_⟩ <;> simp <;> omega
  have H0 := Lib.hid h0
  clear h0
  rcases hop with rfl | rfl | rfl | rfl | rfl | rfl | rfl | rfl | rfl | rfl | rfl | rfl | rfl | rfl | rfl | rfl | rfl | h17
  rotate_left 17
  · obtain ⟨t3, t4, t5, t6⟩ := t1 h17.1
    obtain ⟨t7, t8, t9, t10, t11, t12, t13, t14, t15⟩ := t2 h17.1
    clear t1 t2
    go_enter Try.func19, Try.ntmps19
    go_wp2
    go_ret
    exact ⟨retI (by first | rfl | exact (strength_out _ h17.1).symm), rfl⟩
  all_goals
    clear t1 t2
    go_enter Try.func19, Try.ntmps19
    go_wp2
    go_ret
    exact ⟨retI (by first | rfl | exact (strength_out _ h17.1).symm), rfl⟩

set_option maxHeartbeats 4000000 in
theorem rstrength_any (op : Int) (h0 : 0 ≤ op ∧ op ≤ 255) (w : World) :
    Calls Try.prog 20 #[.int .u8 op] w fun e w' => e = .returned (.int .i64 (strengthN op)) ∧ w = w' := by
  have hop : op = 0 ∨ op = 1 ∨ op = 2 ∨ op = 3 ∨ op = 4 ∨ op = 5 ∨ op = 6 ∨ op = 7 ∨ op = 8 ∨ op = 9 ∨ op = 10 ∨ op = 11 ∨ op = 12 ∨ op = 13 ∨ op = 14 ∨ op = 15 ∨ op = 16 ∨ (17 ≤ op ∧ op ≤ 255) := by omega
  have t1 : 17 ≤ op → decide (op ≤ 10) = false ∧ decide (op ≤ 7) = false ∧ decide (op ≤ 16) = false ∧ decide (op ≤ 14) = false := by
    intro h; refine ⟨?_, ?_, ?_, ?_⟩ <;> simp <;> omega
  have t2 : 17 ≤ op → (op == 1) = false ∧ (op == 2) = false ∧ (op == 11) = false ∧ (op == 12) = false ∧ (op == 9) = false ∧ (op == 10) = false ∧ (op == 3) = false ∧ (op == 4) = false ∧ (op == 8) = false := by
    intro h; refine ⟨?_, ?_, ?_, ?_, ?_, ?_, ?_, ?_, ?_⟩ <;> simp <;> omega
  have H0 := Lib.hid h0
  clear h0
  rcases hop with rfl | rfl | rfl | rfl | rfl | rfl | rfl | rfl | rfl | rfl | rfl | rfl | rfl | rfl | rfl | rfl | rfl | h17
  rotate_left 17
  · obtain ⟨t3, t4, t5, t6⟩ := t1 h17.1
    obtain ⟨t7, t8, t9, t10, t11, t12, t13, t14, t15⟩ := t2 h17.1
    clear t1 t2
    go_enter Try.func20, Try.ntmps20
    go_wp2
    go_ret
    exact ⟨retI (by first | rfl | exact (strength_out _ h17.1).symm), rfl⟩
  all_goals
    clear t1 t2
    go_enter Try.func20, Try.ntmps20
    go_wp2
    go_ret
    exact ⟨retI (by first | rfl | exact (strength_out _ h17.1).symm), rfl⟩

set_option maxHeartbeats 4000000 in
theorem types_any (op : Int) (h0 : 0 ≤ op ∧ op ≤ 255) (w : World) :
    Calls Try.prog 15 #[.int .u8 op] w fun e w' => e = .returned (.tuple #[.int .u8 (inN op), .int .u8 (outN op)]) ∧ w = w' := by
  have hop : op = 0 ∨ op = 1 ∨ op = 2 ∨ op = 3 ∨ op = 4 ∨ op = 5 ∨ op = 6 ∨ op = 7 ∨ op = 8 ∨ op = 9 ∨ op = 10 ∨ op = 11 ∨ op = 12 ∨ op = 13 ∨ op = 14 ∨ op = 15 ∨ op = 16 ∨ (17 ≤ op ∧ op ≤ 255) := by omega
  have t1 : 17 ≤ op → decide (op ≤ 10) = false ∧ decide (op ≤ 7) = false ∧ decide (op ≤ 16) = false ∧ decide (op ≤ 14) = false := by
    intro h; refine ⟨?_, ?_, ?_, ?_⟩ <;> simp <;> omega
  have t2 : 17 ≤ op → (op == 1) = false ∧ (op == 2) = false ∧ (op == 11) = false ∧ (op == 12) = false ∧ (op == 9) = false ∧ (op == 10) = false ∧ (op == 3) = false ∧ (op == 4) = false ∧ (op == 8) = false := by
    intro h; refine ⟨?_, ?_, ?_, ?_, ?_, ?_, ?_, ?_, ?_⟩ <;> simp <;> omega
  have H0 := Lib.hid h0
  clear h0
  rcases hop with rfl | rfl | rfl | rfl | rfl | rfl | rfl | rfl | rfl | rfl | rfl | rfl | rfl | rfl | rfl | rfl | rfl | h17
  rotate_left 17
  · obtain ⟨t3, t4, t5, t6⟩ := t1 h17.1
    obtain ⟨t7, t8, t9, t10, t11, t12, t13, t14, t15⟩ := t2 h17.1
    clear t1 t2
    go_enter Try.func15, Try.ntmps15
    go_wp2
    go_ret2
    exact ⟨retB (by first | rfl | exact (in_out _ h17.1).symm) (by first | rfl | exact (out_out _ h17.1).symm), rfl⟩
  all_goals
    clear t1 t2
    go_enter Try.func15, Try.ntmps15
    go_wp2
    go_ret2
    exact ⟨retB (by first | rfl | exact (in_out _ h17.1).symm) (by first | rfl | exact (out_out _ h17.1).symm), rfl⟩

set_option maxHeartbeats 4000000 in
theorem rtypes_any (op : Int) (h0 : 0 ≤ op ∧ op ≤ 255) (w : World) :
    Calls Try.prog 16 #[.int .u8 op] w fun e w' => e = .returned (.tuple #[.int .u8 (inN op), .int .u8 (outN op)]) ∧ w = w' := by
  have hop : op = 0 ∨ op = 1 ∨ op = 2 ∨ op = 3 ∨ op = 4 ∨ op = 5 ∨ op = 6 ∨ op = 7 ∨ op = 8 ∨ op = 9 ∨ op = 10 ∨ op = 11 ∨ op = 12 ∨ op = 13 ∨ op = 14 ∨ op = 15 ∨ op = 16 ∨ (17 ≤ op ∧ op ≤ 255) := by omega
  have t1 : 17 ≤ op → decide (op ≤ 10) = false ∧ decide (op ≤ 7) = false ∧ decide (op ≤ 16) = false ∧ decide (op ≤ 14) = false := by
    intro h; refine ⟨?_, ?_, ?_, ?_⟩ <;> simp <;> omega
  have t2 : 17 ≤ op → (op == 1) = false ∧ (op == 2) = false ∧ (op == 11) = false ∧ (op == 12) = false ∧ (op == 9) = false ∧ (op == 10) = false ∧ (op == 3) = false ∧ (op == 4) = false ∧ (op == 8) = false := by
    intro h; refine ⟨?_, ?_, ?_, ?_, ?_, ?_, ?_, ?_, ?_⟩ <;> simp <;> omega
  have H0 := Lib.hid h0
  clear h0
  rcases hop with rfl | rfl | rfl | rfl | rfl | rfl | rfl | rfl | rfl | rfl | rfl | rfl | rfl | rfl | rfl | rfl | rfl | h17
  rotate_left 17
  · obtain ⟨t3, t4, t5, t6⟩ := t1 h17.1
    obtain ⟨t7, t8, t9, t10, t11, t12, t13, t14, t15⟩ := t2 h17.1
    clear t1 t2
    go_enter Try.func16, Try.ntmps16
    go_wp2
    go_ret2
    exact ⟨retB (by first | rfl | exact (in_out _ h17.1).symm) (by first | rfl | exact (out_out _ h17.1).symm), rfl⟩
  all_goals
    clear t1 t2
    go_enter Try.func16, Try.ntmps16
    go_wp2
    go_ret2
    exact ⟨retB (by first | rfl | exact (in_out _ h17.1).symm) (by first | rfl | exact (out_out _ h17.1).symm), rfl⟩
set_option maxHeartbeats 2000000 in
theorem walk (a0 : Int) (w0 : (Lit.int .u8 a0).wf = true) (w : World) :
    Calls Try.prog 9 #[.int .u8 a0] w fun e w' => e = .returned (.bool true) ∧ Grown w w' := by
  have b0 := bounds_u8 w0
  go_enter Try.func9, Try.ntmps9
  go_wp2_with (first | (go_at_call 10; refine (awake_any _).mono ?_; rintro e w' ⟨rfl, rfl⟩) | (go_at_call 15; refine (types_any _ (by omega) _).mono ?_; rintro e w' ⟨rfl, rfl⟩) | (go_at_call 16; refine (rtypes_any _ (by omega) _).mono ?_; rintro e w' ⟨rfl, rfl⟩) | (go_at_call 19; refine (strength_any _ (by omega) _).mono ?_; rintro e w' ⟨rfl, rfl⟩) | (go_at_call 20; refine (rstrength_any _ (by omega) _).mono ?_; rintro e w' ⟨rfl, rfl⟩) | (go_at_call 17; refine (word_any _ (by omega) _).mono ?_; rintro e w' ⟨rfl, hgr⟩) | (go_at_call 18; refine (rword_any _ (by omega) _).mono ?_; rintro e w' ⟨rfl, rfl⟩))
  go_ret
  exact ⟨rfl, grown_trans ‹_› ‹_›⟩

set_option maxRecDepth 100000 in
theorem lifted (os : Os) (started : os.Started) (H : Type) (enc : TypeId × Value → H) :
    ReturnsInHanded {} Try.checked os 9 .any (Rows.numsWordsSpec.pre6 enc Try.prog Try.f9 Rows.numsWordsRow.domain false) (Rows.numsWordsSpec.post enc Try.prog Try.f9 false true false false) := by
  refine returnsInHanded_of_change (C := Try.checked) own started (by kernel_rfl) Try.func9
    (ChangeSpec.witness6 (enc := enc) (C := Try.checked) false ⟨#[], #[.int .u8 0], []⟩ 8 (by kernel_rfl) (by kernel_rfl) (by kernel_rfl) (by kernel_rfl)) ?_
  intro W base args ds gs before hval0 hW hcnd _
  have hval : ∀ (j : Nat) t v, Try.f9.params[j]? = some t → args[j]? = some v → Value.okWide Try.prog W .any base t v := hval0
  have hW' := hW
  obtain ⟨p, q, hA0, hV, rfl, hfz, hnd⟩ := hW
  have hA : DataW.TrodAll enc Try.prog W 0 (fun _ => true) true Try.f9.params.toList args.toList ds p := hA0
  rw [Try.params9] at hA hval
  obtain ⟨v0, vs0, d0, ds0, p0, q0, hargs, rfl, rfl, h0, r0⟩ := trodAll_cons hA
  obtain ⟨rfl, rfl, rfl⟩ := trodAll_nil r0
  obtain rfl : args = #[v0] := by cases args; simp_all
  obtain ⟨rfl, rfl⟩ := trodVars_none hV
  obtain ⟨a0, rfl, rfl, rfl, w0⟩ := open_int Try.underlying5 (hval 0 5 v0 rfl rfl) h0
  clear hA0 hval0
  simp only [List.append_nil] at hW'
  refine (walk a0 w0 W).mono fun e W' ⟨he, hg⟩ => ?_
  subst he
  exact ⟨_, rfl, post_of_same (pa := []) (pv := []) hW' (fun _ _ _ => (trodAll_cons_mk (shut_bool Try.underlying4 _) trodAll_mk0)) (fun sp _ => (trodAll_cons_mk (shut_int Try.underlying5 w0) trodAll_mk0)) (fun _ _ => rfl) rfl
    (hg.frame _) hg.2.1 (ok_one (by kernel_rfl) rfl (okWide_bool_mk Try.underlying4 _))⟩

theorem over : Rows.numsWordsRow.holds Try.pinned (OpenSpec.ofChange Rows.numsWordsSpec) :=
  OpenClaim.holds_of_wide 9 Try.f9 rfl rfl rfl rfl rfl rfl rfl ⟨rfl, rfl, rfl, rfl, rfl⟩ rfl rfl rfl rfl rfl (by kernel_rfl) Try.func9 (by kernel_rfl)
    (of_decide_eq_true (by kernel_rfl)) (by unfold Func.isWrapper; first | (rw [if_pos (by decide +kernel)]; kernel_rfl) | (rw [if_neg (by decide +kernel)]; exact ⟨rfl, rfl⟩))
    (fun os started H enc _ => lifted os started H enc)

theorem proved : Rows.NumsWordsSaid :=
  over
#print axioms proved
end Go.Proofs.Ytibigejfcmjjeaa.numsWords
