/-
  Proved: the law LexKeys returns true at every input, and its arguments read afterwards as before. No condition.
-/
import Derived.Test.YtijdhfjdnndkmaaRows
import Derived.WalkKit
import Derived.ProofKit
import Derived.OpenShut
import Derived.HandedShaped
import Derived.Shelf.Vars
import Derived.Test.YtijdhfjdnndkmaaLexAw
import Derived.Test.YtijdhfjdnndkmaaPost
import Derived.ShutString
namespace Go.Proofs.Ytijdhfjdnndkmaa.lexKeys
open Go.ChangeShapes Go.WideShapes Go.ChangeAt Go.RowKit
open Go.ChangeMaps (open_string shut_string)
set_option linter.unusedVariables false      -- a walk need not use every 'w<i>' (that an integer argument fits its kind)

theorem own : ownKnob Try.prog.godebug = none := by kernel_rfl

set_option maxHeartbeats 2000000 in
theorem walk (a0 : ByteArray) (a1 : Int) (w0 : a0.size ≤ maxLen) (w1 : (Lit.int .u8 a1).wf = true) (z0 : a0.size ≤ 140737488351232) (w : World) (m : Int) (hm : w.cell? ⟨0, 0, none⟩ = some (.int .i64 m)) :
    Calls Try.prog 3 #[.string a0, .int .u8 a1] w fun e w' => e = .returned (.bool true) ∧ Below w.heap.size w w' := by
  have b1 := bounds_u8 w1
  have h0 : 0 < w.heap.size := World.block_lt_of_cell? w _ hm
  have HM := Lib.hid hm
  clear hm
  go_enter Try.func3, Try.ntmps3
  go_wp2_with fail
  refine (keys_any _).mono ?_
  rintro e w2 ⟨rfl, hb, hk⟩
  have HB := Lib.hid hb
  have HK := Lib.hid hk
  obtain ⟨k, hk0⟩ : ∃ k : Nat, a1 % 32 = (k : Int) := ⟨(a1 % 32).toNat, by omega⟩
  have hlt : k < 32 := by omega
  have q1 : (0 : Int) ≤ (k : Int) := by omega
  have q2 : (k : Int) < 32 := by omega
  have hcell : w2.cell? ⟨w.heap.size, k, none⟩ = some (.string (keyS k)) := by
    rw [cell_of_row w2 w.heap.size k _ _ _ hk]; exact keysV_at k hlt
  have e1 : isKeyB (keyS k).data.toList = true := isKey_hit k hlt
  have hkb := keys_blank k hlt
  rw [← keyS_data] at hkb
  have e2 : isKeyB (keyS k ++ ⟨#[32]⟩).data.toList = false := by rw [ByteArray.data_append, Array.toList_append]; exact hkb.1
  have e3 : isKeyB (keyS k ++ ⟨#[120]⟩).data.toList = false := by rw [ByteArray.data_append, Array.toList_append]; exact hkb.2
  have es : (keyS k).size ≤ 20 := keyS_size k hlt
  have es2 : (keyS k ++ ⟨#[32]⟩).size ≤ 21 := by rw [ByteArray.size_append]; exact Nat.add_le_add_right es 1
  have es3 : (keyS k ++ ⟨#[120]⟩).size ≤ 21 := by rw [ByteArray.size_append]; exact Nat.add_le_add_right es 1
  have hm2 : w2.cell? ⟨0, 0, none⟩ = some (.int .i64 m) := (hb.cell (p := ⟨0, 0, none⟩) h0).trans HM.out
  have HM2 := Lib.hid hm2
  have E1 := Lib.hid e1
  have E2 := Lib.hid e2
  have E3 := Lib.hid e3
  clear hb hk hm2 hkb e1 e2 e3
  go_wp2_with fail
  refine (awake_any _ m HM2.out).mono ?_
  rintro e w3 ⟨rfl, hb3⟩
  have hm3 : w3.cell? ⟨0, 0, none⟩ = some (.int .i64 m) := (hb3.cell (p := ⟨0, 0, none⟩) (Nat.lt_of_lt_of_le h0 HB.out.size)).trans HM2.out
  have HM3 := Lib.hid hm3
  have HB3 := Lib.hid ((HB.out).trans (hb3.mono HB.out.size))
  clear hb3 hm3
  go_wp2_with fail
  refine (isKey_any a0 m _ (by omega) HM3.out).mono ?_
  rintro e w4 ⟨rfl, rfl⟩
  go_wp2_with fail
  refine (rIsKey_any a0 _).mono ?_
  rintro e w4 ⟨rfl, hb4⟩
  have hm4 : w4.cell? ⟨0, 0, none⟩ = some (.int .i64 m) := (hb4.cell (p := ⟨0, 0, none⟩) (Nat.lt_of_lt_of_le h0 HB3.out.size)).trans HM3.out
  have HM4 := Lib.hid hm4
  have HB4 := Lib.hid ((HB3.out).trans (hb4.mono HB3.out.size))
  clear hb4 hm4
  go_wp2_with fail
  refine (isKey_is _ m _ true E1.out (by omega) HM4.out).mono ?_
  rintro e w5 ⟨rfl, rfl⟩
  go_wp2_with fail
  refine (isKey_is _ m _ false E2.out (by omega) HM4.out).mono ?_
  rintro e w5 ⟨rfl, rfl⟩
  go_wp2_with fail
  refine (isKey_is _ m _ false E3.out (by omega) HM4.out).mono ?_
  rintro e w5 ⟨rfl, rfl⟩
  go_wp2_with fail
  go_ret
  exact ⟨rfl, HB4.out⟩

set_option maxRecDepth 100000 in
theorem lifted (os : Os) (started : os.Started) (H : Type) (enc : TypeId × Value → H) :
    ReturnsInHanded {} Try.checked os 3 .any (Rows.lexKeysSpec.pre6 enc Try.prog Try.f3 Rows.lexKeysRow.domain false) (Rows.lexKeysSpec.post enc Try.prog Try.f3 false true false false) := by
  refine returnsInHanded_of_change_shaped (C := Try.checked) own started (by kernel_rfl) Try.func3
    (ChangeSpec.witness6 (enc := enc) (C := Try.checked) false ⟨#[], #[.string ByteArray.empty, .int .u8 0], []⟩ 8 (by kernel_rfl) (by kernel_rfl) (by kernel_rfl) (by kernel_rfl)) ?_
  intro W base args ds gs before hval0 hW hcnd hreach hsh _
  obtain ⟨m, hm⟩ := cell_of_shapedOpen_int (P := Try.prog) (g := 0) (t := 3) (zero := #[.int .i64 0]) hsh (of_decide_eq_true (by kernel_rfl)) (by kernel_rfl) rfl (by kernel_rfl) (by kernel_rfl) Try.underlying3
  have hval : ∀ (j : Nat) t v, Try.f3.params[j]? = some t → args[j]? = some v → Value.okWide Try.prog W .any base t v := hval0
  have hW' := hW
  obtain ⟨p, q, hA0, hV, rfl, hfz, hnd⟩ := hW
  have hA : DataW.TrodAll enc Try.prog W 0 (fun _ => true) true Try.f3.params.toList args.toList ds p := hA0
  rw [Try.params3] at hA hval
  obtain ⟨v0, vs0, d0, ds0, p0, q0, hargs, rfl, rfl, h0, r0⟩ := trodAll_cons hA
  obtain ⟨v1, vs1, d1, ds1, p1, q1, rfl, rfl, rfl, h1, r1⟩ := trodAll_cons r0
  obtain ⟨rfl, rfl, rfl⟩ := trodAll_nil r1
  obtain rfl : args = #[v0, v1] := by cases args; simp_all
  obtain ⟨rfl, rfl⟩ := trodVars_none hV
  obtain ⟨a0, rfl, rfl, rfl, w0⟩ := open_string Try.underlying9 (hval 0 9 v0 rfl rfl) h0
  obtain ⟨a1, rfl, rfl, rfl, w1⟩ := open_int Try.underlying5 (hval 1 5 v1 rfl rfl) h1
  have z0 : a0.size ≤ 140737488351232 := by
    have h := sized_string hreach (j := 0) (t := 9) rfl rfl
    unfold reachBytes at h
    obtain ⟨⟨l⟩⟩ := a0
    exact h
  clear hA0 hval0
  simp only [List.append_nil] at hW'
  refine (walk a0 a1 w0 w1 z0 W m hm).mono fun e W' ⟨he, hg⟩ => ?_
  subst he
  exact ⟨_, rfl, post_below (pa := []) (pv := []) hW' (fun _ _ _ => (trodAll_cons_mk (shut_bool Try.underlying4 _) trodAll_mk0)) (fun sp _ => (trodAll_cons_mk (shut_string Try.underlying9 w0) (trodAll_cons_mk (shut_int Try.underlying5 w1) trodAll_mk0))) (fun _ _ => rfl) rfl
    hg (ok_one (by kernel_rfl) rfl (okWide_bool_mk Try.underlying4 _))⟩

theorem over : Rows.lexKeysRow.holds Try.pinned (OpenSpec.ofChange Rows.lexKeysSpec) :=
  OpenClaim.holds_of_wide 3 Try.f3 rfl rfl rfl rfl rfl rfl rfl ⟨rfl, rfl, rfl, rfl, rfl⟩ rfl rfl rfl rfl rfl (by kernel_rfl) Try.func3 (by kernel_rfl)
    (of_decide_eq_true (by kernel_rfl)) (by unfold Func.isWrapper; first | (rw [if_pos (by decide +kernel)]; kernel_rfl) | (rw [if_neg (by decide +kernel)]; exact ⟨rfl, rfl⟩))
    (fun os started H enc _ => lifted os started H enc)

theorem proved : Rows.LexKeysSaid :=
  over
#print axioms proved
end Go.Proofs.Ytijdhfjdnndkmaa.lexKeys
