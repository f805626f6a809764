/-
  The walks over (*reader).sign and one.
-/
import Derived.Test.YtijdhfjdnndkmaaLexC
import Derived.WalkKit
import Derived.WalkSpells
import Derived.WalkLawsBesides
import Derived.Lib.Hide
import Derived.Deep.Light
import Derived.Deep.QuietTactic
import Derived.BigQuiet
import Derived.Deep.RegionHeld3
set_option linter.unusedVariables false
set_option linter.unusedSimpArgs false
namespace Go.Proofs.Ytijdhfjdnndkmaa
open Go.RowKit

theorem prefix_is (s p : ByteArray) (i : Nat) (b : Bool) (hb : Lib.hasPrefix (s.data.toList.drop i) p.data.toList = b) (w : World) :
    Calls Try.prog 22 #[.string (s.extract i s.size), .string p] w fun e w' => e = .returned (.bool b) ∧ w = w' := by
  refine (Try.strings_HasPrefix _ p w).mono fun e w' ⟨h1, h2⟩ => ⟨?_, h2.symm⟩
  rw [h1, Lib.extract_to_end, hb]

theorem two_len (s : ByteArray) (i : Nat) (p : List UInt8) (h : Lib.hasPrefix (s.data.toList.drop i) p = true) (hp : p.length = 2) : i + 2 ≤ s.size := by
  have h1 := (List.isPrefixOf_iff_prefix.1 h).length_le
  rw [hp, List.length_drop, Array.length_toList] at h1
  have : s.data.size = s.size := rfl
  omega
theorem one_idx (c : UInt8) (r : Int) (hr : Lib.indexByte oneSigns c = r) (w : World) :
    Calls Try.prog 32 #[.string ⟨#[40, 41, 61, 43, 45, 42, 47, 60, 62, 59, 58, 44, 124]⟩, .int .u8 (c.toNat : Nat)] w fun e w' => e = .returned (.int .i64 r) ∧ w = w' := by
  refine (Try.strings_IndexByte _ _ w).mono fun e w' ⟨h1, h2⟩ => ⟨?_, h2.symm⟩
  rw [h1, Lib.byte_back, ← hr]
  rfl
theorem idx_two : (∀ w, (Instr.index 63 (.agg #[.string ⟨#[60, 62]⟩, .string ⟨#[60, 61]⟩, .string ⟨#[62, 61]⟩, .string ⟨#[45, 62]⟩]) (.int .i64 0)).run Try.prog w = .ok (.string ⟨#[60, 62]⟩) w) ∧
    (∀ w, (Instr.index 63 (.agg #[.string ⟨#[60, 62]⟩, .string ⟨#[60, 61]⟩, .string ⟨#[62, 61]⟩, .string ⟨#[45, 62]⟩]) (.int .i64 1)).run Try.prog w = .ok (.string ⟨#[60, 61]⟩) w) ∧
    (∀ w, (Instr.index 63 (.agg #[.string ⟨#[60, 62]⟩, .string ⟨#[60, 61]⟩, .string ⟨#[62, 61]⟩, .string ⟨#[45, 62]⟩]) (.int .i64 2)).run Try.prog w = .ok (.string ⟨#[62, 61]⟩) w) ∧
    (∀ w, (Instr.index 63 (.agg #[.string ⟨#[60, 62]⟩, .string ⟨#[60, 61]⟩, .string ⟨#[62, 61]⟩, .string ⟨#[45, 62]⟩]) (.int .i64 3)).run Try.prog w = .ok (.string ⟨#[45, 62]⟩) w) :=
  ⟨fun _ => by kernel_rfl, fun _ => by kernel_rfl, fun _ => by kernel_rfl, fun _ => by kernel_rfl⟩

set_option maxHeartbeats 4000000 in
theorem sign_any (PUT : PutSaid) (B R : Nat) (s : ByteArray) (i line frm : Nat) (toks : List Tok) (out : Value) (w : World) (h : Rd B w R s i line frm toks out)
    (hs : s.size ≤ 65536) (hi : i < s.size) (hf : frm ≤ i) (hl : line ≤ 70000) (ht : toks.length ≤ i) :
    Calls Try.prog 27 #[.pointer (some ⟨R, 0, none⟩)] w (StepP B R s i line frm toks w (signNext (s.data.toList.drop i))) := by
  have hat := Lib.hid h.at_
  have H := Lib.hid h
  have g1 : (0 : Int) ≤ (i : Int) := Int.natCast_nonneg _
  have g2 : (i : Int) ≤ (s.size : Int) := by omega
  obtain ⟨i0, i1, i2, i3⟩ := idx_two
  clear h
  go_enter Try.func27, Try.ntmps27
  go_wp2_with fail
  go_outline
  go_loopw [6] (fun kv wr => ∃ (k : Nat), Drawn w wr ∧ kv = .int .i64 k ∧ k ≤ 4 ∧ Hid (((twoSigns.take k).any fun p => Lib.hasPrefix (s.data.toList.drop i) p) = false)) (fun kv _ => 4 - (intOf kv).toNat)
  case atStart => exact ⟨0, Drawn.refl _, rfl, by omega, Lib.hid rfl⟩
  case round =>
    obtain ⟨k, hD, rfl, hk, hg⟩ := hrel
    obtain ⟨d0, d1, _, _, _⟩ := (hD.rdAt hat.out).cells
    have hk' : k = 0 ∨ k = 1 ∨ k = 2 ∨ k = 3 ∨ k = 4 := by omega
    rcases hk' with rfl | rfl | rfl | rfl | rfl
    · cases hp : Lib.hasPrefix (s.data.toList.drop i) [60, 62]
      · have HP := Lib.hid hp
        have hg2 : Hid (((twoSigns.take 1).any fun p => Lib.hasPrefix (s.data.toList.drop i) p) = false) := Lib.hid (by have h1 := hg.out; simp only [twoSigns, List.take, List.any_cons, List.any_nil, Bool.or_false] at h1 ⊢; simp [hp, h1] <;> simp_all)
        clear hp hg
        go_wp2_with fail
        go_quiet ((go_at_call 22; exact quiet_any (prefix_is s ⟨#[60, 62]⟩ i false HP.out _) (by first | rfl | rw [World.drewN_drewN])))
        go_wp2_with fail
        exact ⟨⟨1, hD.drewN _, by go_num, by omega, hg2⟩, by simp [intOf]⟩
      · have HP := Lib.hid hp
        have hnx : signNext (s.data.toList.drop i) = ⟨2, 2, 5, 0⟩ := by
          unfold signNext
          rw [if_pos (by simp [twoSigns, hp])]
        have hlen := Lib.hid (two_len s i _ hp (by decide))
        clear hp hg
        go_wp2_with fail
        go_quiet ((go_at_call 22; exact quiet_any (prefix_is s ⟨#[60, 62]⟩ i true HP.out _) (by first | rfl | rw [World.drewN_drewN])))
        go_wp2_with fail
        refine (PUT B R s i line frm 2 _ _ toks out _ ((hD.drewN _).rd H.out) hs hlen.out hf hl ht).mono ?_
        rintro e w1 ⟨rfl, out1, hr1, hb1⟩
        go_wp2_with fail
        go_ret
        exact stepP_tok hnx (((hD.drewN _).below B).trans hb1) ⟨out1, hr1⟩
    · cases hp : Lib.hasPrefix (s.data.toList.drop i) [60, 61]
      · have HP := Lib.hid hp
        have hg2 : Hid (((twoSigns.take 2).any fun p => Lib.hasPrefix (s.data.toList.drop i) p) = false) := Lib.hid (by have h1 := hg.out; simp only [twoSigns, List.take, List.any_cons, List.any_nil, Bool.or_false] at h1 ⊢; simp [hp, h1] <;> simp_all)
        clear hp hg
        go_wp2_with fail
        go_quiet ((go_at_call 22; exact quiet_any (prefix_is s ⟨#[60, 61]⟩ i false HP.out _) (by first | rfl | rw [World.drewN_drewN])))
        go_wp2_with fail
        exact ⟨⟨2, hD.drewN _, by go_num, by omega, hg2⟩, by simp [intOf]⟩
      · have HP := Lib.hid hp
        have hnx : signNext (s.data.toList.drop i) = ⟨2, 2, 5, 0⟩ := by
          unfold signNext
          rw [if_pos (by simp [twoSigns, hp])]
        have hlen := Lib.hid (two_len s i _ hp (by decide))
        clear hp hg
        go_wp2_with fail
        go_quiet ((go_at_call 22; exact quiet_any (prefix_is s ⟨#[60, 61]⟩ i true HP.out _) (by first | rfl | rw [World.drewN_drewN])))
        go_wp2_with fail
        refine (PUT B R s i line frm 2 _ _ toks out _ ((hD.drewN _).rd H.out) hs hlen.out hf hl ht).mono ?_
        rintro e w1 ⟨rfl, out1, hr1, hb1⟩
        go_wp2_with fail
        go_ret
        exact stepP_tok hnx (((hD.drewN _).below B).trans hb1) ⟨out1, hr1⟩
    · cases hp : Lib.hasPrefix (s.data.toList.drop i) [62, 61]
      · have HP := Lib.hid hp
        have hg2 : Hid (((twoSigns.take 3).any fun p => Lib.hasPrefix (s.data.toList.drop i) p) = false) := Lib.hid (by have h1 := hg.out; simp only [twoSigns, List.take, List.any_cons, List.any_nil, Bool.or_false] at h1 ⊢; simp [hp, h1] <;> simp_all)
        clear hp hg
        go_wp2_with fail
        go_quiet ((go_at_call 22; exact quiet_any (prefix_is s ⟨#[62, 61]⟩ i false HP.out _) (by first | rfl | rw [World.drewN_drewN])))
        go_wp2_with fail
        exact ⟨⟨3, hD.drewN _, by go_num, by omega, hg2⟩, by simp [intOf]⟩
      · have HP := Lib.hid hp
        have hnx : signNext (s.data.toList.drop i) = ⟨2, 2, 5, 0⟩ := by
          unfold signNext
          rw [if_pos (by simp [twoSigns, hp])]
        have hlen := Lib.hid (two_len s i _ hp (by decide))
        clear hp hg
        go_wp2_with fail
        go_quiet ((go_at_call 22; exact quiet_any (prefix_is s ⟨#[62, 61]⟩ i true HP.out _) (by first | rfl | rw [World.drewN_drewN])))
        go_wp2_with fail
        refine (PUT B R s i line frm 2 _ _ toks out _ ((hD.drewN _).rd H.out) hs hlen.out hf hl ht).mono ?_
        rintro e w1 ⟨rfl, out1, hr1, hb1⟩
        go_wp2_with fail
        go_ret
        exact stepP_tok hnx (((hD.drewN _).below B).trans hb1) ⟨out1, hr1⟩
    · cases hp : Lib.hasPrefix (s.data.toList.drop i) [45, 62]
      · have HP := Lib.hid hp
        have hg2 : Hid (((twoSigns.take 4).any fun p => Lib.hasPrefix (s.data.toList.drop i) p) = false) := Lib.hid (by have h1 := hg.out; simp only [twoSigns, List.take, List.any_cons, List.any_nil, Bool.or_false] at h1 ⊢; simp [hp, h1] <;> simp_all)
        clear hp hg
        go_wp2_with fail
        go_quiet ((go_at_call 22; exact quiet_any (prefix_is s ⟨#[45, 62]⟩ i false HP.out _) (by first | rfl | rw [World.drewN_drewN])))
        go_wp2_with fail
        exact ⟨⟨4, hD.drewN _, by go_num, by omega, hg2⟩, by simp [intOf]⟩
      · have HP := Lib.hid hp
        have hnx : signNext (s.data.toList.drop i) = ⟨2, 2, 5, 0⟩ := by
          unfold signNext
          rw [if_pos (by simp [twoSigns, hp])]
        have hlen := Lib.hid (two_len s i _ hp (by decide))
        clear hp hg
        go_wp2_with fail
        go_quiet ((go_at_call 22; exact quiet_any (prefix_is s ⟨#[45, 62]⟩ i true HP.out _) (by first | rfl | rw [World.drewN_drewN])))
        go_wp2_with fail
        refine (PUT B R s i line frm 2 _ _ toks out _ ((hD.drewN _).rd H.out) hs hlen.out hf hl ht).mono ?_
        rintro e w1 ⟨rfl, out1, hr1, hb1⟩
        go_wp2_with fail
        go_ret
        exact stepP_tok hnx (((hD.drewN _).below B).trans hb1) ⟨out1, hr1⟩
    · have hall : Hid ((twoSigns.any fun p => Lib.hasPrefix (s.data.toList.drop i) p) = false) := Lib.hid hg.out
      have g3 : (i : Int) < (s.size : Int) := by omega
      obtain ⟨r, hr⟩ : ∃ r, Lib.indexByte oneSigns s[i] = r := ⟨_, rfl⟩
      have HR := Lib.hid hr
      have HI := Lib.hid (indexByte_neg oneSigns s[i])
      have hdc := Lib.hid (drop_cons s i hi)
      clear hr hg
      by_cases hneg : r < 0
      · have hnx : Hid (signNext (s.data.toList.drop i) = ⟨3, 0, 1, 0⟩) := Lib.hid (by
          unfold signNext
          rw [if_neg (by rw [hall.out]; simp), if_neg]
          rw [hdc.out]
          have : ¬ s[i] ∈ oneSigns := fun hm => by have := HI.out.2 hm; rw [HR.out] at this; omega
          simpa using this)
        go_wp2_with fail
        go_quiet ((go_at_call 32; exact quiet_any (one_idx s[i] r HR.out _) (by first | rfl | rw [World.drewN_drewN])))
        go_wp2_with fail
        go_ret
        exact stepP_bad hnx.out ((hD.drewN _).below B) ⟨out, (hD.drewN _).rd H.out⟩
      · have hnx : Hid (signNext (s.data.toList.drop i) = ⟨2, 1, 5, 0⟩) := Lib.hid (by
          unfold signNext
          rw [if_neg (by rw [hall.out]; simp), if_pos]
          rw [hdc.out]
          have : s[i] ∈ oneSigns := HI.out.1 (by rw [HR.out]; omega)
          simpa using this)
        go_wp2_with fail
        go_quiet ((go_at_call 32; exact quiet_any (one_idx s[i] r HR.out _) (by first | rfl | rw [World.drewN_drewN])))
        go_wp2_with fail
        refine (PUT B R s i line frm 1 _ _ toks out _ ((hD.drewN _).rd H.out) hs (by omega) hf hl ht).mono ?_
        rintro e w1 ⟨rfl, out1, hr1, hb1⟩
        go_wp2_with fail
        go_ret
        exact stepP_tok hnx.out (((hD.drewN _).below B).trans hb1) ⟨out1, hr1⟩

end Go.Proofs.Ytijdhfjdnndkmaa
