/-
  The walks over (*reader).word.
-/
import Derived.Test.YtijdhfjdnndkmaaLexB
import Derived.WalkKit
import Derived.WalkSpells
import Derived.WalkLawsBesides
import Derived.Lib.Hide
import Derived.Deep.Light
import Derived.Deep.QuietTactic
import Derived.BigQuiet
import Derived.Deep.RegionHeld3
set_option linter.unusedVariables false
set_option linter.unusedSimpArgs false
namespace Go.Proofs.Ytijdhfjdnndkmaa
open Go.RowKit

theorem isKey_is (s : ByteArray) (m : Int) (w : World) (b : Bool) (hb : isKeyB s.data.toList = b) (hs : s.size ≤ 281474976710656) (hm : w.cell? ⟨0, 0, none⟩ = some (.int .i64 m)) :
    Calls Try.prog 8 #[.string s] w fun e w' => e = .returned (.bool b) ∧ w = w' := by
  subst hb; exact isKey_any s m w hs hm
theorem Drawn.cell {w w' : World} (h : Drawn w w') (a : Addr) : w'.cell? a = w.cell? a := by obtain ⟨k, rfl⟩ := h; rfl

section
variable {s : ByteArray} {i n : Nat}
theorem wordNext_long (he : wordLen (s.data.toList.drop i) = n) (h : 32 < n) : wordNext (s.data.toList.drop i) = ⟨3, 0, 3, 0⟩ := by
  unfold wordNext; rw [he, if_pos h]
theorem piece_eq : (s.extract i (i + n)).data.toList = (s.data.toList.drop i).take n := by rw [Lib.extract_data]; congr 1; omega
theorem wordNext_key (he : wordLen (s.data.toList.drop i) = n) (h : ¬ 32 < n) (hk : isKeyB (s.extract i (i + n)).data.toList = true) : wordNext (s.data.toList.drop i) = ⟨2, n, 4, 0⟩ := by
  unfold wordNext; rw [he, if_neg h]; rw [piece_eq] at hk; rw [if_pos hk]
theorem wordNext_great (he : wordLen (s.data.toList.drop i) = n) (h : ¬ 32 < n) (hk : isKeyB (s.extract i (i + n)).data.toList = false) (c : Nat) (hc : headN (s.data.toList.drop i) = c) (h2 : 65 ≤ c ∧ c ≤ 90) :
    wordNext (s.data.toList.drop i) = ⟨2, n, 3, 0⟩ := by
  unfold wordNext; rw [he, if_neg h]; rw [piece_eq] at hk; rw [if_neg (by rw [hk]; simp), hc, if_pos h2]
theorem wordNext_line (he : wordLen (s.data.toList.drop i) = n) (h : ¬ 32 < n) (hk : isKeyB (s.extract i (i + n)).data.toList = false) (c : Nat) (hc : headN (s.data.toList.drop i) = c) (h2 : c = 95) :
    wordNext (s.data.toList.drop i) = ⟨3, 0, 1, 0⟩ := by
  unfold wordNext; rw [he, if_neg h]; rw [piece_eq] at hk; rw [if_neg (by rw [hk]; simp), hc, if_neg (by omega), if_pos h2]
theorem wordNext_small (he : wordLen (s.data.toList.drop i) = n) (h : ¬ 32 < n) (hk : isKeyB (s.extract i (i + n)).data.toList = false) (c : Nat) (hc : headN (s.data.toList.drop i) = c) (h2 : ¬ (65 ≤ c ∧ c ≤ 90)) (h3 : c ≠ 95) :
    wordNext (s.data.toList.drop i) = ⟨2, n, 2, 0⟩ := by
  unfold wordNext; rw [he, if_neg h]; rw [piece_eq] at hk; rw [if_neg (by rw [hk]; simp), hc, if_neg h2, if_neg h3]
end

theorem letter_is (c : Nat) (b : Bool) (hb : isLetter c = b) (w : World) :
    Calls Try.prog 25 #[.int .u8 c] w fun e w' => e = .returned (.bool b) ∧ w = w' := by
  subst hb; exact letter_any c w
theorem digit_is (c : Nat) (b : Bool) (hb : isDigit c = b) (w : World) :
    Calls Try.prog 23 #[.int .u8 c] w fun e w' => e = .returned (.bool b) ∧ w = w' := by
  subst hb; exact digit_any c w

theorem head_at (s : ByteArray) (i : Nat) (h : i < s.size) : headN (s.data.toList.drop i) = s[i].toNat := by
  unfold headN; rw [drop_cons s i h]; rfl
theorem extract_zero (s : ByteArray) (i n : Nat) (hn : 0 < n) (h : i + n ≤ s.size) (h0 : 0 < (s.extract i (i + n)).size) : (s.extract i (i + n))[0] = s[i] := by
  rw [ByteArray.getElem_extract]; rfl

set_option maxHeartbeats 4000000 in
theorem word_any (PUT : PutSaid) (B R : Nat) (s : ByteArray) (i line frm : Nat) (toks : List Tok) (out : Value) (w : World) (h : Rd B w R s i line frm toks out) (m : Int)
    (hm : w.cell? ⟨0, 0, none⟩ = some (.int .i64 m))
    (hs : s.size ≤ 65536) (hi : i < s.size) (hf : frm ≤ i) (hl : line ≤ 70000) (ht : toks.length ≤ i) (hlet0 : isLetter (s[i].toNat) = true) :
    Calls Try.prog 26 #[.pointer (some ⟨R, 0, none⟩)] w (StepP B R s i line frm toks w (wordNext (s.data.toList.drop i))) := by
  have hat := Lib.hid h.at_
  have H := Lib.hid h
  have HM := Lib.hid hm
  have g1 : (0 : Int) ≤ (i : Int) := Int.natCast_nonneg _
  obtain ⟨c0, c1, _, _, _⟩ := h.at_.cells
  clear h hm
  have hpos : 0 < wordLen (s.data.toList.drop i) := by
    rw [drop_cons s i hi, wordLen_cons _ _ (by rw [hlet0]; rfl)]; omega
  have HP := Lib.hid hpos
  have HL := Lib.hid hlet0
  clear hpos hlet0
  go_enter Try.func26, Try.ntmps26
  go_wp2_with fail
  clear c0 c1
  go_loopw [3] (fun nv wr => ∃ (n : Nat), Drawn w wr ∧ nv = .int .i64 n ∧ i + n ≤ s.size ∧ Hid (wordLen (s.data.toList.drop i) = n + wordLen (s.data.toList.drop (i + n)))) (fun nv _ => s.size - (intOf nv).toNat)
  case atStart => exact ⟨0, Drawn.refl _, rfl, by omega, Lib.hid (by simp)⟩
  case round =>
    obtain ⟨n, hD, rfl, hn, hg⟩ := hrel
    obtain ⟨d0, d1, _, _, _⟩ := (hD.rdAt hat.out).cells
    have g2 : (0 : Int) ≤ (i : Int) + (n : Int) := by omega
    have g4 : IntKind.i64.wrap ((i : Int) + (n : Int)) = (i : Int) + (n : Int) := IntWalk.i64_in _ (by omega)
    have g5 : ((i : Int) + (n : Int)).toNat = i + n := by omega
    have q2 : (i : Int) ≤ (i : Int) + (n : Int) := by omega
    have q3 : (i : Int) + (n : Int) ≤ (s.size : Int) := by omega
    by_cases hgo : ∃ hlt : i + n < s.size, (isLetter (s[i + n].toNat) || isDigit (s[i + n].toNat)) = true
    · obtain ⟨hlt, hld⟩ := hgo
      have hnext : Hid (wordLen (s.data.toList.drop i) = (n + 1) + wordLen (s.data.toList.drop (i + (n + 1)))) := Lib.hid (by
        rw [hg.out, drop_cons s (i + n) hlt, wordLen_cons _ _ hld]
        rw [show i + (n + 1) = i + n + 1 from rfl]; omega)
      have g6 : (i : Int) + (n : Int) < (s.size : Int) := by omega
      have g7 : decide ((i : Int) + (n : Int) < (s.size : Int)) = true := by simpa using g6
      cases hlet : isLetter (s[i + n].toNat)
      · have hdig : isDigit (s[i + n].toNat) = true := by rw [hlet] at hld; simpa using hld
        have HLT := Lib.hid hlet
        have HDG := Lib.hid hdig
        clear hld hlet hdig
        go_wp2_with fail
        go_quiet ((first | (go_at_call 25; exact quiet_any (letter_is _ _ HLT.out _) (by first | rfl | rw [World.drewN_drewN])) | (go_at_call 23; exact quiet_any (digit_is _ _ HDG.out _) (by first | rfl | rw [World.drewN_drewN]))))
        go_wp2_with fail
        exact ⟨⟨n + 1, hD.drewN _, by go_num, by omega, hnext⟩, by simp only [intOf]; omega⟩
      · have HLT := Lib.hid hlet
        clear hld hlet
        go_wp2_with fail
        go_quiet ((first | (go_at_call 25; exact quiet_any (letter_is _ _ HLT.out _) (by first | rfl | rw [World.drewN_drewN]))))
        go_wp2_with fail
        exact ⟨⟨n + 1, hD.drewN _, by go_num, by omega, hnext⟩, by simp only [intOf]; omega⟩
    · have hend : Hid (wordLen (s.data.toList.drop i) = n) := Lib.hid (by
        rw [hg.out]
        by_cases hlt : i + n < s.size
        · rw [drop_cons s (i + n) hlt, wordLen_stop _ _ (by
            cases hx : (isLetter (s[i + n].toNat) || isDigit (s[i + n].toNat))
            · rfl
            · exact absurd ⟨hlt, hx⟩ hgo)]; rfl
        · rw [drop_end s (i + n) (by omega)]; rfl)
      have hn0 : 0 < n := by have := HP.out; have := hend.out; omega
      have HN := Lib.hid hn
      by_cases hlt : i + n < s.size
      case' pos =>
        have hno : (isLetter (s[i + n].toNat) || isDigit (s[i + n].toNat)) = false := by
          cases hx : (isLetter (s[i + n].toNat) || isDigit (s[i + n].toNat))
          · rfl
          · exact absurd ⟨hlt, hx⟩ hgo
        have hno2 : isLetter (s[i + n].toNat) = false ∧ isDigit (s[i + n].toNat) = false := by simpa using hno
        have HLT := Lib.hid hno2.1
        have HDG := Lib.hid hno2.2
        have g6 : (i : Int) + (n : Int) < (s.size : Int) := by omega
        have g7 : decide ((i : Int) + (n : Int) < (s.size : Int)) = true := by simpa using g6
        clear hno hno2 hgo hg
        go_wp2_with fail
        go_quiet ((first | (go_at_call 25; exact quiet_any (letter_is _ _ HLT.out _) (by first | rfl | rw [World.drewN_drewN])) | (go_at_call 23; exact quiet_any (digit_is _ _ HDG.out _) (by first | rfl | rw [World.drewN_drewN]))))
        go_wp2_with fail
      case' neg =>
        have g7 : decide ((i : Int) + (n : Int) < (s.size : Int)) = false := by simp; omega
        clear hgo hg
        go_wp2_with fail
        go_quiet (fail)
        clear g7
        go_wp2_with fail
      all_goals
        have hsz : 0 < (s.extract i (i + n)).size := by rw [ByteArray.size_extract]; omega
        have hc0 := Lib.hid ((head_at s i hi).trans (congrArg UInt8.toNat (extract_zero s i n hn0 hn hsz)).symm)
        have HMr := Lib.hid ((hD.cell ⟨0, 0, none⟩).trans HM.out)
        have hsz1 : (0 : Int) < ((s.extract i (i + n)).size : Int) := by omega
        have hsz2 : (s.extract i (i + n)).size ≤ 281474976710656 := by rw [ByteArray.size_extract]; omega
        go_quiet (fail)
        go_wp2_with fail
        · have h32 : 32 < n := by omega
          go_ret
          exact stepP_bad (wordNext_long hend.out h32) ((hD.drewN _).below B) ⟨out, (hD.drewN _).rd H.out⟩
        have h32 : ¬ 32 < n := by omega
        have H32 := Lib.hid h32
        cases hkey : isKeyB (s.extract i (i + n)).data.toList
        · have HK := Lib.hid hkey
          clear hkey
          refine (isKey_is _ m _ false HK.out hsz2 (by exact HMr.out)).mono ?_
          rintro e w' ⟨rfl, rfl⟩
          go_wp2_with fail
          · have hc : 65 ≤ ((s.extract i (i + n))[0]).toNat ∧ ((s.extract i (i + n))[0]).toNat ≤ 90 := ⟨by omega, by omega⟩
            refine (PUT B R s i line frm n _ _ toks out _ ((hD.drewN _).rd H.out) hs hn hf hl ht).mono ?_
            rintro e w1 ⟨rfl, out1, hr1, hb1⟩
            go_wp2_with fail
            go_ret
            exact stepP_tok (wordNext_great hend.out H32.out HK.out _ hc0.out hc) (((hD.drewN _).below B).trans hb1) ⟨out1, hr1⟩
          · have hc : ((s.extract i (i + n))[0]).toNat = 95 := by
              have h : (((((s.extract i (i + n))[0]).toNat : Nat) : Int) == 95) = true := by assumption
              simp at h; omega
            go_ret
            exact stepP_bad (wordNext_line hend.out H32.out HK.out _ hc0.out hc) ((hD.drewN _).below B) ⟨out, (hD.drewN _).rd H.out⟩
          · have hc : ((s.extract i (i + n))[0]).toNat ≠ 95 := by
              have h : (((((s.extract i (i + n))[0]).toNat : Nat) : Int) == 95) = false := by assumption
              simp at h; omega
            have hc2 : ¬ (65 ≤ ((s.extract i (i + n))[0]).toNat ∧ ((s.extract i (i + n))[0]).toNat ≤ 90) := by omega
            refine (PUT B R s i line frm n _ _ toks out _ ((hD.drewN _).rd H.out) hs hn hf hl ht).mono ?_
            rintro e w1 ⟨rfl, out1, hr1, hb1⟩
            go_wp2_with fail
            go_ret
            exact stepP_tok (wordNext_small hend.out H32.out HK.out _ hc0.out hc2 hc) (((hD.drewN _).below B).trans hb1) ⟨out1, hr1⟩
          · have hc : ((s.extract i (i + n))[0]).toNat ≠ 95 := by
              have h : (((((s.extract i (i + n))[0]).toNat : Nat) : Int) == 95) = false := by assumption
              simp at h; omega
            have hc2 : ¬ (65 ≤ ((s.extract i (i + n))[0]).toNat ∧ ((s.extract i (i + n))[0]).toNat ≤ 90) := by omega
            refine (PUT B R s i line frm n _ _ toks out _ ((hD.drewN _).rd H.out) hs hn hf hl ht).mono ?_
            rintro e w1 ⟨rfl, out1, hr1, hb1⟩
            go_wp2_with fail
            go_ret
            exact stepP_tok (wordNext_small hend.out H32.out HK.out _ hc0.out hc2 hc) (((hD.drewN _).below B).trans hb1) ⟨out1, hr1⟩
        · have HK := Lib.hid hkey
          clear hkey
          refine (isKey_is _ m _ true HK.out hsz2 (by exact HMr.out)).mono ?_
          rintro e w' ⟨rfl, rfl⟩
          go_wp2_with fail
          refine (PUT B R s i line frm n _ _ toks out _ ((hD.drewN _).rd H.out) hs hn hf hl ht).mono ?_
          rintro e w1 ⟨rfl, out1, hr1, hb1⟩
          go_wp2_with fail
          go_ret
          exact stepP_tok (wordNext_key hend.out H32.out HK.out) (((hD.drewN _).below B).trans hb1) ⟨out1, hr1⟩
end Go.Proofs.Ytijdhfjdnndkmaa
