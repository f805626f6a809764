/-
  The walks over (*reader).one.
-/
import Derived.Test.YtijdhfjdnndkmaaLexD
import Derived.Test.YtijdhfjdnndkmaaLexPut
import Derived.WalkKit
import Derived.WalkSpells
import Derived.WalkLawsBesides
import Derived.Lib.Hide
import Derived.Deep.Light
import Derived.Deep.QuietTactic
import Derived.BigQuiet
import Derived.Deep.RegionHeld3
set_option linter.unusedVariables false
set_option linter.unusedSimpArgs false
namespace Go.Proofs.Ytijdhfjdnndkmaa
open Go.RowKit

theorem RdAt.set2 {w : World} {R : Nat} {s : ByteArray} {i line frm : Nat} {out : Value} (h : RdAt w R s i line frm out) (j : Nat) : RdAt (w.setCell ⟨R, 2, none⟩ (.int .i64 j)) R s i j frm out := by
  unfold RdAt at *
  simp [World.setCell, Array.getElem?_modify, h]
theorem RdAt.set3 {w : World} {R : Nat} {s : ByteArray} {i line frm : Nat} {out : Value} (h : RdAt w R s i line frm out) (j : Nat) : RdAt (w.setCell ⟨R, 3, none⟩ (.int .i64 j)) R s i line j out := by
  unfold RdAt at *
  simp [World.setCell, Array.getElem?_modify, h]
theorem StepP.ret {B R : Nat} {s : ByteArray} {i line frm : Nat} {toks : List Tok} {w w' : World} {st : Next} {e : Ending} (h : StepP B R s i line frm toks w st e w') (hc : st.code ≤ 3) : ∃ r, e = .returned (.int .i64 r) := by
  obtain ⟨_, h0, h1, h2, h3⟩ := h
  have : st.code = 0 ∨ st.code = 1 ∨ st.code = 2 ∨ st.code = 3 := by omega
  rcases this with hh | hh | hh | hh
  · exact ⟨_, (h0 hh).1⟩
  · exact ⟨_, (h1 hh).1⟩
  · exact ⟨_, (h2 hh).1⟩
  · exact ⟨_, (h3 hh).1⟩
theorem num_code (l : List UInt8) : (numNext l).code ≤ 3 := by unfold numNext; repeat' split <;> simp
theorem word_code (l : List UInt8) : (wordNext l).code ≤ 3 := by
  unfold wordNext
  split
  · simp
  · split
    · simp
    · split
      · simp
      · split <;> simp
theorem sign_code (l : List UInt8) : (signNext l).code ≤ 3 := by
  unfold signNext
  split
  · simp
  · split <;> simp
def posOf (R : Nat) (w : World) : Nat := match w.cell? ⟨R, 1, none⟩ with | some (.int _ n) => n.toNat | _ => 0
theorem StepP.drawn {B R : Nat} {s : ByteArray} {i line frm : Nat} {toks : List Tok} {w w1 w' : World} {st : Next} {e : Ending} (hD : Drawn w w1) (h : StepP B R s i line frm toks w1 st e w') : StepP B R s i line frm toks w st e w' :=
  ⟨(hD.below B).trans h.1, h.2⟩

/-- The text from a place on, ahead of the next line's end. -/
theorem tail_len (s : ByteArray) (i n : Nat) (hn : n ≤ s.size) (h : ∀ j, i ≤ j → (hj : j < n) → (s[j]'(by omega)) ≠ 10) (hin : i ≤ n) (hend : n = s.size ∨ ∃ hj : n < s.size, s[n] = 10) :
    ((s.data.toList.drop i).takeWhile fun c => c != 10).length = n - i := by
  induction hk : n - i generalizing i with
  | zero =>
    have : i = n := by omega
    subst this
    rcases hend with rfl | ⟨hj, he⟩
    · rw [drop_end s s.size (Nat.le_refl _)]; rfl
    · rw [drop_cons s i hj, List.takeWhile_cons, if_neg (by rw [he]; decide)]; rfl
  | succ k ih =>
    have hlt : i < s.size := by omega
    rw [drop_cons s i hlt, List.takeWhile_cons, if_pos (by rw [bne_iff_ne]; exact h i (Nat.le_refl _) (by omega)), List.length_cons, ih (i + 1) (fun j h1 h2 => h j (by omega) h2) (by omega) (by omega)]

set_option maxHeartbeats 4000000 in
theorem one_any (PUT : PutSaid) (B R : Nat) (s : ByteArray) (i line frm : Nat) (toks : List Tok) (out : Value) (w : World) (h : Rd B w R s i line frm toks out) (m : Int)
    (hm : w.cell? ⟨0, 0, none⟩ = some (.int .i64 m))
    (hs : s.size ≤ 65536) (hi : i < s.size) (hf : frm ≤ i) (hl : line < 70000) (ht : toks.length ≤ i) :
    Calls Try.prog 16 #[.pointer (some ⟨R, 0, none⟩)] w (StepP B R s i line frm toks w (lexNext (s.data.toList.drop i))) := by
  have hat := Lib.hid h.at_
  have H := Lib.hid h
  have HM := Lib.hid hm
  have g1 : (0 : Int) ≤ (i : Int) := Int.natCast_nonneg _
  have g2 : (i : Int) < (s.size : Int) := by omega
  have hhead := Lib.hid (head_at s i hi)
  obtain ⟨c0, c1, c2, c3, c4⟩ := h.at_.cells
  have hR := h.at_.lt
  have z1 := h.at_.free 1
  have z2 := h.at_.free 2
  have z3 := h.at_.free 3
  clear h hm
  have hcase : s[i].toNat = 10 ∨ s[i].toNat = 32 ∨ s[i].toNat = 9 ∨ (s[i].toNat ≠ 10 ∧ s[i].toNat ≠ 32 ∧ s[i].toNat ≠ 9) := by omega
  rcases hcase with hc | hc | hc | ⟨hc1, hc2, hc3⟩
  · have hnx : Hid (lexNext (s.data.toList.drop i) = ⟨1, 1, 0, 0⟩) := Lib.hid (by unfold lexNext; rw [hhead.out, if_pos hc])
    have t1 : ((s[i].toNat : Int) == 10) = true := by simp; omega
    clear hc
    go_enter Try.func16, Try.ntmps16
    go_wp2_with fail
    go_quiet (fail)
    go_wp2_with fail
    go_region
    all_goals go_wp2
    all_goals go_ret
    exact stepP_line hnx.out (((((Drawn.refl w).drewN _).below B |>.setCell H.out.le _).setCell H.out.le _).setCell H.out.le _).drew
      ⟨out, ((((((Drawn.refl w).drewN _).rdAt hat.out).set1 (i + 1)).set2 (line + 1)).set3 (i + 1)), own_set (own_set (own_set H.out.own (ne_of_tok H.out) _) (ne_of_tok H.out) _) (ne_of_tok H.out) _, H.out.le⟩
  · have hnx : Hid (lexNext (s.data.toList.drop i) = ⟨0, 1, 0, 0⟩) := Lib.hid (by unfold lexNext; rw [hhead.out, if_neg (by omega), if_pos (Or.inl hc)])
    have t1 : ((s[i].toNat : Int) == 10) = false := by simp; omega
    have t2 : ((s[i].toNat : Int) == 32) = true := by simp; omega
    clear hc
    go_enter Try.func16, Try.ntmps16
    go_wp2_with fail
    go_quiet (fail)
    go_wp2
    go_ret
    exact stepP_skip hnx.out (((Drawn.refl w).drewN _).below B |>.setCell H.out.le _) ⟨out, ((((Drawn.refl w).drewN _).rdAt hat.out).set1 (i + 1)), own_set H.out.own (ne_of_tok H.out) _, H.out.le⟩
  · have hnx : Hid (lexNext (s.data.toList.drop i) = ⟨0, 1, 0, 0⟩) := Lib.hid (by unfold lexNext; rw [hhead.out, if_neg (by omega), if_pos (Or.inr hc)])
    have t1 : ((s[i].toNat : Int) == 10) = false := by simp; omega
    have t2 : ((s[i].toNat : Int) == 32) = false := by simp; omega
    have t3 : ((s[i].toNat : Int) == 9) = true := by simp; omega
    have t4 : ¬ ((s[i].toNat : Int) = 32) := by omega
    clear hc
    go_enter Try.func16, Try.ntmps16
    go_wp2_with fail
    go_quiet (fail)
    go_wp2
    go_ret
    exact stepP_skip hnx.out (((Drawn.refl w).drewN _).below B |>.setCell H.out.le _) ⟨out, ((((Drawn.refl w).drewN _).rdAt hat.out).set1 (i + 1)), own_set H.out.own (ne_of_tok H.out) _, H.out.le⟩
  · have t1 : ((s[i].toNat : Int) == 10) = false := by simp; omega
    have t2 : ((s[i].toNat : Int) == 32) = false := by simp; omega
    have t3 : ((s[i].toNat : Int) == 9) = false := by simp; omega
    have t4 : ¬ ((s[i].toNat : Int) = 32) := by omega
    have t5 : ¬ ((s[i].toNat : Int) = 9) := by omega
    have g3 : (i : Int) ≤ (s.size : Int) := by omega
    have hnx0 : Hid (lexNext (s.data.toList.drop i) = if Lib.hasPrefix (s.data.toList.drop i) [45, 45] = true then ⟨0, ((s.data.toList.drop i).takeWhile fun c => c != 10).length, 0, 0⟩
        else if isDigit (s[i].toNat) = true then numNext (s.data.toList.drop i) else if isLetter (s[i].toNat) = true then wordNext (s.data.toList.drop i) else signNext (s.data.toList.drop i)) := Lib.hid (by
      unfold lexNext; rw [hhead.out, if_neg hc1, if_neg (by omega)])
    clear hc1 hc2 hc3
    cases hp : Lib.hasPrefix (s.data.toList.drop i) [45, 45]
    · have HP := Lib.hid hp
      clear hp
      have hc0 : Drawn w w := Drawn.refl w
      cases hdg : isDigit (s[i].toNat)
      · have HDG := Lib.hid hdg
        clear hdg
        cases hlt : isLetter (s[i].toNat)
        · have HLT := Lib.hid hlt
          clear hlt
          have hnx : Hid (lexNext (s.data.toList.drop i) = signNext (s.data.toList.drop i)) := Lib.hid (by
            rw [hnx0.out, if_neg (by rw [HP.out]; simp), if_neg (by rw [HDG.out]; simp), if_neg (by rw [HLT.out]; simp)])
          go_enter Try.func16, Try.ntmps16
          go_wp2_with fail
          go_quiet (fail)
          go_wp2_with fail
          go_quiet ((go_at_call 22; exact quiet_any (prefix_is s ⟨#[45, 45]⟩ i false HP.out _) (by first | rfl | rw [World.drewN_drewN])))
          go_wp2_with (first | (go_at_call 23; refine (digit_is _ _ HDG.out _).mono ?_; rintro e w' ⟨rfl, rfl⟩) | (go_at_call 25; refine (letter_is _ _ HLT.out _).mono ?_; rintro e w' ⟨rfl, rfl⟩))
          refine (sign_any PUT B R s i line frm toks out _ ((hc0.drewN _).rd H.out) hs hi hf (by omega) ht).mono ?_
          rintro e w1 hP
          obtain ⟨r, rfl⟩ := hP.ret (sign_code _)
          have HPP := Lib.hid hP
          clear hP
          go_wp2_with fail
          go_ret
          rw [hnx.out]
          exact HPP.out.drawn (hc0.drewN _)
        · have HLT := Lib.hid hlt
          clear hlt
          have hnx : Hid (lexNext (s.data.toList.drop i) = wordNext (s.data.toList.drop i)) := Lib.hid (by
            rw [hnx0.out, if_neg (by rw [HP.out]; simp), if_neg (by rw [HDG.out]; simp), if_pos HLT.out])
          go_enter Try.func16, Try.ntmps16
          go_wp2_with fail
          go_quiet (fail)
          go_wp2_with fail
          go_quiet ((go_at_call 22; exact quiet_any (prefix_is s ⟨#[45, 45]⟩ i false HP.out _) (by first | rfl | rw [World.drewN_drewN])))
          go_wp2_with (first | (go_at_call 23; refine (digit_is _ _ HDG.out _).mono ?_; rintro e w' ⟨rfl, rfl⟩) | (go_at_call 25; refine (letter_is _ _ HLT.out _).mono ?_; rintro e w' ⟨rfl, rfl⟩))
          refine (word_any PUT B R s i line frm toks out _ ((hc0.drewN _).rd H.out) m (by exact HM.out) hs hi hf (by omega) ht HLT.out).mono ?_
          rintro e w1 hP
          obtain ⟨r, rfl⟩ := hP.ret (word_code _)
          have HPP := Lib.hid hP
          clear hP
          go_wp2_with fail
          go_ret
          rw [hnx.out]
          exact HPP.out.drawn (hc0.drewN _)
      · have HDG := Lib.hid hdg
        clear hdg
        have hnx : Hid (lexNext (s.data.toList.drop i) = numNext (s.data.toList.drop i)) := Lib.hid (by
            rw [hnx0.out, if_neg (by rw [HP.out]; simp), if_pos HDG.out])
        go_enter Try.func16, Try.ntmps16
        go_wp2_with fail
        go_quiet (fail)
        go_wp2_with fail
        go_quiet ((go_at_call 22; exact quiet_any (prefix_is s ⟨#[45, 45]⟩ i false HP.out _) (by first | rfl | rw [World.drewN_drewN])))
        go_wp2_with (first | (go_at_call 23; refine (digit_is _ _ HDG.out _).mono ?_; rintro e w' ⟨rfl, rfl⟩))
        refine (number_any PUT B R s i line frm toks out _ ((hc0.drewN _).rd H.out) hs hi hf (by omega) ht).mono ?_
        rintro e w1 hP
        obtain ⟨r, rfl⟩ := hP.ret (num_code _)
        have HPP := Lib.hid hP
        clear hP
        go_wp2_with fail
        go_ret
        rw [hnx.out]
        exact HPP.out.drawn (hc0.drewN _)
    · have HP := Lib.hid hp
      have hlen := Lib.hid (two_len s i _ hp (by decide))
      clear hp
      have hnx : Hid (lexNext (s.data.toList.drop i) = ⟨0, ((s.data.toList.drop i).takeWhile fun c => c != 10).length, 0, 0⟩) := Lib.hid (by rw [hnx0.out, if_pos HP.out])
      go_enter Try.func16, Try.ntmps16
      go_wp2_with fail
      go_quiet (fail)
      go_wp2_with fail
      go_quiet ((go_at_call 22; exact quiet_any (prefix_is s ⟨#[45, 45]⟩ i true HP.out _) (by first | rfl | rw [World.drewN_drewN])))
      go_wp2_with fail
      clear c0 c1 c2 c3 c4 z1 z2 z3
      go_loopw [65] (fun _ wr => Below B w wr ∧ ∃ j : Nat, i ≤ j ∧ j ≤ s.size ∧ Rd B wr R s j line frm toks out ∧ Hid (∀ k, i ≤ k → (hk : k < s.size) → k < j → s[k] ≠ 10)) (fun _ wr => s.size - posOf R wr)
      case atStart => exact ⟨(((Drawn.refl w).drewN _).drewN _).below B, i, Nat.le_refl _, by omega, (((Drawn.refl w).drewN _).drewN _).rd H.out, Lib.hid fun k h1 _ h2 => absurd h2 (by omega)⟩
      case round =>
        obtain ⟨hB, j, hij, hj, hrd, hno⟩ := hrel
        obtain ⟨d0, d1, _, _, _⟩ := hrd.at_.cells
        have y1 := hrd.at_.free 1
        have hpo : posOf R wr = j := by unfold posOf; rw [d1]; simp
        have HRD := Lib.hid hrd
        have HBW := Lib.hid hB
        have p1 : (0 : Int) ≤ (j : Int) := Int.natCast_nonneg _
        have p4 : IntKind.i64.wrap ((j : Int) + 1) = (j : Int) + 1 := IntWalk.i64_in _ (by omega)
        have hR2 := hrd.at_.lt
        clear hrd hB
        by_cases hlt : j < s.size
        · have p2 : (j : Int) < (s.size : Int) := by omega
          have p3 : decide ((j : Int) < (s.size : Int)) = true := by simpa using p2
          by_cases h10 : s[j] = 10
          · have t6 : ((s[j].toNat : Int) != 10) = false := by rw [h10]; decide
            have hnl : ((s.data.toList.drop i).takeWhile fun c => c != 10).length = j - i :=
              tail_len s i j hj (fun k h1 h2 => hno.out k h1 (by omega) h2) hij (Or.inr ⟨hlt, h10⟩)
            have HNL := Lib.hid hnl
            have H10 := Lib.hid h10
            clear hnl h10
            go_wp2_with fail
            go_quiet (fail)
            go_wp2_with fail
            go_ret
            rw [hnx.out, HNL.out]
            exact stepP_skip rfl (HBW.out.trans (((Drawn.refl wr).drewN _).below B)) ⟨out, by rw [show i + (j - i) = j from by omega]; exact ((Drawn.refl wr).drewN _).rd HRD.out⟩
          · have t6 : ((s[j].toNat : Int) != 10) = true := by
              rw [bne_iff_ne]; intro h; apply h10
              have : s[j].toNat = (10 : UInt8).toNat := by have : (10 : UInt8).toNat = 10 := rfl; omega
              exact UInt8.toNat_inj.1 this
            have H10 := Lib.hid h10
            clear h10
            go_wp2_with fail
            go_quiet (fail)
            go_wp2
            have hrd2 : ∀ nq, Rd B ((wr.drewN nq).setCell ⟨R, 1, none⟩ (.int .i64 ((j : Int) + 1))) R s (j + 1) line frm toks out := fun nq =>
              ⟨(((Drawn.refl wr).drewN nq).rdAt HRD.out.at_).set1 (j + 1), own_set HRD.out.own (ne_of_tok HRD.out) _, HRD.out.le⟩
            have hpo2 : ∀ nq, posOf R ((wr.drewN nq).setCell ⟨R, 1, none⟩ (.int .i64 ((j : Int) + 1))) = j + 1 := fun nq => by
              unfold posOf; rw [((hrd2 nq).at_.cells).2.1]; simp
            refine ⟨⟨(HBW.out.trans (((Drawn.refl wr).drewN _).below B)).setCell HRD.out.le _, j + 1, by omega, by omega, hrd2 _, Lib.hid fun k h1 hk h2 => ?_⟩, by rw [hpo2, hpo]; omega⟩
            by_cases hkj : k = j
            · subst hkj; exact H10.out
            · exact hno.out k h1 hk (by omega)
        · have p3 : decide ((j : Int) < (s.size : Int)) = false := by simp; omega
          have hnl : ((s.data.toList.drop i).takeWhile fun c => c != 10).length = j - i :=
            tail_len s i j hj (fun k h1 h2 => hno.out k h1 (by omega) h2) hij (Or.inl (by omega))
          have HNL := Lib.hid hnl
          clear hnl
          go_wp2_with fail
          go_quiet (fail)
          go_wp2_with fail
          go_ret
          rw [hnx.out, HNL.out]
          exact stepP_skip rfl (HBW.out.trans (((Drawn.refl wr).drewN _).below B)) ⟨out, by rw [show i + (j - i) = j from by omega]; exact ((Drawn.refl wr).drewN _).rd HRD.out⟩
end Go.Proofs.Ytijdhfjdnndkmaa
