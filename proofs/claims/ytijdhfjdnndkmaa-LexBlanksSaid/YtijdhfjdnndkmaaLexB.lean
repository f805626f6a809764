/-
  The walks over (*reader).number, word, sign.
-/
import Derived.Test.YtijdhfjdnndkmaaLexA
import Derived.WalkKit
import Derived.WalkSpells
import Derived.WalkLawsBesides
import Derived.Lib.Hide
import Derived.Deep.Light
import Derived.Deep.QuietTactic
import Derived.BigQuiet
import Derived.Deep.RegionHeld3
set_option linter.unusedVariables false
set_option linter.unusedSimpArgs false
namespace Go.Proofs.Ytijdhfjdnndkmaa
open Go.RowKit

theorem quiet_any {P : Program} {f : FuncId} {args : Array Value} {W : World} {X : Nat → World} {v : Value} {m : Nat}
    (h : Calls P f args W fun e w' => e = .returned v ∧ W = w') (hW : X m = W) : Calls P f args W fun e w'' => e = .returned v ∧ ∃ m, w'' = X m :=
  h.mono fun _ _ ⟨he, hm⟩ => ⟨he, m, hm.symm.trans hW.symm⟩

def Drawn (w w' : World) : Prop := ∃ k, w' = w.drewN k
theorem Drawn.refl (w : World) : Drawn w w := ⟨0, rfl⟩
theorem Drawn.drewN {w w' : World} (h : Drawn w w') (n : Nat) : Drawn w (w'.drewN n) := by
  obtain ⟨k, rfl⟩ := h
  exact ⟨k + n, by rw [World.drewN_drewN]⟩
theorem Drawn.heap {w w' : World} (h : Drawn w w') : w'.heap = w.heap := by obtain ⟨k, rfl⟩ := h; rfl
theorem Drawn.below {w w' : World} (h : Drawn w w') (B : Nat) : Below B w w' := by obtain ⟨k, rfl⟩ := h; exact ⟨rfl, rfl, rfl, Nat.le_refl _, fun _ _ => rfl⟩
theorem Drawn.rdAt {w w' : World} (h : Drawn w w') {R : Nat} {s : ByteArray} {i line frm : Nat} {out : Value} (hr : RdAt w R s i line frm out) : RdAt w' R s i line frm out := by
  unfold RdAt at *; rw [h.heap]; exact hr
theorem Drawn.rd {w w' : World} (h : Drawn w w') {B R : Nat} {s : ByteArray} {i line frm : Nat} {toks : List Tok} {out : Value} (hr : Rd B w R s i line frm toks out) : Rd B w' R s i line frm toks out := by
  obtain ⟨k, rfl⟩ := h; exact ⟨hr.at_, hr.own, hr.le⟩

/-- What one step of the reader leaves. -/
def StepP (B R : Nat) (s : ByteArray) (i line frm : Nat) (toks : List Tok) (w : World) (st : Next) (e : Ending) (w' : World) : Prop :=
  Below B w w' ∧
  (st.code = 0 → e = .returned (.int .i64 0) ∧ ∃ out, Rd B w' R s (i + st.k) line frm toks out) ∧
  (st.code = 1 → e = .returned (.int .i64 0) ∧ ∃ out, Rd B w' R s (i + 1) (line + 1) (i + 1) toks out) ∧
  (st.code = 2 → e = .returned (.int .i64 0) ∧ ∃ out, Rd B w' R s (i + st.k) line frm (toks ++ [⟨st.kind, s.extract i (i + st.k), st.n, line, (i : Int) - frm + 1⟩]) out) ∧
  (st.code = 3 → e = .returned (.int .i64 st.kind) ∧ ∃ out, Rd B w' R s i line frm toks out)

section
variable {B R : Nat} {s : ByteArray} {i line frm : Nat} {toks : List Tok} {w w' : World} {st : Next}
theorem stepP_tok {k : Nat} {kind n : Int} (hst : st = ⟨2, k, kind, n⟩) (hb : Below B w w')
    (hr : ∃ out, Rd B w' R s (i + k) line frm (toks ++ [⟨kind, s.extract i (i + k), n, line, (i : Int) - frm + 1⟩]) out) : StepP B R s i line frm toks w st (.returned (.int .i64 0)) w' := by
  subst hst
  exact ⟨hb, fun h => absurd h (by simp), fun h => absurd h (by simp), fun _ => ⟨rfl, hr⟩, fun h => absurd h (by simp)⟩
theorem stepP_bad {k : Nat} {kind n : Int} (hst : st = ⟨3, k, kind, n⟩) (hb : Below B w w') (hr : ∃ out, Rd B w' R s i line frm toks out) :
    StepP B R s i line frm toks w st (.returned (.int .i64 kind)) w' := by
  subst hst
  exact ⟨hb, fun h => absurd h (by simp), fun h => absurd h (by simp), fun h => absurd h (by simp), fun _ => ⟨rfl, hr⟩⟩
theorem stepP_skip {k : Nat} {kind n : Int} (hst : st = ⟨0, k, kind, n⟩) (hb : Below B w w') (hr : ∃ out, Rd B w' R s (i + k) line frm toks out) :
    StepP B R s i line frm toks w st (.returned (.int .i64 0)) w' := by
  subst hst
  exact ⟨hb, fun _ => ⟨rfl, hr⟩, fun h => absurd h (by simp), fun h => absurd h (by simp), fun h => absurd h (by simp)⟩
theorem stepP_line {k : Nat} {kind n : Int} (hst : st = ⟨1, k, kind, n⟩) (hb : Below B w w') (hr : ∃ out, Rd B w' R s (i + 1) (line + 1) (i + 1) toks out) :
    StepP B R s i line frm toks w st (.returned (.int .i64 0)) w' := by
  subst hst
  exact ⟨hb, fun h => absurd h (by simp), fun _ => ⟨rfl, hr⟩, fun h => absurd h (by simp), fun h => absurd h (by simp)⟩
end

/-- What put leaves (proved beside this text). -/
def PutSaid : Prop := ∀ (B R : Nat) (s : ByteArray) (i line frm n : Nat) (kind v : Int) (toks : List Tok) (out : Value) (w : World), Rd B w R s i line frm toks out →
    s.size ≤ 65536 → i + n ≤ s.size → frm ≤ i → line ≤ 70000 → toks.length ≤ i →
    Calls Try.prog 31 #[.pointer (some ⟨R, 0, none⟩), .int .u8 kind, .int .i64 n, .int .i32 v] w fun e w' => e = .returned (.tuple #[]) ∧
      ∃ out', Rd B w' R s (i + n) line frm (toks ++ [⟨kind, s.extract i (i + n), v, line, (i : Int) - frm + 1⟩]) out' ∧ Below B w w'

set_option maxHeartbeats 4000000 in
theorem number_any (PUT : PutSaid) (B R : Nat) (s : ByteArray) (i line frm : Nat) (toks : List Tok) (out : Value) (w : World) (h : Rd B w R s i line frm toks out)
    (hs : s.size ≤ 65536) (hi : i < s.size) (hf : frm ≤ i) (hl : line ≤ 70000) (ht : toks.length ≤ i) :
    Calls Try.prog 24 #[.pointer (some ⟨R, 0, none⟩)] w (StepP B R s i line frm toks w (numNext (s.data.toList.drop i))) := by
  have hat := Lib.hid h.at_
  have H := Lib.hid h
  have g1 : (0 : Int) ≤ (i : Int) := Int.natCast_nonneg _
  obtain ⟨c0, c1, _, _, _⟩ := h.at_.cells
  clear h
  go_enter Try.func24, Try.ntmps24
  go_wp2_with fail
  clear c0 c1
  go_loopw [3, 4] (fun nv vv wr => ∃ (n v : Nat), Drawn w wr ∧ nv = .int .i64 n ∧ vv = .int .i64 v ∧ i + n ≤ s.size ∧ v ≤ 2147483648 ∧ Hid (numGo (s.data.toList.drop i) 0 0 = numGo (s.data.toList.drop (i + n)) n v)) (fun nv _ _ => s.size - (intOf nv).toNat)
  case atStart => exact ⟨0, 0, Drawn.refl _, rfl, rfl, by omega, by omega, Lib.hid rfl⟩
  case round =>
    obtain ⟨n, v, hD, rfl, rfl, hn, hv, hg⟩ := hrel
    obtain ⟨d0, d1, _, _, _⟩ := (hD.rdAt hat.out).cells
    have g2 : (0 : Int) ≤ (i : Int) + (n : Int) := by omega
    have g4 : IntKind.i64.wrap ((i : Int) + (n : Int)) = (i : Int) + (n : Int) := IntWalk.i64_in _ (by omega)
    have g5 : ((i : Int) + (n : Int)).toNat = i + n := by omega
    by_cases hlt : i + n < s.size
    · have g6 : (i : Int) + (n : Int) < (s.size : Int) := by omega
      have g7 : decide ((i : Int) + (n : Int) < (s.size : Int)) = true := by simpa using g6
      have hdc := Lib.hid (drop_cons s (i + n) hlt)
      cases hdig : isDigit (s[i + n].toNat)
      · -- behind the digits stands another sign
        have hend : Hid (numGo (s.data.toList.drop i) 0 0 = some (n, v)) := Lib.hid (by rw [hg.out, hdc.out]; unfold numGo; rw [if_neg (by rw [hdig]; simp)])
        go_wp2_with fail
        go_quiet ((go_at_call 23; exact quiet_any (digit_any _ _) (by first | rfl | rw [World.drewN_drewN])))
        go_wp2_with fail
        cases hlet : isLetter (s[i + n].toNat)
        · have hnx := Lib.hid (numNext_put s i n v hend.out hlt hlet)
          go_quiet ((go_at_call 25; exact quiet_any (letter_any _ _) (by first | rfl | rw [World.drewN_drewN])))
          go_wp2_with fail
          refine (PUT B R s i line frm n _ _ toks out _ ((hD.drewN _).rd H.out) hs (by omega) hf hl ht).mono ?_
          rintro e w1 ⟨rfl, out1, hr1, hb1⟩
          go_wp2_with fail
          go_ret
          exact stepP_tok hnx.out (((hD.drewN _).below B).trans hb1) ⟨out1, hr1⟩
        · have hnx := Lib.hid (numNext_letter s i n v hend.out hlt hlet)
          go_quiet ((go_at_call 25; exact quiet_any (letter_any _ _) (by first | rfl | rw [World.drewN_drewN])))
          go_wp2_with fail
          go_ret
          exact stepP_bad hnx.out (((hD.drewN _).drewN _).below B) ⟨out, ((hD.drewN _).drewN _).rd H.out⟩
      · have hb0 : 48 ≤ s[i + n].toNat ∧ s[i + n].toNat ≤ 57 := by simpa [isDigit] using hdig
        have e1 : IntKind.u8.wrap ((s[i + n].toNat : Int) - 48) = ((s[i + n].toNat - 48 : Nat) : Int) := by simp [IntKind.wrap, IntKind.signed, IntKind.bits]; omega
        have e2 : IntKind.i64.wrap (10 * (v : Int)) = ((10 * v : Nat) : Int) := by rw [IntWalk.i64_in _ (by omega)]; omega
        have e3 : IntKind.i64.wrap (((10 * v : Nat) : Int) + ((s[i + n].toNat - 48 : Nat) : Int)) = ((10 * v + (s[i + n].toNat - 48) : Nat) : Int) := by rw [IntWalk.i64_in _ (by omega)]; omega
        have e4 : IntKind.i64.wrap (((s[i + n].toNat - 48 : Nat) : Int)) = ((s[i + n].toNat - 48 : Nat) : Int) := IntWalk.i64_in _ (by omega)
        go_wp2_with fail
        go_quiet ((go_at_call 23; exact quiet_any (digit_any _ _) (by first | rfl | rw [World.drewN_drewN])))
        go_wp2_with fail
        go_quiet (fail)
        go_wp2_with fail
        · have hbig : 2147483648 < 10 * v + (s[i + n].toNat - 48) := by omega
          have hno : numGo (s.data.toList.drop i) 0 0 = none := by
            rw [hg.out, hdc.out]; unfold numGo; rw [if_pos hdig, if_pos hbig]
          go_ret
          exact stepP_bad (numNext_limit s i hno) ((hD.drewN _).below B) ⟨out, (hD.drewN _).rd H.out⟩
        · have hsm : ¬ 2147483648 < 10 * v + (s[i + n].toNat - 48) := by omega
          have hgo : Hid (numGo (s.data.toList.drop i) 0 0 = numGo (s.data.toList.drop (i + (n + 1))) (n + 1) (10 * v + (s[i + n].toNat - 48))) := Lib.hid (by
            rw [hg.out, hdc.out]
            rw [numGo, if_pos hdig, if_neg hsm]; rfl)
          exact ⟨⟨n + 1, 10 * v + (s[i + n].toNat - 48), hD.drewN _, by go_num, by go_num, by omega, by omega, hgo⟩, by simp only [intOf]; omega⟩
    · have g7 : decide ((i : Int) + (n : Int) < (s.size : Int)) = false := by simp; omega
      have hend : Hid (numGo (s.data.toList.drop i) 0 0 = some (n, v)) := Lib.hid (by rw [hg.out, drop_end s (i + n) (by omega)]; rfl)
      have hnx := Lib.hid (numNext_end s i n v hend.out (by omega))
      go_wp2_with fail
      go_quiet (fail)
      go_wp2_with fail
      go_quiet (fail)
      go_wp2_with fail
      refine (PUT B R s i line frm n _ _ toks out _ ((hD.drewN _).rd H.out) hs (by omega) hf hl ht).mono ?_
      rintro e w1 ⟨rfl, out1, hr1, hb1⟩
      go_wp2_with fail
      go_ret
      exact stepP_tok hnx.out (((hD.drewN _).below B).trans hb1) ⟨out1, hr1⟩
end Go.Proofs.Ytijdhfjdnndkmaa
