/-
 Texts that belong together: LexA, LexB, LexC, LexD.
-/
-- halved
import Derived.Test.YtohgdopfjkjppaaGreatDoorRows
import Derived.Test.YtohgdopfjkjppaaGreatDoorLexPlain
import Derived.Test.YtohgdopfjkjppaaGreatDoorShelf
import Derived.WalkKit
import Derived.WalkSpells
import Derived.WalkLawsBesides
import Derived.Lib.Hide
import Derived.Deep.Light
import Derived.Deep.QuietTactic
import Derived.BigQuiet
import Derived.Deep.RegionHeld3
import Derived.Deep.AppendLies
import Derived.Deep.RegionLaw
set_option linter.unusedVariables false
set_option linter.unusedSimpArgs false
namespace Go.Proofs.YtohgdopfjkjppaaGreatDoor
open Go.RowKit

theorem retBool {a b : Bool} (h : a = b) : Ending.returned (.bool a) = .returned (.bool b) := by rw [h]

set_option maxHeartbeats 400000 in
theorem digit_any (c : Nat) (w : World) :
    Calls Tryz.prog 86 #[.int .u8 c] w fun e w' => e = .returned (.bool (isDigit c)) ∧ w = w' := by
 go_enter Tryz.func86, Tryz.ntmps86
 go_wp2
 all_goals
  go_ret
  refine ⟨retBool ?_, rfl⟩
  go_light
  unfold isDigit
  rw [Bool.eq_iff_iff]
  simp
  omega

set_option maxHeartbeats 400000 in
theorem letter_any (c : Nat) (w : World) :
    Calls Tryz.prog 88 #[.int .u8 c] w fun e w' => e = .returned (.bool (isLetter c)) ∧ w = w' := by
 go_enter Tryz.func88, Tryz.ntmps88
 go_wp2
 all_goals
  go_ret
  refine ⟨retBool ?_, rfl⟩
  go_light
  unfold isLetter
  rw [Bool.eq_iff_iff]
  simp
  omega

theorem cont_keys (k s : ByteArray) (hk : k.data.toList = keysL) (m : Int) (w : World) (hm : w.cell? ⟨1, 0, none⟩ = some (.int .i64 m)) :
    Calls Tryz.prog 123 #[.string k, .string (⟨#[32]⟩ ++ s ++ ⟨#[32]⟩)] w fun e w' => e = .returned (.bool (hasKey s.data.toList)) ∧ w = w' := by
 have hl : k.size < 4294967281 := by
  have h1 : k.size = k.data.toList.length := by rw [Array.length_toList]; rfl
  rw [h1, hk, keys_len]; decide
 refine (Tryz.strings_Contains k _ m w hl hm).mono fun e w' ⟨h1, h2⟩ => ⟨?_, h2.symm⟩
 have h3 : ((⟨#[32]⟩ ++ s ++ ⟨#[32]⟩ : ByteArray)).data.toList = 32 :: (s.data.toList ++ [32]) := by simp [ByteArray.data_append]
 rw [h1, hk, h3]
 rfl

theorem cont_blank (s : ByteArray) (w : World) :
    Calls Tryz.prog 123 #[.string s, .string ⟨#[32]⟩] w fun e w' => e = .returned (.bool (hasBlank s.data.toList)) ∧ w = w' :=
 (Tryz.strings_Contains_one s 32 w).mono fun e w' ⟨h1, h2⟩ => ⟨h1, h2.symm⟩

set_option maxRecDepth 100000 in
set_option maxHeartbeats 1000000 in
theorem isKey_any (s : ByteArray) (m : Int) (w : World) (hs : s.size ≤ 281474976710656) (hm : w.cell? ⟨1, 0, none⟩ = some (.int .i64 m)) :
    Calls Tryz.prog 107 #[.string s] w fun e w' => e = .returned (.bool (isKeyB s.data.toList)) ∧ w = w' := by
 have e0 := Lib.hid (isKeyGo_eq s.data.toList)
 cases hE : s.toList.isEmpty
 ·have HE := Lib.hid hE
  go_enter Tryz.func107, Tryz.ntmps107
  go_wp2_with fail
  refine (cont_keys _ _ ?_ m _ hm).mono ?_
  ·kernel_rfl
  rintro e w' ⟨rfl, rfl⟩
  cases hk : hasKey s.data.toList
  ·go_wp2_with fail
   go_ret
   refine ⟨retBool ?_, rfl⟩
   rw [← e0.out]; unfold isKeyGo; rw [hk]; simp
  ·go_wp2_with fail
   refine (cont_blank _ _).mono ?_
   rintro e w' ⟨rfl, rfl⟩
   go_wp2_with fail
   go_ret
   refine ⟨retBool ?_, rfl⟩
   have h2 := HE.out
   rw [ByteArray.toList_eq] at h2
   rw [← e0.out]; unfold isKeyGo; rw [hk, h2]; simp
 ·have h1 : s = ⟨#[]⟩ := by
    rw [ByteArray.toList_eq] at hE
    obtain ⟨⟨l⟩⟩ := s
    simp at hE
    subst hE; rfl
  subst h1
  go_enter Tryz.func107, Tryz.ntmps107
  go_wp2
  go_ret
  exact ⟨retBool (by decide), rfl⟩

def RdAt (w : World) (R : Nat) (s : ByteArray) (i line frm : Nat) (out : Value) : Prop :=
 w.heap[R]? = some (.cells #[.string s, .int .i64 i, .int .i64 line, .int .i64 frm, out] 119 (0, 0))

theorem RdAt.lt {w : World} {R : Nat} {s : ByteArray} {i line frm : Nat} {out : Value} (h : RdAt w R s i line frm out) : R < w.heap.size := by
 rcases Nat.lt_or_ge R w.heap.size with hlt | hge
 ·exact hlt
 ·unfold RdAt at h; rw [Array.getElem?_eq_none hge] at h; cases h

theorem RdAt.cells {w : World} {R : Nat} {s : ByteArray} {i line frm : Nat} {out : Value} (h : RdAt w R s i line frm out) :
    w.cell? ⟨R, 0, none⟩ = some (.string s) ∧ w.cell? ⟨R, 1, none⟩ = some (.int .i64 i) ∧ w.cell? ⟨R, 2, none⟩ = some (.int .i64 line) ∧ w.cell? ⟨R, 3, none⟩ = some (.int .i64 frm) ∧ w.cell? ⟨R, 4, none⟩ = some out := by
 unfold RdAt at h
 refine ⟨?_, ?_, ?_, ?_, ?_⟩ <;> simp [World.cell?, h]
theorem RdAt.free {w : World} {R : Nat} {s : ByteArray} {i line frm : Nat} {out : Value} (h : RdAt w R s i line frm out) (k : Nat) : w.frozen? ⟨R, k, none⟩ = false := by
 unfold RdAt at h
 simp [World.frozen?, h]

set_option maxHeartbeats 1000000 in
theorem pos_any (R : Nat) (s : ByteArray) (i line frm : Nat) (out : Value) (w : World) (h : RdAt w R s i line frm out) (hi : i ≤ 65536) (hf : frm ≤ i) :
    Calls Tryz.prog 64 #[.pointer (some ⟨R, 0, none⟩)] w fun e w' => e = .returned (.agg #[.int .i64 line, .int .i64 ((i : Int) - frm + 1)]) ∧ Below w.heap.size w w' := by
 have c1 : w.cell? ⟨R, 1, none⟩ = some (.int .i64 i) := by unfold RdAt at h; simp [World.cell?, h]
 have c2 : w.cell? ⟨R, 2, none⟩ = some (.int .i64 line) := by unfold RdAt at h; simp [World.cell?, h]
 have c3 : w.cell? ⟨R, 3, none⟩ = some (.int .i64 frm) := by unfold RdAt at h; simp [World.cell?, h]
 have hR : R < w.heap.size := RdAt.lt h
 clear h
 go_enter Tryz.func64, Tryz.ntmps64
 go_wp2
 go_region
 all_goals
  go_wp2
  exact bodyPost_ret (v := .agg #[.int .i64 line, .int .i64 ((i : Int) - frm + 1)]) (by simp [results, Tryz.results64, go_sem]) rfl ⟨rfl, ((Below.refl _ _).alloc (Nat.le_refl _) _).drew⟩

theorem own_below {W W' : World} {B e size n : Nat} {v : Value} {xs : List Value} (h : W.ownsRow B e size v n xs) (hb : Below W.heap.size W W') : W'.ownsRow B e size v n xs := by
 refine ⟨h.1, h.2.imp id ?_⟩
 rintro ⟨g, cap, cur, hv, hB, hh, hr⟩
 have hg : g < W.heap.size := by
  rcases Nat.lt_or_ge g W.heap.size with hlt | hge
  ·exact hlt
  ·rw [Array.getElem?_eq_none hge] at hh; cases hh
 exact ⟨g, cap, cur, hv, hB, (hb.block g hg).trans hh, hr⟩

structure Tok where
 kind : Int
 text : ByteArray
 n : Int
 line : Int
 col : Int
def Tok.cells (t : Tok) : List Value := [.int .u8 t.kind, .string t.text, .int .i32 t.n, .int .i64 t.line, .int .i64 t.col]
def tokCells (l : List Tok) : List Value := l.flatMap Tok.cells
theorem info_tok : (Tryz.prog.info? 80).map (fun i => (i.zero, i.size, i.bytes)) = some (some (.agg #[.int .u8 0, .string ⟨#[]⟩, .int .i32 0, .int .i64 0, .int .i64 0]), 5, 48) := by kernel_rfl

structure Rd (B : Nat) (w : World) (R : Nat) (s : ByteArray) (i line frm : Nat) (toks : List Tok) (out : Value) : Prop where
 at_ : RdAt w R s i line frm out
 own : w.ownsRow B 80 5 out toks.length (tokCells toks)
 le : B ≤ R

theorem ne_of_tok {B : Nat} {w : World} {R : Nat} {s : ByteArray} {i line frm : Nat} {toks : List Tok} {out : Value} (h : Rd B w R s i line frm toks out) : some R ≠ out.ownBlock := by
 obtain ⟨h1, h2, _⟩ := h
 rcases h2.2 with ⟨rfl, _⟩ | ⟨g, cap, cur, rfl, _, hh, _⟩
 ·simp [Value.ownBlock]
 ·intro he
  have : R = g := by simpa [Value.ownBlock] using he
  subst this
  unfold RdAt at h1
  rw [h1] at hh
  injection hh with hh
  injection hh with _ ht
  exact absurd ht (by decide)

theorem quiet_any {P : Program} {f : FuncId} {args : Array Value} {W : World} {X : Nat → World} {v : Value} {m : Nat}
    (h : Calls P f args W fun e w' => e = .returned v ∧ W = w') (hW : X m = W) : Calls P f args W fun e w'' => e = .returned v ∧ ∃ m, w'' = X m :=
 h.mono fun _ _ ⟨he, hm⟩ => ⟨he, m, hm.symm.trans hW.symm⟩

def Drawn (w w' : World) : Prop := ∃ k, w' = w.drewN k
theorem Drawn.refl (w : World) : Drawn w w := ⟨0, rfl⟩
theorem Drawn.drewN {w w' : World} (h : Drawn w w') (n : Nat) : Drawn w (w'.drewN n) := by
 obtain ⟨k, rfl⟩ := h
 exact ⟨k + n, by rw [World.drewN_drewN]⟩
theorem Drawn.heap {w w' : World} (h : Drawn w w') : w'.heap = w.heap := by obtain ⟨k, rfl⟩ := h; rfl
theorem Drawn.below {w w' : World} (h : Drawn w w') (B : Nat) : Below B w w' := by obtain ⟨k, rfl⟩ := h; exact ⟨rfl, rfl, rfl, Nat.le_refl _, fun _ _ => rfl⟩
theorem Drawn.rdAt {w w' : World} (h : Drawn w w') {R : Nat} {s : ByteArray} {i line frm : Nat} {out : Value} (hr : RdAt w R s i line frm out) : RdAt w' R s i line frm out := by
 unfold RdAt at *; rw [h.heap]; exact hr
theorem Drawn.rd {w w' : World} (h : Drawn w w') {B R : Nat} {s : ByteArray} {i line frm : Nat} {toks : List Tok} {out : Value} (hr : Rd B w R s i line frm toks out) : Rd B w' R s i line frm toks out := by
 obtain ⟨k, rfl⟩ := h; exact ⟨hr.at_, hr.own, hr.le⟩

def StepP (B R : Nat) (s : ByteArray) (i line frm : Nat) (toks : List Tok) (w : World) (st : Next) (e : Ending) (w' : World) : Prop :=
 Below B w w' ∧
 (st.code = 0 → e = .returned (.int .i64 0) ∧ ∃ out, Rd B w' R s (i + st.k) line frm toks out) ∧
 (st.code = 1 → e = .returned (.int .i64 0) ∧ ∃ out, Rd B w' R s (i + 1) (line + 1) (i + 1) toks out) ∧
 (st.code = 2 → e = .returned (.int .i64 0) ∧ ∃ out, Rd B w' R s (i + st.k) line frm (toks ++ [⟨st.kind, s.extract i (i + st.k), st.n, line, (i : Int) - frm + 1⟩]) out) ∧
 (st.code = 3 → e = .returned (.int .i64 st.kind) ∧ ∃ out, Rd B w' R s i line frm toks out)

section
variable {B R : Nat} {s : ByteArray} {i line frm : Nat} {toks : List Tok} {w w' : World} {st : Next}
theorem stepP_tok {k : Nat} {kind n : Int} (hst : st = ⟨2, k, kind, n⟩) (hb : Below B w w')
    (hr : ∃ out, Rd B w' R s (i + k) line frm (toks ++ [⟨kind, s.extract i (i + k), n, line, (i : Int) - frm + 1⟩]) out) : StepP B R s i line frm toks w st (.returned (.int .i64 0)) w' := by
 subst hst
 exact ⟨hb, fun h => absurd h (by simp), fun h => absurd h (by simp), fun _ => ⟨rfl, hr⟩, fun h => absurd h (by simp)⟩
theorem stepP_bad {k : Nat} {kind n : Int} (hst : st = ⟨3, k, kind, n⟩) (hb : Below B w w') (hr : ∃ out, Rd B w' R s i line frm toks out) :
    StepP B R s i line frm toks w st (.returned (.int .i64 kind)) w' := by
 subst hst
 exact ⟨hb, fun h => absurd h (by simp), fun h => absurd h (by simp), fun h => absurd h (by simp), fun _ => ⟨rfl, hr⟩⟩
theorem stepP_skip {k : Nat} {kind n : Int} (hst : st = ⟨0, k, kind, n⟩) (hb : Below B w w') (hr : ∃ out, Rd B w' R s (i + k) line frm toks out) :
    StepP B R s i line frm toks w st (.returned (.int .i64 0)) w' := by
 subst hst
 exact ⟨hb, fun _ => ⟨rfl, hr⟩, fun h => absurd h (by simp), fun h => absurd h (by simp), fun h => absurd h (by simp)⟩
theorem stepP_line {k : Nat} {kind n : Int} (hst : st = ⟨1, k, kind, n⟩) (hb : Below B w w') (hr : ∃ out, Rd B w' R s (i + 1) (line + 1) (i + 1) toks out) :
    StepP B R s i line frm toks w st (.returned (.int .i64 0)) w' := by
 subst hst
 exact ⟨hb, fun h => absurd h (by simp), fun _ => ⟨rfl, hr⟩, fun h => absurd h (by simp), fun h => absurd h (by simp)⟩
end

def PutSaid : Prop := ∀ (B R : Nat) (s : ByteArray) (i line frm n : Nat) (kind v : Int) (toks : List Tok) (out : Value) (w : World), Rd B w R s i line frm toks out →
    s.size ≤ 65536 → i + n ≤ s.size → frm ≤ i → line ≤ 70000 → toks.length ≤ i →
    Calls Tryz.prog 106 #[.pointer (some ⟨R, 0, none⟩), .int .u8 kind, .int .i64 n, .int .i32 v] w fun e w' => e = .returned (.tuple #[]) ∧
     ∃ out', Rd B w' R s (i + n) line frm (toks ++ [⟨kind, s.extract i (i + n), v, line, (i : Int) - frm + 1⟩]) out' ∧ Below B w w'

set_option maxHeartbeats 4000000 in
theorem number_any (PUT : PutSaid) (B R : Nat) (s : ByteArray) (i line frm : Nat) (toks : List Tok) (out : Value) (w : World) (h : Rd B w R s i line frm toks out)
    (hs : s.size ≤ 65536) (hi : i < s.size) (hf : frm ≤ i) (hl : line ≤ 70000) (ht : toks.length ≤ i) :
    Calls Tryz.prog 87 #[.pointer (some ⟨R, 0, none⟩)] w (StepP B R s i line frm toks w (numNext (s.data.toList.drop i))) := by
 have hat := Lib.hid h.at_
 have H := Lib.hid h
 have g1 : (0 : Int) ≤ (i : Int) := Int.natCast_nonneg _
 obtain ⟨c0, c1, _, _, _⟩ := h.at_.cells
 clear h
 go_enter Tryz.func87, Tryz.ntmps87
 go_wp2_with fail
 clear c0 c1
 go_loopw [3, 4] (fun nv vv wr => ∃ (n v : Nat), Drawn w wr ∧ nv = .int .i64 n ∧ vv = .int .i64 v ∧ i + n ≤ s.size ∧ v ≤ 2147483648 ∧ Hid (numGo (s.data.toList.drop i) 0 0 = numGo (s.data.toList.drop (i + n)) n v)) (fun nv _ _ => s.size - (intOf nv).toNat)
 case atStart => exact ⟨0, 0, Drawn.refl _, rfl, rfl, by omega, by omega, Lib.hid rfl⟩
 case round =>
  obtain ⟨n, v, hD, rfl, rfl, hn, hv, hg⟩ := hrel
  obtain ⟨d0, d1, _, _, _⟩ := (hD.rdAt hat.out).cells
  have g2 : (0 : Int) ≤ (i : Int) + (n : Int) := by omega
  have g4 : IntKind.i64.wrap ((i : Int) + (n : Int)) = (i : Int) + (n : Int) := IntWalk.i64_in _ (by omega)
  have g5 : ((i : Int) + (n : Int)).toNat = i + n := by omega
  by_cases hlt : i + n < s.size
  ·have g6 : (i : Int) + (n : Int) < (s.size : Int) := by omega
   have g7 : decide ((i : Int) + (n : Int) < (s.size : Int)) = true := by simpa using g6
   have hdc := Lib.hid (drop_cons s (i + n) hlt)
   cases hdig : isDigit (s[i + n].toNat)
   ·
    have hend : Hid (numGo (s.data.toList.drop i) 0 0 = some (n, v)) := Lib.hid (by rw [hg.out, hdc.out]; unfold numGo; rw [if_neg (by rw [hdig]; simp)])
    go_wp2_with fail
    go_quiet ((go_at_call 86; exact quiet_any (digit_any _ _) (by first | rfl | rw [World.drewN_drewN])))
    go_wp2_with fail
    cases hlet : isLetter (s[i + n].toNat)
    ·have hnx := Lib.hid (numNext_put s i n v hend.out hlt hlet)
     go_quiet ((go_at_call 88; exact quiet_any (letter_any _ _) (by first | rfl | rw [World.drewN_drewN])))
     go_wp2_with fail
     refine (PUT B R s i line frm n _ _ toks out _ ((hD.drewN _).rd H.out) hs (by omega) hf hl ht).mono ?_
     rintro e w1 ⟨rfl, out1, hr1, hb1⟩
     go_wp2_with fail
     go_ret
     exact stepP_tok hnx.out (((hD.drewN _).below B).trans hb1) ⟨out1, hr1⟩
    ·have hnx := Lib.hid (numNext_letter s i n v hend.out hlt hlet)
     go_quiet ((go_at_call 88; exact quiet_any (letter_any _ _) (by first | rfl | rw [World.drewN_drewN])))
     go_wp2_with fail
     go_ret
     exact stepP_bad hnx.out (((hD.drewN _).drewN _).below B) ⟨out, ((hD.drewN _).drewN _).rd H.out⟩
   ·have hb0 : 48 ≤ s[i + n].toNat ∧ s[i + n].toNat ≤ 57 := by simpa [isDigit] using hdig
    have e1 : IntKind.u8.wrap ((s[i + n].toNat : Int) - 48) = ((s[i + n].toNat - 48 : Nat) : Int) := by simp [IntKind.wrap, IntKind.signed, IntKind.bits]; omega
    have e2 : IntKind.i64.wrap (10 * (v : Int)) = ((10 * v : Nat) : Int) := by rw [IntWalk.i64_in _ (by omega)]; omega
    have e3 : IntKind.i64.wrap (((10 * v : Nat) : Int) + ((s[i + n].toNat - 48 : Nat) : Int)) = ((10 * v + (s[i + n].toNat - 48) : Nat) : Int) := by rw [IntWalk.i64_in _ (by omega)]; omega
    have e4 : IntKind.i64.wrap (((s[i + n].toNat - 48 : Nat) : Int)) = ((s[i + n].toNat - 48 : Nat) : Int) := IntWalk.i64_in _ (by omega)
    go_wp2_with fail
    go_quiet ((go_at_call 86; exact quiet_any (digit_any _ _) (by first | rfl | rw [World.drewN_drewN])))
    go_wp2_with fail
    go_quiet (fail)
    go_wp2_with fail
    ·have hbig : 2147483648 < 10 * v + (s[i + n].toNat - 48) := by omega
     have hno : numGo (s.data.toList.drop i) 0 0 = none := by
      rw [hg.out, hdc.out]; unfold numGo; rw [if_pos hdig, if_pos hbig]
     go_ret
     exact stepP_bad (numNext_limit s i hno) ((hD.drewN _).below B) ⟨out, (hD.drewN _).rd H.out⟩
    ·have hsm : ¬ 2147483648 < 10 * v + (s[i + n].toNat - 48) := by omega
     have hgo : Hid (numGo (s.data.toList.drop i) 0 0 = numGo (s.data.toList.drop (i + (n + 1))) (n + 1) (10 * v + (s[i + n].toNat - 48))) := Lib.hid (by
      rw [hg.out, hdc.out]
      rw [numGo, if_pos hdig, if_neg hsm]; rfl)
     exact ⟨⟨n + 1, 10 * v + (s[i + n].toNat - 48), hD.drewN _, by go_num, by go_num, by omega, by omega, hgo⟩, by simp only [intOf]; omega⟩
  ·have g7 : decide ((i : Int) + (n : Int) < (s.size : Int)) = false := by simp; omega
   have hend : Hid (numGo (s.data.toList.drop i) 0 0 = some (n, v)) := Lib.hid (by rw [hg.out, drop_end s (i + n) (by omega)]; rfl)
   have hnx := Lib.hid (numNext_end s i n v hend.out (by omega))
   go_wp2_with fail
   go_quiet (fail)
   go_wp2_with fail
   go_quiet (fail)
   go_wp2_with fail
   refine (PUT B R s i line frm n _ _ toks out _ ((hD.drewN _).rd H.out) hs (by omega) hf hl ht).mono ?_
   rintro e w1 ⟨rfl, out1, hr1, hb1⟩
   go_wp2_with fail
   go_ret
   exact stepP_tok hnx.out (((hD.drewN _).below B).trans hb1) ⟨out1, hr1⟩

theorem isKey_is (s : ByteArray) (m : Int) (w : World) (b : Bool) (hb : isKeyB s.data.toList = b) (hs : s.size ≤ 281474976710656) (hm : w.cell? ⟨1, 0, none⟩ = some (.int .i64 m)) :
    Calls Tryz.prog 107 #[.string s] w fun e w' => e = .returned (.bool b) ∧ w = w' := by
 subst hb; exact isKey_any s m w hs hm
theorem Drawn.cell {w w' : World} (h : Drawn w w') (a : Addr) : w'.cell? a = w.cell? a := by obtain ⟨k, rfl⟩ := h; rfl

section
variable {s : ByteArray} {i n : Nat}
theorem wordNext_long (he : wordLen (s.data.toList.drop i) = n) (h : 32 < n) : wordNext (s.data.toList.drop i) = ⟨3, 0, 3, 0⟩ := by
 unfold wordNext; rw [he, if_pos h]
theorem piece_eq : (s.extract i (i + n)).data.toList = (s.data.toList.drop i).take n := by rw [Lib.extract_data]; congr 1; omega
theorem wordNext_key (he : wordLen (s.data.toList.drop i) = n) (h : ¬ 32 < n) (hk : isKeyB (s.extract i (i + n)).data.toList = true) : wordNext (s.data.toList.drop i) = ⟨2, n, 4, 0⟩ := by
 unfold wordNext; rw [he, if_neg h]; rw [piece_eq] at hk; rw [if_pos hk]
theorem wordNext_great (he : wordLen (s.data.toList.drop i) = n) (h : ¬ 32 < n) (hk : isKeyB (s.extract i (i + n)).data.toList = false) (c : Nat) (hc : headN (s.data.toList.drop i) = c) (h2 : 65 ≤ c ∧ c ≤ 90) :
    wordNext (s.data.toList.drop i) = ⟨2, n, 3, 0⟩ := by
 unfold wordNext; rw [he, if_neg h]; rw [piece_eq] at hk; rw [if_neg (by rw [hk]; simp), hc, if_pos h2]
theorem wordNext_line (he : wordLen (s.data.toList.drop i) = n) (h : ¬ 32 < n) (hk : isKeyB (s.extract i (i + n)).data.toList = false) (c : Nat) (hc : headN (s.data.toList.drop i) = c) (h2 : c = 95) :
    wordNext (s.data.toList.drop i) = ⟨3, 0, 1, 0⟩ := by
 unfold wordNext; rw [he, if_neg h]; rw [piece_eq] at hk; rw [if_neg (by rw [hk]; simp), hc, if_neg (by omega), if_pos h2]
theorem wordNext_small (he : wordLen (s.data.toList.drop i) = n) (h : ¬ 32 < n) (hk : isKeyB (s.extract i (i + n)).data.toList = false) (c : Nat) (hc : headN (s.data.toList.drop i) = c) (h2 : ¬ (65 ≤ c ∧ c ≤ 90)) (h3 : c ≠ 95) :
    wordNext (s.data.toList.drop i) = ⟨2, n, 2, 0⟩ := by
 unfold wordNext; rw [he, if_neg h]; rw [piece_eq] at hk; rw [if_neg (by rw [hk]; simp), hc, if_neg h2, if_neg h3]
end

theorem letter_is (c : Nat) (b : Bool) (hb : isLetter c = b) (w : World) :
    Calls Tryz.prog 88 #[.int .u8 c] w fun e w' => e = .returned (.bool b) ∧ w = w' := by
 subst hb; exact letter_any c w
theorem digit_is (c : Nat) (b : Bool) (hb : isDigit c = b) (w : World) :
    Calls Tryz.prog 86 #[.int .u8 c] w fun e w' => e = .returned (.bool b) ∧ w = w' := by
 subst hb; exact digit_any c w

theorem head_at (s : ByteArray) (i : Nat) (h : i < s.size) : headN (s.data.toList.drop i) = s[i].toNat := by
 unfold headN; rw [drop_cons s i h]; rfl
theorem extract_zero (s : ByteArray) (i n : Nat) (hn : 0 < n) (h : i + n ≤ s.size) (h0 : 0 < (s.extract i (i + n)).size) : (s.extract i (i + n))[0] = s[i] := by
 rw [ByteArray.getElem_extract]; rfl

set_option maxHeartbeats 4000000 in
theorem word_any (PUT : PutSaid) (B R : Nat) (s : ByteArray) (i line frm : Nat) (toks : List Tok) (out : Value) (w : World) (h : Rd B w R s i line frm toks out) (m : Int)
    (hm : w.cell? ⟨1, 0, none⟩ = some (.int .i64 m))
    (hs : s.size ≤ 65536) (hi : i < s.size) (hf : frm ≤ i) (hl : line ≤ 70000) (ht : toks.length ≤ i) (hlet0 : isLetter (s[i].toNat) = true) :
    Calls Tryz.prog 89 #[.pointer (some ⟨R, 0, none⟩)] w (StepP B R s i line frm toks w (wordNext (s.data.toList.drop i))) := by
 have hat := Lib.hid h.at_
 have H := Lib.hid h
 have HM := Lib.hid hm
 have g1 : (0 : Int) ≤ (i : Int) := Int.natCast_nonneg _
 obtain ⟨c0, c1, _, _, _⟩ := h.at_.cells
 clear h hm
 have hpos : 0 < wordLen (s.data.toList.drop i) := by
  rw [drop_cons s i hi, wordLen_cons _ _ (by rw [hlet0]; rfl)]; omega
 have HP := Lib.hid hpos
 have HL := Lib.hid hlet0
 clear hpos hlet0
 go_enter Tryz.func89, Tryz.ntmps89
 go_wp2_with fail
 clear c0 c1
 go_loopw [3] (fun nv wr => ∃ (n : Nat), Drawn w wr ∧ nv = .int .i64 n ∧ i + n ≤ s.size ∧ Hid (wordLen (s.data.toList.drop i) = n + wordLen (s.data.toList.drop (i + n)))) (fun nv _ => s.size - (intOf nv).toNat)
 case atStart => exact ⟨0, Drawn.refl _, rfl, by omega, Lib.hid (by simp)⟩
 case round =>
  obtain ⟨n, hD, rfl, hn, hg⟩ := hrel
  obtain ⟨d0, d1, _, _, _⟩ := (hD.rdAt hat.out).cells
  have g2 : (0 : Int) ≤ (i : Int) + (n : Int) := by omega
  have g4 : IntKind.i64.wrap ((i : Int) + (n : Int)) = (i : Int) + (n : Int) := IntWalk.i64_in _ (by omega)
  have g5 : ((i : Int) + (n : Int)).toNat = i + n := by omega
  have q2 : (i : Int) ≤ (i : Int) + (n : Int) := by omega
  have q3 : (i : Int) + (n : Int) ≤ (s.size : Int) := by omega
  by_cases hgo : ∃ hlt : i + n < s.size, (isLetter (s[i + n].toNat) || isDigit (s[i + n].toNat)) = true
  ·obtain ⟨hlt, hld⟩ := hgo
   have hnext : Hid (wordLen (s.data.toList.drop i) = (n + 1) + wordLen (s.data.toList.drop (i + (n + 1)))) := Lib.hid (by
    rw [hg.out, drop_cons s (i + n) hlt, wordLen_cons _ _ hld]
    rw [show i + (n + 1) = i + n + 1 from rfl]; omega)
   have g6 : (i : Int) + (n : Int) < (s.size : Int) := by omega
   have g7 : decide ((i : Int) + (n : Int) < (s.size : Int)) = true := by simpa using g6
   cases hlet : isLetter (s[i + n].toNat)
   ·have hdig : isDigit (s[i + n].toNat) = true := by rw [hlet] at hld; simpa using hld
    have HLT := Lib.hid hlet
    have HDG := Lib.hid hdig
    clear hld hlet hdig
    go_wp2_with fail
    go_quiet ((first | (go_at_call 88; exact quiet_any (letter_is _ _ HLT.out _) (by first | rfl | rw [World.drewN_drewN])) | (go_at_call 86; exact quiet_any (digit_is _ _ HDG.out _) (by first | rfl | rw [World.drewN_drewN]))))
    go_wp2_with fail
    exact ⟨⟨n + 1, hD.drewN _, by go_num, by omega, hnext⟩, by simp only [intOf]; omega⟩
   ·have HLT := Lib.hid hlet
    clear hld hlet
    go_wp2_with fail
    go_quiet ((first | (go_at_call 88; exact quiet_any (letter_is _ _ HLT.out _) (by first | rfl | rw [World.drewN_drewN]))))
    go_wp2_with fail
    exact ⟨⟨n + 1, hD.drewN _, by go_num, by omega, hnext⟩, by simp only [intOf]; omega⟩
  ·have hend : Hid (wordLen (s.data.toList.drop i) = n) := Lib.hid (by
     rw [hg.out]
     by_cases hlt : i + n < s.size
     ·rw [drop_cons s (i + n) hlt, wordLen_stop _ _ (by
        cases hx : (isLetter (s[i + n].toNat) || isDigit (s[i + n].toNat))
        ·rfl
        ·exact absurd ⟨hlt, hx⟩ hgo)]; rfl
     ·rw [drop_end s (i + n) (by omega)]; rfl)
   have hn0 : 0 < n := by have := HP.out; have := hend.out; omega
   have HN := Lib.hid hn
   by_cases hlt : i + n < s.size
   case' pos =>
    have hno : (isLetter (s[i + n].toNat) || isDigit (s[i + n].toNat)) = false := by
     cases hx : (isLetter (s[i + n].toNat) || isDigit (s[i + n].toNat))
     ·rfl
     ·exact absurd ⟨hlt, hx⟩ hgo
    have hno2 : isLetter (s[i + n].toNat) = false ∧ isDigit (s[i + n].toNat) = false := by simpa using hno
    have HLT := Lib.hid hno2.1
    have HDG := Lib.hid hno2.2
    have g6 : (i : Int) + (n : Int) < (s.size : Int) := by omega
    have g7 : decide ((i : Int) + (n : Int) < (s.size : Int)) = true := by simpa using g6
    clear hno hno2 hgo hg
    go_wp2_with fail
    go_quiet ((first | (go_at_call 88; exact quiet_any (letter_is _ _ HLT.out _) (by first | rfl | rw [World.drewN_drewN])) | (go_at_call 86; exact quiet_any (digit_is _ _ HDG.out _) (by first | rfl | rw [World.drewN_drewN]))))
    go_wp2_with fail
   case' neg =>
    have g7 : decide ((i : Int) + (n : Int) < (s.size : Int)) = false := by simp; omega
    clear hgo hg
    go_wp2_with fail
    go_quiet (fail)
    clear g7
    go_wp2_with fail
   all_goals
    have hsz : 0 < (s.extract i (i + n)).size := by rw [ByteArray.size_extract]; omega
    have hc0 := Lib.hid ((head_at s i hi).trans (congrArg UInt8.toNat (extract_zero s i n hn0 hn hsz)).symm)
    have HMr := Lib.hid ((hD.cell ⟨1, 0, none⟩).trans HM.out)
    have hsz1 : (0 : Int) < ((s.extract i (i + n)).size : Int) := by omega
    have hsz2 : (s.extract i (i + n)).size ≤ 281474976710656 := by rw [ByteArray.size_extract]; omega
    go_quiet (fail)
    go_wp2_with fail
    ·have h32 : 32 < n := by omega
     go_ret
     exact stepP_bad (wordNext_long hend.out h32) ((hD.drewN _).below B) ⟨out, (hD.drewN _).rd H.out⟩
    have h32 : ¬ 32 < n := by omega
    have H32 := Lib.hid h32
    cases hkey : isKeyB (s.extract i (i + n)).data.toList
    ·have HK := Lib.hid hkey
     clear hkey
     refine (isKey_is _ m _ false HK.out hsz2 (by exact HMr.out)).mono ?_
     rintro e w' ⟨rfl, rfl⟩
     go_wp2_with fail
     ·have hc : 65 ≤ ((s.extract i (i + n))[0]).toNat ∧ ((s.extract i (i + n))[0]).toNat ≤ 90 := ⟨by omega, by omega⟩
      refine (PUT B R s i line frm n _ _ toks out _ ((hD.drewN _).rd H.out) hs hn hf hl ht).mono ?_
      rintro e w1 ⟨rfl, out1, hr1, hb1⟩
      go_wp2_with fail
      go_ret
      exact stepP_tok (wordNext_great hend.out H32.out HK.out _ hc0.out hc) (((hD.drewN _).below B).trans hb1) ⟨out1, hr1⟩
     ·have hc : ((s.extract i (i + n))[0]).toNat = 95 := by
        have h : (((((s.extract i (i + n))[0]).toNat : Nat) : Int) == 95) = true := by assumption
        simp at h; omega
      go_ret
      exact stepP_bad (wordNext_line hend.out H32.out HK.out _ hc0.out hc) ((hD.drewN _).below B) ⟨out, (hD.drewN _).rd H.out⟩
     ·have hc : ((s.extract i (i + n))[0]).toNat ≠ 95 := by
        have h : (((((s.extract i (i + n))[0]).toNat : Nat) : Int) == 95) = false := by assumption
        simp at h; omega
      have hc2 : ¬ (65 ≤ ((s.extract i (i + n))[0]).toNat ∧ ((s.extract i (i + n))[0]).toNat ≤ 90) := by omega
      refine (PUT B R s i line frm n _ _ toks out _ ((hD.drewN _).rd H.out) hs hn hf hl ht).mono ?_
      rintro e w1 ⟨rfl, out1, hr1, hb1⟩
      go_wp2_with fail
      go_ret
      exact stepP_tok (wordNext_small hend.out H32.out HK.out _ hc0.out hc2 hc) (((hD.drewN _).below B).trans hb1) ⟨out1, hr1⟩
     ·have hc : ((s.extract i (i + n))[0]).toNat ≠ 95 := by
        have h : (((((s.extract i (i + n))[0]).toNat : Nat) : Int) == 95) = false := by assumption
        simp at h; omega
      have hc2 : ¬ (65 ≤ ((s.extract i (i + n))[0]).toNat ∧ ((s.extract i (i + n))[0]).toNat ≤ 90) := by omega
      refine (PUT B R s i line frm n _ _ toks out _ ((hD.drewN _).rd H.out) hs hn hf hl ht).mono ?_
      rintro e w1 ⟨rfl, out1, hr1, hb1⟩
      go_wp2_with fail
      go_ret
      exact stepP_tok (wordNext_small hend.out H32.out HK.out _ hc0.out hc2 hc) (((hD.drewN _).below B).trans hb1) ⟨out1, hr1⟩
    ·have HK := Lib.hid hkey
     clear hkey
     refine (isKey_is _ m _ true HK.out hsz2 (by exact HMr.out)).mono ?_
     rintro e w' ⟨rfl, rfl⟩
     go_wp2_with fail
     refine (PUT B R s i line frm n _ _ toks out _ ((hD.drewN _).rd H.out) hs hn hf hl ht).mono ?_
     rintro e w1 ⟨rfl, out1, hr1, hb1⟩
     go_wp2_with fail
     go_ret
     exact stepP_tok (wordNext_key hend.out H32.out HK.out) (((hD.drewN _).below B).trans hb1) ⟨out1, hr1⟩

theorem prefix_is (s p : ByteArray) (i : Nat) (b : Bool) (hb : Lib.hasPrefix (s.data.toList.drop i) p.data.toList = b) (w : World) :
    Calls Tryz.prog 85 #[.string (s.extract i s.size), .string p] w fun e w' => e = .returned (.bool b) ∧ w = w' := by
 refine (Tryz.strings_HasPrefix _ p w).mono fun e w' ⟨h1, h2⟩ => ⟨?_, h2.symm⟩
 rw [h1, Lib.extract_to_end, hb]

theorem two_len (s : ByteArray) (i : Nat) (p : List UInt8) (h : Lib.hasPrefix (s.data.toList.drop i) p = true) (hp : p.length = 2) : i + 2 ≤ s.size := by
 have h1 := (List.isPrefixOf_iff_prefix.1 h).length_le
 rw [hp, List.length_drop, Array.length_toList] at h1
 have : s.data.size = s.size := rfl
 omega
theorem one_idx (c : UInt8) (r : Int) (hr : Lib.indexByte oneSigns c = r) (w : World) :
    Calls Tryz.prog 108 #[.string ⟨#[40, 41, 61, 43, 45, 42, 47, 60, 62, 59, 58, 44, 124]⟩, .int .u8 (c.toNat : Nat)] w fun e w' => e = .returned (.int .i64 r) ∧ w = w' := by
 refine (Tryz.strings_IndexByte _ _ w).mono fun e w' ⟨h1, h2⟩ => ⟨?_, h2.symm⟩
 rw [h1, Lib.byte_back, ← hr]
 rfl
theorem idx_two : (∀ w, (Instr.index 170 (.agg #[.string ⟨#[60, 62]⟩, .string ⟨#[60, 61]⟩, .string ⟨#[62, 61]⟩, .string ⟨#[45, 62]⟩]) (.int .i64 0)).run Tryz.prog w = .ok (.string ⟨#[60, 62]⟩) w) ∧
    (∀ w, (Instr.index 170 (.agg #[.string ⟨#[60, 62]⟩, .string ⟨#[60, 61]⟩, .string ⟨#[62, 61]⟩, .string ⟨#[45, 62]⟩]) (.int .i64 1)).run Tryz.prog w = .ok (.string ⟨#[60, 61]⟩) w) ∧
    (∀ w, (Instr.index 170 (.agg #[.string ⟨#[60, 62]⟩, .string ⟨#[60, 61]⟩, .string ⟨#[62, 61]⟩, .string ⟨#[45, 62]⟩]) (.int .i64 2)).run Tryz.prog w = .ok (.string ⟨#[62, 61]⟩) w) ∧
    (∀ w, (Instr.index 170 (.agg #[.string ⟨#[60, 62]⟩, .string ⟨#[60, 61]⟩, .string ⟨#[62, 61]⟩, .string ⟨#[45, 62]⟩]) (.int .i64 3)).run Tryz.prog w = .ok (.string ⟨#[45, 62]⟩) w) :=
 ⟨fun _ => by kernel_rfl, fun _ => by kernel_rfl, fun _ => by kernel_rfl, fun _ => by kernel_rfl⟩

set_option maxHeartbeats 4000000 in
theorem sign_any (PUT : PutSaid) (B R : Nat) (s : ByteArray) (i line frm : Nat) (toks : List Tok) (out : Value) (w : World) (h : Rd B w R s i line frm toks out)
    (hs : s.size ≤ 65536) (hi : i < s.size) (hf : frm ≤ i) (hl : line ≤ 70000) (ht : toks.length ≤ i) :
    Calls Tryz.prog 90 #[.pointer (some ⟨R, 0, none⟩)] w (StepP B R s i line frm toks w (signNext (s.data.toList.drop i))) := by
 have hat := Lib.hid h.at_
 have H := Lib.hid h
 have g1 : (0 : Int) ≤ (i : Int) := Int.natCast_nonneg _
 have g2 : (i : Int) ≤ (s.size : Int) := by omega
 obtain ⟨i0, i1, i2, i3⟩ := idx_two
 clear h
 go_enter Tryz.func90, Tryz.ntmps90
 go_wp2_with fail
 go_outline
 go_loopw [6] (fun kv wr => ∃ (k : Nat), Drawn w wr ∧ kv = .int .i64 k ∧ k ≤ 4 ∧ Hid (((twoSigns.take k).any fun p => Lib.hasPrefix (s.data.toList.drop i) p) = false)) (fun kv _ => 4 - (intOf kv).toNat)
 case atStart => exact ⟨0, Drawn.refl _, rfl, by omega, Lib.hid rfl⟩
 case round =>
  obtain ⟨k, hD, rfl, hk, hg⟩ := hrel
  obtain ⟨d0, d1, _, _, _⟩ := (hD.rdAt hat.out).cells
  have hk' : k = 0 ∨ k = 1 ∨ k = 2 ∨ k = 3 ∨ k = 4 := by omega
  rcases hk' with rfl | rfl | rfl | rfl | rfl
  ·cases hp : Lib.hasPrefix (s.data.toList.drop i) [60, 62]
   ·have HP := Lib.hid hp
    have hg2 : Hid (((twoSigns.take 1).any fun p => Lib.hasPrefix (s.data.toList.drop i) p) = false) := Lib.hid (by have h1 := hg.out; simp only [twoSigns, List.take, List.any_cons, List.any_nil, Bool.or_false] at h1 ⊢; simp [hp, h1] <;> simp_all)
    clear hp hg
    go_wp2_with fail
    go_quiet ((go_at_call 85; exact quiet_any (prefix_is s ⟨#[60, 62]⟩ i false HP.out _) (by first | rfl | rw [World.drewN_drewN])))
    go_wp2_with fail
    exact ⟨⟨1, hD.drewN _, by go_num, by omega, hg2⟩, by simp [intOf]⟩
   ·have HP := Lib.hid hp
    have hnx : signNext (s.data.toList.drop i) = ⟨2, 2, 5, 0⟩ := by
     unfold signNext
     rw [if_pos (by simp [twoSigns, hp])]
    have hlen := Lib.hid (two_len s i _ hp (by decide))
    clear hp hg
    go_wp2_with fail
    go_quiet ((go_at_call 85; exact quiet_any (prefix_is s ⟨#[60, 62]⟩ i true HP.out _) (by first | rfl | rw [World.drewN_drewN])))
    go_wp2_with fail
    refine (PUT B R s i line frm 2 _ _ toks out _ ((hD.drewN _).rd H.out) hs hlen.out hf hl ht).mono ?_
    rintro e w1 ⟨rfl, out1, hr1, hb1⟩
    go_wp2_with fail
    go_ret
    exact stepP_tok hnx (((hD.drewN _).below B).trans hb1) ⟨out1, hr1⟩
  ·cases hp : Lib.hasPrefix (s.data.toList.drop i) [60, 61]
   ·have HP := Lib.hid hp
    have hg2 : Hid (((twoSigns.take 2).any fun p => Lib.hasPrefix (s.data.toList.drop i) p) = false) := Lib.hid (by have h1 := hg.out; simp only [twoSigns, List.take, List.any_cons, List.any_nil, Bool.or_false] at h1 ⊢; simp [hp, h1] <;> simp_all)
    clear hp hg
    go_wp2_with fail
    go_quiet ((go_at_call 85; exact quiet_any (prefix_is s ⟨#[60, 61]⟩ i false HP.out _) (by first | rfl | rw [World.drewN_drewN])))
    go_wp2_with fail
    exact ⟨⟨2, hD.drewN _, by go_num, by omega, hg2⟩, by simp [intOf]⟩
   ·have HP := Lib.hid hp
    have hnx : signNext (s.data.toList.drop i) = ⟨2, 2, 5, 0⟩ := by
     unfold signNext
     rw [if_pos (by simp [twoSigns, hp])]
    have hlen := Lib.hid (two_len s i _ hp (by decide))
    clear hp hg
    go_wp2_with fail
    go_quiet ((go_at_call 85; exact quiet_any (prefix_is s ⟨#[60, 61]⟩ i true HP.out _) (by first | rfl | rw [World.drewN_drewN])))
    go_wp2_with fail
    refine (PUT B R s i line frm 2 _ _ toks out _ ((hD.drewN _).rd H.out) hs hlen.out hf hl ht).mono ?_
    rintro e w1 ⟨rfl, out1, hr1, hb1⟩
    go_wp2_with fail
    go_ret
    exact stepP_tok hnx (((hD.drewN _).below B).trans hb1) ⟨out1, hr1⟩
  ·cases hp : Lib.hasPrefix (s.data.toList.drop i) [62, 61]
   ·have HP := Lib.hid hp
    have hg2 : Hid (((twoSigns.take 3).any fun p => Lib.hasPrefix (s.data.toList.drop i) p) = false) := Lib.hid (by have h1 := hg.out; simp only [twoSigns, List.take, List.any_cons, List.any_nil, Bool.or_false] at h1 ⊢; simp [hp, h1] <;> simp_all)
    clear hp hg
    go_wp2_with fail
    go_quiet ((go_at_call 85; exact quiet_any (prefix_is s ⟨#[62, 61]⟩ i false HP.out _) (by first | rfl | rw [World.drewN_drewN])))
    go_wp2_with fail
    exact ⟨⟨3, hD.drewN _, by go_num, by omega, hg2⟩, by simp [intOf]⟩
   ·have HP := Lib.hid hp
    have hnx : signNext (s.data.toList.drop i) = ⟨2, 2, 5, 0⟩ := by
     unfold signNext
     rw [if_pos (by simp [twoSigns, hp])]
    have hlen := Lib.hid (two_len s i _ hp (by decide))
    clear hp hg
    go_wp2_with fail
    go_quiet ((go_at_call 85; exact quiet_any (prefix_is s ⟨#[62, 61]⟩ i true HP.out _) (by first | rfl | rw [World.drewN_drewN])))
    go_wp2_with fail
    refine (PUT B R s i line frm 2 _ _ toks out _ ((hD.drewN _).rd H.out) hs hlen.out hf hl ht).mono ?_
    rintro e w1 ⟨rfl, out1, hr1, hb1⟩
    go_wp2_with fail
    go_ret
    exact stepP_tok hnx (((hD.drewN _).below B).trans hb1) ⟨out1, hr1⟩
  ·cases hp : Lib.hasPrefix (s.data.toList.drop i) [45, 62]
   ·have HP := Lib.hid hp
    have hg2 : Hid (((twoSigns.take 4).any fun p => Lib.hasPrefix (s.data.toList.drop i) p) = false) := Lib.hid (by have h1 := hg.out; simp only [twoSigns, List.take, List.any_cons, List.any_nil, Bool.or_false] at h1 ⊢; simp [hp, h1] <;> simp_all)
    clear hp hg
    go_wp2_with fail
    go_quiet ((go_at_call 85; exact quiet_any (prefix_is s ⟨#[45, 62]⟩ i false HP.out _) (by first | rfl | rw [World.drewN_drewN])))
    go_wp2_with fail
    exact ⟨⟨4, hD.drewN _, by go_num, by omega, hg2⟩, by simp [intOf]⟩
   ·have HP := Lib.hid hp
    have hnx : signNext (s.data.toList.drop i) = ⟨2, 2, 5, 0⟩ := by
     unfold signNext
     rw [if_pos (by simp [twoSigns, hp])]
    have hlen := Lib.hid (two_len s i _ hp (by decide))
    clear hp hg
    go_wp2_with fail
    go_quiet ((go_at_call 85; exact quiet_any (prefix_is s ⟨#[45, 62]⟩ i true HP.out _) (by first | rfl | rw [World.drewN_drewN])))
    go_wp2_with fail
    refine (PUT B R s i line frm 2 _ _ toks out _ ((hD.drewN _).rd H.out) hs hlen.out hf hl ht).mono ?_
    rintro e w1 ⟨rfl, out1, hr1, hb1⟩
    go_wp2_with fail
    go_ret
    exact stepP_tok hnx (((hD.drewN _).below B).trans hb1) ⟨out1, hr1⟩
  ·have hall : Hid ((twoSigns.any fun p => Lib.hasPrefix (s.data.toList.drop i) p) = false) := Lib.hid hg.out
   have g3 : (i : Int) < (s.size : Int) := by omega
   obtain ⟨r, hr⟩ : ∃ r, Lib.indexByte oneSigns s[i] = r := ⟨_, rfl⟩
   have HR := Lib.hid hr
   have HI := Lib.hid (indexByte_neg oneSigns s[i])
   have hdc := Lib.hid (drop_cons s i hi)
   clear hr hg
   by_cases hneg : r < 0
   ·have hnx : Hid (signNext (s.data.toList.drop i) = ⟨3, 0, 1, 0⟩) := Lib.hid (by
      unfold signNext
      rw [if_neg (by rw [hall.out]; simp), if_neg]
      rw [hdc.out]
      have : ¬ s[i] ∈ oneSigns := fun hm => by have := HI.out.2 hm; rw [HR.out] at this; omega
      simpa using this)
    go_wp2_with fail
    go_quiet ((go_at_call 108; exact quiet_any (one_idx s[i] r HR.out _) (by first | rfl | rw [World.drewN_drewN])))
    go_wp2_with fail
    go_ret
    exact stepP_bad hnx.out ((hD.drewN _).below B) ⟨out, (hD.drewN _).rd H.out⟩
   ·have hnx : Hid (signNext (s.data.toList.drop i) = ⟨2, 1, 5, 0⟩) := Lib.hid (by
      unfold signNext
      rw [if_neg (by rw [hall.out]; simp), if_pos]
      rw [hdc.out]
      have : s[i] ∈ oneSigns := HI.out.1 (by rw [HR.out]; omega)
      simpa using this)
    go_wp2_with fail
    go_quiet ((go_at_call 108; exact quiet_any (one_idx s[i] r HR.out _) (by first | rfl | rw [World.drewN_drewN])))
    go_wp2_with fail
    refine (PUT B R s i line frm 1 _ _ toks out _ ((hD.drewN _).rd H.out) hs (by omega) hf hl ht).mono ?_
    rintro e w1 ⟨rfl, out1, hr1, hb1⟩
    go_wp2_with fail
    go_ret
    exact stepP_tok hnx.out (((hD.drewN _).below B).trans hb1) ⟨out1, hr1⟩

end Go.Proofs.YtohgdopfjkjppaaGreatDoor
