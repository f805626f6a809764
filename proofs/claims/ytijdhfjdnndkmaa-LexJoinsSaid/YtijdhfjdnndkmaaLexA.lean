/-
  The walks over package lex: its small functions.
-/
import Derived.Test.YtijdhfjdnndkmaaRows
import Derived.Test.YtijdhfjdnndkmaaLexPlain
import Derived.Test.YtijdhfjdnndkmaaShelf
import Derived.WalkKit
import Derived.WalkSpells
import Derived.WalkLawsBesides
import Derived.Lib.Hide
import Derived.Deep.Light
import Derived.Deep.QuietTactic
import Derived.BigQuiet
import Derived.Deep.RegionHeld3
import Derived.Deep.AppendLies
import Derived.Deep.RegionLaw
set_option linter.unusedVariables false
set_option linter.unusedSimpArgs false
namespace Go.Proofs.Ytijdhfjdnndkmaa
open Go.RowKit

theorem retBool {a b : Bool} (h : a = b) : Ending.returned (.bool a) = .returned (.bool b) := by rw [h]

set_option maxHeartbeats 400000 in
theorem digit_any (c : Nat) (w : World) :
    Calls Try.prog 23 #[.int .u8 c] w fun e w' => e = .returned (.bool (isDigit c)) ∧ w = w' := by
  go_enter Try.func23, Try.ntmps23
  go_wp2
  all_goals
    go_ret
    refine ⟨retBool ?_, rfl⟩
    go_light
    unfold isDigit
    rw [Bool.eq_iff_iff]
    simp
    omega

set_option maxHeartbeats 400000 in
theorem letter_any (c : Nat) (w : World) :
    Calls Try.prog 25 #[.int .u8 c] w fun e w' => e = .returned (.bool (isLetter c)) ∧ w = w' := by
  go_enter Try.func25, Try.ntmps25
  go_wp2
  all_goals
    go_ret
    refine ⟨retBool ?_, rfl⟩
    go_light
    unfold isLetter
    rw [Bool.eq_iff_iff]
    simp
    omega

theorem cont_keys (k s : ByteArray) (hk : k.data.toList = keysL) (m : Int) (w : World) (hm : w.cell? ⟨0, 0, none⟩ = some (.int .i64 m)) :
    Calls Try.prog 14 #[.string k, .string (⟨#[32]⟩ ++ s ++ ⟨#[32]⟩)] w fun e w' => e = .returned (.bool (hasKey s.data.toList)) ∧ w = w' := by
  have hl : k.size < 4294967281 := by
    have h1 : k.size = k.data.toList.length := by rw [Array.length_toList]; rfl
    rw [h1, hk, keys_len]; decide
  refine (Try.strings_Contains k _ m w hl hm).mono fun e w' ⟨h1, h2⟩ => ⟨?_, h2.symm⟩
  have h3 : ((⟨#[32]⟩ ++ s ++ ⟨#[32]⟩ : ByteArray)).data.toList = 32 :: (s.data.toList ++ [32]) := by simp [ByteArray.data_append]
  rw [h1, hk, h3]
  rfl

theorem cont_blank (s : ByteArray) (w : World) :
    Calls Try.prog 14 #[.string s, .string ⟨#[32]⟩] w fun e w' => e = .returned (.bool (hasBlank s.data.toList)) ∧ w = w' :=
  (Try.strings_Contains_one s 32 w).mono fun e w' ⟨h1, h2⟩ => ⟨h1, h2.symm⟩

set_option maxRecDepth 100000 in
set_option maxHeartbeats 1000000 in
theorem isKey_any (s : ByteArray) (m : Int) (w : World) (hs : s.size ≤ 281474976710656) (hm : w.cell? ⟨0, 0, none⟩ = some (.int .i64 m)) :
    Calls Try.prog 8 #[.string s] w fun e w' => e = .returned (.bool (isKeyB s.data.toList)) ∧ w = w' := by
  have e0 := Lib.hid (isKeyGo_eq s.data.toList)
  cases hE : s.toList.isEmpty
  · have HE := Lib.hid hE
    go_enter Try.func8, Try.ntmps8
    go_wp2_with fail
    refine (cont_keys _ _ ?_ m _ hm).mono ?_
    · kernel_rfl
    rintro e w' ⟨rfl, rfl⟩
    cases hk : hasKey s.data.toList
    · go_wp2_with fail
      go_ret
      refine ⟨retBool ?_, rfl⟩
      rw [← e0.out]; unfold isKeyGo; rw [hk]; simp
    · go_wp2_with fail
      refine (cont_blank _ _).mono ?_
      rintro e w' ⟨rfl, rfl⟩
      go_wp2_with fail
      go_ret
      refine ⟨retBool ?_, rfl⟩
      have h2 := HE.out
      rw [ByteArray.toList_eq] at h2
      rw [← e0.out]; unfold isKeyGo; rw [hk, h2]; simp
  · have h1 : s = ⟨#[]⟩ := by
      rw [ByteArray.toList_eq] at hE
      obtain ⟨⟨l⟩⟩ := s
      simp at hE
      subst hE; rfl
    subst h1
    go_enter Try.func8, Try.ntmps8
    go_wp2
    go_ret
    exact ⟨retBool (by decide), rfl⟩

def RdAt (w : World) (R : Nat) (s : ByteArray) (i line frm : Nat) (out : Value) : Prop :=
  w.heap[R]? = some (.cells #[.string s, .int .i64 i, .int .i64 line, .int .i64 frm, out] 46 (0, 0))

theorem RdAt.lt {w : World} {R : Nat} {s : ByteArray} {i line frm : Nat} {out : Value} (h : RdAt w R s i line frm out) : R < w.heap.size := by
  rcases Nat.lt_or_ge R w.heap.size with hlt | hge
  · exact hlt
  · unfold RdAt at h; rw [Array.getElem?_eq_none hge] at h; cases h

theorem RdAt.cells {w : World} {R : Nat} {s : ByteArray} {i line frm : Nat} {out : Value} (h : RdAt w R s i line frm out) :
    w.cell? ⟨R, 0, none⟩ = some (.string s) ∧ w.cell? ⟨R, 1, none⟩ = some (.int .i64 i) ∧ w.cell? ⟨R, 2, none⟩ = some (.int .i64 line) ∧ w.cell? ⟨R, 3, none⟩ = some (.int .i64 frm) ∧ w.cell? ⟨R, 4, none⟩ = some out := by
  unfold RdAt at h
  refine ⟨?_, ?_, ?_, ?_, ?_⟩ <;> simp [World.cell?, h]
theorem RdAt.free {w : World} {R : Nat} {s : ByteArray} {i line frm : Nat} {out : Value} (h : RdAt w R s i line frm out) (k : Nat) : w.frozen? ⟨R, k, none⟩ = false := by
  unfold RdAt at h
  simp [World.frozen?, h]

set_option maxHeartbeats 1000000 in
theorem pos_any (R : Nat) (s : ByteArray) (i line frm : Nat) (out : Value) (w : World) (h : RdAt w R s i line frm out) (hi : i ≤ 65536) (hf : frm ≤ i) :
    Calls Try.prog 17 #[.pointer (some ⟨R, 0, none⟩)] w fun e w' => e = .returned (.agg #[.int .i64 line, .int .i64 ((i : Int) - frm + 1)]) ∧ Below w.heap.size w w' := by
  have c1 : w.cell? ⟨R, 1, none⟩ = some (.int .i64 i) := by unfold RdAt at h; simp [World.cell?, h]
  have c2 : w.cell? ⟨R, 2, none⟩ = some (.int .i64 line) := by unfold RdAt at h; simp [World.cell?, h]
  have c3 : w.cell? ⟨R, 3, none⟩ = some (.int .i64 frm) := by unfold RdAt at h; simp [World.cell?, h]
  have hR : R < w.heap.size := RdAt.lt h
  clear h
  go_enter Try.func17, Try.ntmps17
  go_wp2
  go_region
  all_goals
    go_wp2
    exact bodyPost_ret (v := .agg #[.int .i64 line, .int .i64 ((i : Int) - frm + 1)]) (by simp [results, Try.results17, go_sem]) rfl ⟨rfl, ((Below.refl _ _).alloc (Nat.le_refl _) _).drew⟩

theorem own_below {W W' : World} {B e size n : Nat} {v : Value} {xs : List Value} (h : W.ownsRow B e size v n xs) (hb : Below W.heap.size W W') : W'.ownsRow B e size v n xs := by
  refine ⟨h.1, h.2.imp id ?_⟩
  rintro ⟨g, cap, cur, hv, hB, hh, hr⟩
  have hg : g < W.heap.size := by
    rcases Nat.lt_or_ge g W.heap.size with hlt | hge
    · exact hlt
    · rw [Array.getElem?_eq_none hge] at hh; cases hh
  exact ⟨g, cap, cur, hv, hB, (hb.block g hg).trans hh, hr⟩

structure Tok where
  kind : Int
  text : ByteArray
  n : Int
  line : Int
  col : Int
def Tok.cells (t : Tok) : List Value := [.int .u8 t.kind, .string t.text, .int .i32 t.n, .int .i64 t.line, .int .i64 t.col]
def tokCells (l : List Tok) : List Value := l.flatMap Tok.cells
theorem info_tok : (Try.prog.info? 38).map (fun i => (i.zero, i.size, i.bytes)) = some (some (.agg #[.int .u8 0, .string ⟨#[]⟩, .int .i32 0, .int .i64 0, .int .i64 0]), 5, 48) := by kernel_rfl

/-- The reader at block R, what it has put out in blocks from B on. -/
structure Rd (B : Nat) (w : World) (R : Nat) (s : ByteArray) (i line frm : Nat) (toks : List Tok) (out : Value) : Prop where
  at_ : RdAt w R s i line frm out
  own : w.ownsRow B 38 5 out toks.length (tokCells toks)
  le : B ≤ R

theorem ne_of_tok {B : Nat} {w : World} {R : Nat} {s : ByteArray} {i line frm : Nat} {toks : List Tok} {out : Value} (h : Rd B w R s i line frm toks out) : some R ≠ out.ownBlock := by
  obtain ⟨h1, h2, _⟩ := h
  rcases h2.2 with ⟨rfl, _⟩ | ⟨g, cap, cur, rfl, _, hh, _⟩
  · simp [Value.ownBlock]
  · intro he
    have : R = g := by simpa [Value.ownBlock] using he
    subst this
    unfold RdAt at h1
    rw [h1] at hh
    injection hh with hh
    injection hh with _ ht
    exact absurd ht (by decide)

end Go.Proofs.Ytijdhfjdnndkmaa
