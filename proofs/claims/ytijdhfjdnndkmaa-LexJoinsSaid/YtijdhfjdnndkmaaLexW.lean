/-
  The walk over lex.Words.
-/
import Derived.Test.YtijdhfjdnndkmaaLexM1
import Derived.WalkKit
import Derived.WalkSpells
import Derived.WalkLawsBesides
import Derived.Lib.Hide
import Derived.Deep.Light
import Derived.Deep.QuietTactic
import Derived.BigQuiet
import Derived.Deep.RegionHeld3
import Derived.Deep.AppendLies
set_option linter.unusedVariables false
set_option linter.unusedSimpArgs false
namespace Go.Proofs.Ytijdhfjdnndkmaa
open Go.RowKit

theorem put_said : PutSaid := fun B R s i line frm n kind v toks out w h hs hi hf hl ht => put_any B R s i line frm n kind v toks out w h hs hi hf hl ht

/-! ### the plain lexer -/
structure LexR where
  ok : Bool
  toks : List Tok
  kind : Int
  line : Int
  col : Int

def lexGo (s : ByteArray) : Nat → Nat → Nat → Nat → List Tok → LexR
  | 0, _, _, _, toks => ⟨true, toks, 0, 0, 0⟩
  | f + 1, i, line, frm, toks =>
    if s.size ≤ i then ⟨true, toks ++ [⟨0, ⟨#[]⟩, 0, line, (i : Int) - frm + 1⟩], 0, 0, 0⟩
    else if (lexNext (s.data.toList.drop i)).code = 0 then lexGo s f (i + (lexNext (s.data.toList.drop i)).k) line frm toks
    else if (lexNext (s.data.toList.drop i)).code = 1 then lexGo s f (i + 1) (line + 1) (i + 1) toks
    else if (lexNext (s.data.toList.drop i)).code = 2 then
      lexGo s f (i + (lexNext (s.data.toList.drop i)).k) line frm (toks ++ [⟨(lexNext (s.data.toList.drop i)).kind, s.extract i (i + (lexNext (s.data.toList.drop i)).k), (lexNext (s.data.toList.drop i)).n, line, (i : Int) - frm + 1⟩])
    else ⟨false, [], (lexNext (s.data.toList.drop i)).kind, line, (i : Int) - frm + 1⟩

def lexAll (s : ByteArray) : LexR := if 65536 < s.size then ⟨false, [], 3, 1, 1⟩ else lexGo s (s.size + 1) 0 1 0 []

theorem numGo_len : ∀ (l : List UInt8) (n v a b : Nat), numGo l n v = some (a, b) → n ≤ a ∧ a ≤ n + l.length
  | [], n, v, a, b, h => by simp [numGo] at h; omega
  | c :: r, n, v, a, b, h => by
    unfold numGo at h
    split at h
    · split at h
      · cases h
      · have := numGo_len r (n + 1) _ a b h
        simp; omega
    · simp at h; simp; omega
theorem takeWhile_len (p : UInt8 → Bool) (l : List UInt8) : (l.takeWhile p).length ≤ l.length := (List.takeWhile_prefix p).length_le

/-- A step goes on, and not past the end. -/
theorem next_fits (c : UInt8) (r : List UInt8) (h : (lexNext (c :: r)).code = 0 ∨ (lexNext (c :: r)).code = 2) : 1 ≤ (lexNext (c :: r)).k ∧ (lexNext (c :: r)).k ≤ r.length + 1 := by
  unfold lexNext at *
  have hh : headN (c :: r) = c.toNat := rfl
  simp only [hh] at *
  by_cases h1 : c.toNat = 10
  · rw [if_pos h1] at h; simp at h
  · rw [if_neg h1] at *
    by_cases h2 : c.toNat = 32 ∨ c.toNat = 9
    · rw [if_pos h2]; simp
    · rw [if_neg h2] at *
      by_cases h3 : Lib.hasPrefix (c :: r) [45, 45] = true
      · rw [if_pos h3]
        have hc : c ≠ 10 := fun e => h1 (by rw [e]; rfl)
        constructor
        · rw [List.takeWhile_cons, if_pos (by simpa using hc)]; simp
        · exact takeWhile_len _ _
      · rw [if_neg h3] at *
        by_cases h4 : isDigit c.toNat = true
        · rw [if_pos h4] at *
          unfold numNext at *
          cases hg : numGo (c :: r) 0 0 with
          | none => rw [hg] at h; simp at h
          | some p =>
            obtain ⟨n, v⟩ := p
            have hl := numGo_len _ _ _ _ _ hg
            have hn : 1 ≤ n := by
              unfold numGo at hg
              rw [if_pos h4] at hg
              split at hg
              · cases hg
              · exact (numGo_len _ _ _ _ _ hg).1
            rw [hg] at h
            simp only at h ⊢
            split at h
            · simp at h
            · rename_i hx; rw [if_neg hx]; simp at hl; exact ⟨hn, by simpa using hl⟩
        · rw [if_neg h4] at *
          by_cases h5 : isLetter c.toNat = true
          · rw [if_pos h5] at *
            have hw : 1 ≤ wordLen (c :: r) := by rw [wordLen_cons c r (by rw [h5]; rfl)]; omega
            have hw2 : wordLen (c :: r) ≤ r.length + 1 := takeWhile_len _ _
            unfold wordNext at *
            split at h
            · simp at h
            · rename_i q1
              rw [if_neg q1]
              split at h
              · rename_i q2; rw [if_pos q2]; exact ⟨hw, hw2⟩
              · rename_i q2; rw [if_neg q2]
                split at h
                · rename_i q3; rw [if_pos q3]; exact ⟨hw, hw2⟩
                · rename_i q3; rw [if_neg q3]
                  split at h
                  · simp at h
                  · rename_i q4; rw [if_neg q4]; exact ⟨hw, hw2⟩
          · rw [if_neg h5] at *
            unfold signNext at *
            split at h
            · rename_i q1
              rw [if_pos q1]
              refine ⟨by simp, ?_⟩
              obtain ⟨p, hp, hq⟩ := List.any_eq_true.1 q1
              have hl := (List.isPrefixOf_iff_prefix.1 hq).length_le
              have h2 : p.length = 2 := by
                simp only [twoSigns, List.mem_cons, List.not_mem_nil, or_false] at hp
                rcases hp with rfl | rfl | rfl | rfl <;> rfl
              rw [h2] at hl; simpa using hl
            · rename_i q1
              rw [if_neg q1]
              split at h
              · rename_i q2; rw [if_pos q2]; simp
              · simp at h
theorem next_code (l : List UInt8) : (lexNext l).code ≤ 3 := by
  unfold lexNext
  split
  · simp
  · split
    · simp
    · split
      · simp
      · split
        · exact num_code l
        · split
          · exact word_code l
          · exact sign_code l
end Go.Proofs.Ytijdhfjdnndkmaa
