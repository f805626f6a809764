/-
  Plain laws of the lexer: what it makes of a text, wherever its words stand.
-/
import Derived.Test.YtijdhfjdnndkmaaLexW
set_option linter.unusedVariables false
set_option linter.unusedSimpArgs false
namespace Go.Proofs.Ytijdhfjdnndkmaa
open Go.RowKit

/-- A word but for its place. -/
def Tk : Type := Int × List UInt8 × Int
def Tok.strip (t : Tok) : Int × List UInt8 × Int := (t.kind, t.text.data.toList, t.n)

def lexP : Nat → List UInt8 → Option (List (Int × List UInt8 × Int))
  | 0, _ => none
  | f + 1, l =>
    if l = [] then some []
    else if (lexNext l).code = 0 then lexP f (l.drop (lexNext l).k)
    else if (lexNext l).code = 1 then lexP f (l.drop 1)
    else if (lexNext l).code = 2 then (lexP f (l.drop (lexNext l).k)).map fun ts => ((lexNext l).kind, l.take (lexNext l).k, (lexNext l).n) :: ts
    else none
def lexL (l : List UInt8) : Option (List (Int × List UInt8 × Int)) := lexP (l.length + 1) l

theorem fits (l : List UInt8) (h0 : l ≠ []) (h : (lexNext l).code = 0 ∨ (lexNext l).code = 2) : 1 ≤ (lexNext l).k ∧ (lexNext l).k ≤ l.length := by
  cases l with
  | nil => exact absurd rfl h0
  | cons c r => exact next_fits c r h

theorem lexP_fuel : ∀ (f : Nat) (l : List UInt8), l.length + 1 ≤ f → lexP f l = lexL l := by
  intro f
  induction f using Nat.strongRecOn with
  | _ f ih =>
    intro l hl
    cases f with
    | zero => omega
    | succ f =>
      unfold lexL
      by_cases h0 : l = []
      · subst h0; simp [lexP]
      · have hlen : 0 < l.length := List.length_pos_iff.2 h0
        rw [lexP, lexP, if_neg h0, if_neg h0]
        have hdrop : ∀ k, 1 ≤ k → k ≤ l.length → lexP f (l.drop k) = lexP l.length (l.drop k) := by
          intro k h1 h2
          have e : (l.drop k).length = l.length - k := List.length_drop
          rw [ih f (by omega) _ (by omega)]
          rcases Nat.lt_or_ge l.length (f + 1) with hx | hx
          · rw [ih l.length (by omega) _ (by omega)]
          · omega
        by_cases c0 : (lexNext l).code = 0
        · have := fits l h0 (Or.inl c0)
          rw [if_pos c0, if_pos c0, hdrop _ this.1 this.2]
        · rw [if_neg c0, if_neg c0]
          by_cases c1 : (lexNext l).code = 1
          · rw [if_pos c1, if_pos c1, hdrop 1 (by omega) (by omega)]
          · rw [if_neg c1, if_neg c1]
            by_cases c2 : (lexNext l).code = 2
            · have := fits l h0 (Or.inr c2)
              rw [if_pos c2, if_pos c2, hdrop _ this.1 this.2]
            · rw [if_neg c2, if_neg c2]

theorem lexL_nil : lexL [] = some [] := rfl
theorem lexL_skip (l : List UInt8) (h0 : l ≠ []) (h : (lexNext l).code = 0) : lexL l = lexL (l.drop (lexNext l).k) := by
  have hf := fits l h0 (Or.inl h)
  conv => lhs; unfold lexL
  rw [lexP, if_neg h0, if_pos h, lexP_fuel]
  rw [List.length_drop]; omega
theorem lexL_line (l : List UInt8) (h0 : l ≠ []) (h : (lexNext l).code = 1) : lexL l = lexL (l.drop 1) := by
  have hlen : 0 < l.length := List.length_pos_iff.2 h0
  conv => lhs; unfold lexL
  rw [lexP, if_neg h0, if_neg (by omega), if_pos h, lexP_fuel]
  rw [List.length_drop]; omega
theorem lexL_word (l : List UInt8) (h0 : l ≠ []) (h : (lexNext l).code = 2) : lexL l = (lexL (l.drop (lexNext l).k)).map fun ts => ((lexNext l).kind, l.take (lexNext l).k, (lexNext l).n) :: ts := by
  have hf := fits l h0 (Or.inr h)
  conv => lhs; unfold lexL
  rw [lexP, if_neg h0, if_neg (by omega), if_neg (by omega), if_pos h, lexP_fuel]
  rw [List.length_drop]; omega
theorem lexL_bad (l : List UInt8) (h0 : l ≠ []) (h : (lexNext l).code = 3) : lexL l = none := by
  unfold lexL
  rw [lexP, if_neg h0, if_neg (by omega), if_neg (by omega), if_neg (by omega)]

/-- What lexGo makes of a text, but for the places. -/
theorem lexGo_strip (s : ByteArray) : ∀ (f i line frm : Nat) (toks : List Tok), s.size + 1 ≤ f + i → i ≤ s.size →
    (lexL (s.data.toList.drop i) = none → (lexGo s f i line frm toks).ok = false) ∧
    (∀ ts, lexL (s.data.toList.drop i) = some ts → (lexGo s f i line frm toks).ok = true ∧ (lexGo s f i line frm toks).toks.map Tok.strip = toks.map Tok.strip ++ ts ++ [(0, [], 0)]) := by
  intro f
  induction f with
  | zero => intro i line frm toks h1 h2; omega
  | succ f ih =>
    intro i line frm toks h1 h2
    have hsz : s.data.toList.length = s.size := by rw [Array.length_toList]; rfl
    rw [lexGo]
    by_cases he : s.size ≤ i
    · rw [if_pos he, drop_end s i he, lexL_nil]
      refine ⟨fun h => (by cases h), fun ts h => ?_⟩
      injection h with h
      subst h
      simp [Tok.strip]
    · rw [if_neg he]
      have h0 : s.data.toList.drop i ≠ [] := by
        intro h
        have := congrArg List.length h
        rw [List.length_drop] at this
        simp at this; omega
      have hc := next_code (s.data.toList.drop i)
      by_cases c0 : (lexNext (s.data.toList.drop i)).code = 0
      · have hf := fits _ h0 (Or.inl c0)
        rw [List.length_drop, hsz] at hf
        rw [if_pos c0, lexL_skip _ h0 c0, List.drop_drop]
        exact ih _ _ _ _ (by omega) (by omega)
      · rw [if_neg c0]
        by_cases c1 : (lexNext (s.data.toList.drop i)).code = 1
        · rw [if_pos c1, lexL_line _ h0 c1, List.drop_drop]
          exact ih _ _ _ _ (by omega) (by omega)
        · rw [if_neg c1]
          by_cases c2 : (lexNext (s.data.toList.drop i)).code = 2
          · have hf := fits _ h0 (Or.inr c2)
            rw [List.length_drop, hsz] at hf
            rw [if_pos c2, lexL_word _ h0 c2, List.drop_drop]
            have := ih (i + (lexNext (s.data.toList.drop i)).k) line frm (toks ++ [⟨(lexNext (s.data.toList.drop i)).kind, s.extract i (i + (lexNext (s.data.toList.drop i)).k), (lexNext (s.data.toList.drop i)).n, line, (i : Int) - frm + 1⟩]) (by omega) (by omega)
            refine ⟨fun h => this.1 (by simpa using h), fun ts h => ?_⟩
            rw [Option.map_eq_some_iff] at h
            obtain ⟨ts', ht, rfl⟩ := h
            refine ⟨(this.2 ts' ht).1, ?_⟩
            rw [(this.2 ts' ht).2]
            simp [Tok.strip, piece_eq]
          · rw [if_neg c2, lexL_bad _ h0 (by omega)]
            exact ⟨fun _ => rfl, fun ts h => by cases h⟩

theorem lexAll_strip (s : ByteArray) (h : s.size ≤ 65536) :
    (lexL s.data.toList = none → (lexAll s).ok = false) ∧
    (∀ ts, lexL s.data.toList = some ts → (lexAll s).ok = true ∧ (lexAll s).toks.map Tok.strip = ts ++ [(0, [], 0)]) := by
  unfold lexAll
  rw [if_neg (by omega)]
  have := lexGo_strip s (s.size + 1) 0 1 0 [] (by omega) (by omega)
  simpa using this
end Go.Proofs.Ytijdhfjdnndkmaa
