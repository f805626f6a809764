/-
  Texts that belong together: LexLaw, LexLaw2, LxP, LxN, LexX.
-/
import Derived.Test.YtijdhfjdnndkmaaDoorLexW
import Derived.WalkKit
import Derived.WalkSpells
import Derived.WalkLawsBesides
import Derived.Lib.Hide
import Derived.Deep.Light
import Derived.Deep.QuietTactic
import Derived.BigQuiet
import Derived.Deep.RegionHeld3
import Derived.Deep.AppendLies
/-
  Plain laws of the lexer: what it makes of a text, wherever its words stand.
-/
set_option linter.unusedVariables false
set_option linter.unusedSimpArgs false
namespace Go.Proofs.YtijdhfjdnndkmaaDoor
open Go.RowKit

/-- A word but for its place. -/
def Tk : Type := Int × List UInt8 × Int
def Tok.strip (t : Tok) : Int × List UInt8 × Int := (t.kind, t.text.data.toList, t.n)

def lexP : Nat → List UInt8 → Option (List (Int × List UInt8 × Int))
  | 0, _ => none
  | f + 1, l =>
    if l = [] then some []
    else if (lexNext l).code = 0 then lexP f (l.drop (lexNext l).k)
    else if (lexNext l).code = 1 then lexP f (l.drop 1)
    else if (lexNext l).code = 2 then (lexP f (l.drop (lexNext l).k)).map fun ts => ((lexNext l).kind, l.take (lexNext l).k, (lexNext l).n) :: ts
    else none
def lexL (l : List UInt8) : Option (List (Int × List UInt8 × Int)) := lexP (l.length + 1) l

theorem fits (l : List UInt8) (h0 : l ≠ []) (h : (lexNext l).code = 0 ∨ (lexNext l).code = 2) : 1 ≤ (lexNext l).k ∧ (lexNext l).k ≤ l.length := by
  cases l with
  | nil => exact absurd rfl h0
  | cons c r => exact next_fits c r h

theorem lexP_fuel : ∀ (f : Nat) (l : List UInt8), l.length + 1 ≤ f → lexP f l = lexL l := by
  intro f
  induction f using Nat.strongRecOn with
  | _ f ih =>
    intro l hl
    cases f with
    | zero => omega
    | succ f =>
      unfold lexL
      by_cases h0 : l = []
      · subst h0; simp [lexP]
      · have hlen : 0 < l.length := List.length_pos_iff.2 h0
        rw [lexP, lexP, if_neg h0, if_neg h0]
        have hdrop : ∀ k, 1 ≤ k → k ≤ l.length → lexP f (l.drop k) = lexP l.length (l.drop k) := by
          intro k h1 h2
          have e : (l.drop k).length = l.length - k := List.length_drop
          rw [ih f (by omega) _ (by omega)]
          rcases Nat.lt_or_ge l.length (f + 1) with hx | hx
          · rw [ih l.length (by omega) _ (by omega)]
          · omega
        by_cases c0 : (lexNext l).code = 0
        · have := fits l h0 (Or.inl c0)
          rw [if_pos c0, if_pos c0, hdrop _ this.1 this.2]
        · rw [if_neg c0, if_neg c0]
          by_cases c1 : (lexNext l).code = 1
          · rw [if_pos c1, if_pos c1, hdrop 1 (by omega) (by omega)]
          · rw [if_neg c1, if_neg c1]
            by_cases c2 : (lexNext l).code = 2
            · have := fits l h0 (Or.inr c2)
              rw [if_pos c2, if_pos c2, hdrop _ this.1 this.2]
            · rw [if_neg c2, if_neg c2]

theorem lexL_nil : lexL [] = some [] := rfl
theorem lexL_skip (l : List UInt8) (h0 : l ≠ []) (h : (lexNext l).code = 0) : lexL l = lexL (l.drop (lexNext l).k) := by
  have hf := fits l h0 (Or.inl h)
  conv => lhs; unfold lexL
  rw [lexP, if_neg h0, if_pos h, lexP_fuel]
  rw [List.length_drop]; omega
theorem lexL_line (l : List UInt8) (h0 : l ≠ []) (h : (lexNext l).code = 1) : lexL l = lexL (l.drop 1) := by
  have hlen : 0 < l.length := List.length_pos_iff.2 h0
  conv => lhs; unfold lexL
  rw [lexP, if_neg h0, if_neg (by omega), if_pos h, lexP_fuel]
  rw [List.length_drop]; omega
theorem lexL_word (l : List UInt8) (h0 : l ≠ []) (h : (lexNext l).code = 2) : lexL l = (lexL (l.drop (lexNext l).k)).map fun ts => ((lexNext l).kind, l.take (lexNext l).k, (lexNext l).n) :: ts := by
  have hf := fits l h0 (Or.inr h)
  conv => lhs; unfold lexL
  rw [lexP, if_neg h0, if_neg (by omega), if_neg (by omega), if_pos h, lexP_fuel]
  rw [List.length_drop]; omega
theorem lexL_bad (l : List UInt8) (h0 : l ≠ []) (h : (lexNext l).code = 3) : lexL l = none := by
  unfold lexL
  rw [lexP, if_neg h0, if_neg (by omega), if_neg (by omega), if_neg (by omega)]

/-- What lexGo makes of a text, but for the places. -/
theorem lexGo_strip (s : ByteArray) : ∀ (f i line frm : Nat) (toks : List Tok), s.size + 1 ≤ f + i → i ≤ s.size →
    (lexL (s.data.toList.drop i) = none → (lexGo s f i line frm toks).ok = false) ∧
    (∀ ts, lexL (s.data.toList.drop i) = some ts → (lexGo s f i line frm toks).ok = true ∧ (lexGo s f i line frm toks).toks.map Tok.strip = toks.map Tok.strip ++ ts ++ [(0, [], 0)]) := by
  intro f
  induction f with
  | zero => intro i line frm toks h1 h2; omega
  | succ f ih =>
    intro i line frm toks h1 h2
    have hsz : s.data.toList.length = s.size := by rw [Array.length_toList]; rfl
    rw [lexGo]
    by_cases he : s.size ≤ i
    · rw [if_pos he, drop_end s i he, lexL_nil]
      refine ⟨fun h => (by cases h), fun ts h => ?_⟩
      injection h with h
      subst h
      simp [Tok.strip]
    · rw [if_neg he]
      have h0 : s.data.toList.drop i ≠ [] := by
        intro h
        have := congrArg List.length h
        rw [List.length_drop] at this
        simp at this; omega
      have hc := next_code (s.data.toList.drop i)
      by_cases c0 : (lexNext (s.data.toList.drop i)).code = 0
      · have hf := fits _ h0 (Or.inl c0)
        rw [List.length_drop, hsz] at hf
        rw [if_pos c0, lexL_skip _ h0 c0, List.drop_drop]
        exact ih _ _ _ _ (by omega) (by omega)
      · rw [if_neg c0]
        by_cases c1 : (lexNext (s.data.toList.drop i)).code = 1
        · rw [if_pos c1, lexL_line _ h0 c1, List.drop_drop]
          exact ih _ _ _ _ (by omega) (by omega)
        · rw [if_neg c1]
          by_cases c2 : (lexNext (s.data.toList.drop i)).code = 2
          · have hf := fits _ h0 (Or.inr c2)
            rw [List.length_drop, hsz] at hf
            rw [if_pos c2, lexL_word _ h0 c2, List.drop_drop]
            have := ih (i + (lexNext (s.data.toList.drop i)).k) line frm (toks ++ [⟨(lexNext (s.data.toList.drop i)).kind, s.extract i (i + (lexNext (s.data.toList.drop i)).k), (lexNext (s.data.toList.drop i)).n, line, (i : Int) - frm + 1⟩]) (by omega) (by omega)
            refine ⟨fun h => this.1 (by simpa using h), fun ts h => ?_⟩
            rw [Option.map_eq_some_iff] at h
            obtain ⟨ts', ht, rfl⟩ := h
            refine ⟨(this.2 ts' ht).1, ?_⟩
            rw [(this.2 ts' ht).2]
            simp [Tok.strip, piece_eq]
          · rw [if_neg c2, lexL_bad _ h0 (by omega)]
            exact ⟨fun _ => rfl, fun ts h => by cases h⟩

theorem lexAll_strip (s : ByteArray) (h : s.size ≤ 65536) :
    (lexL s.data.toList = none → (lexAll s).ok = false) ∧
    (∀ ts, lexL s.data.toList = some ts → (lexAll s).ok = true ∧ (lexAll s).toks.map Tok.strip = ts ++ [(0, [], 0)]) := by
  unfold lexAll
  rw [if_neg (by omega)]
  have := lexGo_strip s (s.size + 1) 0 1 0 [] (by omega) (by omega)
  simpa using this
end Go.Proofs.YtijdhfjdnndkmaaDoor

/-
  Words that stand for themselves: what the laws' own function word makes is one word wherever a blank or the end follows.
-/
set_option linter.unusedVariables false
set_option linter.unusedSimpArgs false
namespace Go.Proofs.YtijdhfjdnndkmaaDoor
open Go.RowKit

/-- One word, ahead of a blank or the end. -/
def WordOK (W : List UInt8) : Prop :=
  W ≠ [] ∧ W.length ≤ 32 ∧ ∃ kind n : Int, ∀ r, (r = [] ∨ ∃ r', r = 32 :: r') → lexNext (W ++ r) = ⟨2, W.length, kind, n⟩

theorem takeWhile_all (p : UInt8 → Bool) : ∀ (W r : List UInt8), (∀ c ∈ W, p c = true) → (r = [] ∨ ∃ c r', r = c :: r' ∧ p c = false) → (W ++ r).takeWhile p = W
  | [], r, _, h => by
    rcases h with rfl | ⟨c, r', rfl, hc⟩
    · rfl
    · simp [hc]
  | c :: W, r, hW, h => by
    rw [List.cons_append, List.takeWhile_cons, if_pos (hW c (by simp)), takeWhile_all p W r (fun x hx => hW x (by simp [hx])) h]

theorem not_dash (c : UInt8) (r : List UInt8) (h : c ≠ 45) : ¬ Lib.hasPrefix (c :: r) [45, 45] = true := by
  unfold Lib.hasPrefix
  simp only [List.isPrefixOf_cons_cons, Bool.and_eq_true, beq_iff_eq]
  rintro ⟨h1, _⟩
  exact h h1.symm

theorem ok_letters (c : UInt8) (W : List UInt8) (h0 : isLetter c.toNat = true) (h1 : c.toNat ≠ 95) (hW : ∀ x ∈ W, (isLetter x.toNat || isDigit x.toNat) = true) (hl : W.length ≤ 31) : WordOK (c :: W) := by
  refine ⟨by simp, by simp; omega, if isKeyB (c :: W) = true then 4 else if 65 ≤ c.toNat ∧ c.toNat ≤ 90 then 3 else 2, 0, fun r hr => ?_⟩
  have hlet := h0
  unfold isLetter at h0
  simp only [Bool.or_eq_true, Bool.and_eq_true, decide_eq_true_eq, beq_iff_eq] at h0
  have hwl : wordLen ((c :: W) ++ r) = (c :: W).length := by
    unfold wordLen
    rw [takeWhile_all]
    · intro x hx
      rcases List.mem_cons.1 hx with rfl | hx
      · rw [hlet]; rfl
      · exact hW x hx
    · rcases hr with rfl | ⟨r', rfl⟩
      · exact .inl rfl
      · exact .inr ⟨32, r', rfl, by decide⟩
  have hd : isDigit c.toNat = false := by
    unfold isDigit; simp; omega
  have hh : headN ((c :: W) ++ r) = c.toNat := rfl
  have hdash : ¬ Lib.hasPrefix ((c :: W) ++ r) [45, 45] = true := not_dash c _ (by rintro rfl; revert h0; decide)
  unfold lexNext
  rw [hh, if_neg (by omega), if_neg (by omega), if_neg hdash, if_neg (by rw [hd]; simp), if_pos hlet]
  unfold wordNext
  rw [hwl, hh, List.take_left, if_neg (by simp; omega)]
  by_cases hk : isKeyB (c :: W) = true
  · rw [if_pos hk, if_pos hk]
  · rw [if_neg hk, if_neg hk]
    by_cases hg : 65 ≤ c.toNat ∧ c.toNat ≤ 90
    · rw [if_pos hg, if_pos hg]
    · rw [if_neg hg, if_neg hg, if_neg h1]

def valF : List UInt8 → Nat → Nat
  | [], v => v
  | c :: r, v => valF r (10 * v + (c.toNat - 48))
theorem valF_mono : ∀ (W : List UInt8) (v : Nat), v ≤ valF W v
  | [], v => Nat.le_refl _
  | c :: r, v => Nat.le_trans (by omega) (valF_mono r _)
theorem valF_lt : ∀ (W : List UInt8) (v : Nat), (∀ c ∈ W, isDigit c.toNat = true) → valF W v < (v + 1) * 10 ^ W.length
  | [], v, _ => by simp [valF]
  | c :: r, v, h => by
    have hc : c.toNat ≤ 57 := by have := h c (by simp); simp [isDigit] at this; exact this.2
    have := valF_lt r (10 * v + (c.toNat - 48)) (fun x hx => h x (by simp [hx]))
    refine Nat.lt_of_lt_of_le this ?_
    rw [List.length_cons, Nat.pow_succ, Nat.mul_comm (10 ^ r.length) 10, ← Nat.mul_assoc]
    exact Nat.mul_le_mul_right _ (by omega)
theorem numGo_digits : ∀ (W r : List UInt8) (n v : Nat), (∀ c ∈ W, isDigit c.toNat = true) → valF W v ≤ 2147483648 → (r = [] ∨ ∃ r', r = 32 :: r') → numGo (W ++ r) n v = some (n + W.length, valF W v)
  | [], r, n, v, _, _, hr => by
    rcases hr with rfl | ⟨r', rfl⟩
    · rfl
    · rfl
  | c :: W, r, n, v, hW, hv, hr => by
    rw [List.cons_append, numGo, if_pos (hW c (by simp)), if_neg (by have := valF_mono W (10 * v + (c.toNat - 48)); simp only [valF] at hv; omega)]
    rw [numGo_digits W r (n + 1) _ (fun x hx => hW x (by simp [hx])) hv hr]
    simp [valF]; omega

theorem ok_digits (c : UInt8) (W : List UInt8) (hW : ∀ x ∈ c :: W, isDigit x.toNat = true) (hl : W.length ≤ 8) : WordOK (c :: W) := by
  have hv : valF (c :: W) 0 ≤ 2147483648 := by
    have h1 := valF_lt (c :: W) 0 hW
    have h2 : 10 ^ (c :: W).length ≤ 10 ^ 9 := Nat.pow_le_pow_right (by omega) (by simp; omega)
    omega
  refine ⟨by simp, by simp; omega, 1, wrap32 (valF (c :: W) 0), fun r hr => ?_⟩
  have h0 := hW c (by simp)
  have hlet := h0
  unfold isDigit at h0
  simp only [Bool.and_eq_true, decide_eq_true_eq] at h0
  have hh : headN ((c :: W) ++ r) = c.toNat := rfl
  have hdash : ¬ Lib.hasPrefix ((c :: W) ++ r) [45, 45] = true := not_dash c _ (by rintro rfl; revert h0; decide)
  unfold lexNext
  rw [hh, if_neg (by omega), if_neg (by omega), if_neg hdash, if_pos hlet]
  unfold numNext
  rw [numGo_digits (c :: W) r 0 0 hW hv hr]
  simp only [Nat.zero_add]
  rw [if_neg]
  rw [List.drop_left]
  rcases hr with rfl | ⟨r', rfl⟩
  · simp
  · simp; decide

def signList : List (List UInt8) := [[40], [41], [61], [43], [45], [42], [47], [60], [62], [59], [58], [44], [124], [60, 62], [60, 61], [62, 61], [45, 62]]
theorem ok_sign : ∀ W ∈ signList, WordOK W := by
  intro W hW
  simp only [signList, List.mem_cons, List.not_mem_nil, or_false] at hW
  rcases hW with rfl | rfl | rfl | rfl | rfl | rfl | rfl | rfl | rfl | rfl | rfl | rfl | rfl | rfl | rfl | rfl | rfl
  all_goals
    refine ⟨by simp, by simp, 5, 0, fun r hr => ?_⟩
    rcases hr with rfl | ⟨r', rfl⟩ <;> rfl
theorem keys_letters : ∀ k ∈ keyList, (k.head?.any fun c => isLetter c.toNat && c.toNat != 95) = true ∧ (k.all fun c => isLetter c.toNat || isDigit c.toNat) = true ∧ k.length ≤ 20 := by decide +kernel
theorem ok_key (k : List UInt8) (hk : k ∈ keyList) : WordOK k := by
  obtain ⟨h1, h2, h3⟩ := keys_letters k hk
  cases k with
  | nil => simp at h1
  | cons c W =>
    simp only [List.head?_cons, Option.any_some, Bool.and_eq_true, bne_iff_ne] at h1
    rw [List.all_cons, Bool.and_eq_true] at h2
    exact ok_letters c W h1.1 h1.2 (List.all_eq_true.1 h2.2) (by simp at h3; omega)

def letterAt (b : Nat) : UInt8 := [97, 98, 99, 88, 89, 90, 48, 49, 57, 95].getD (b % 10) 0
def digitAt (b : Nat) : UInt8 := [48, 49, 50, 51, 52, 53, 54, 55, 56, 57].getD (b % 10) 0
/-- What the laws' function word answers. -/
def wordS (kind : Nat) (l : List Nat) : List UInt8 :=
  if kind % 5 = 0 then 66 :: (l.take 8).map letterAt
  else if kind % 5 = 1 then 55 :: (l.take 8).map digitAt
  else if kind % 5 = 2 then keyList.getD (l.length * 7 % 32) []
  else if kind % 5 = 3 then signList.getD (l.length % 17) []
  else 97 :: (l.take 8).map letterAt
theorem letterAt_ok (b : Nat) : (isLetter (letterAt b).toNat || isDigit (letterAt b).toNat) = true := by
  have h : ∀ k, k < 10 → (isLetter (([97, 98, 99, 88, 89, 90, 48, 49, 57, 95] : List UInt8).getD k 0).toNat || isDigit (([97, 98, 99, 88, 89, 90, 48, 49, 57, 95] : List UInt8).getD k 0).toNat) = true := by decide
  exact h _ (Nat.mod_lt _ (by omega))
theorem digitAt_ok (b : Nat) : isDigit (digitAt b).toNat = true := by
  have h : ∀ k, k < 10 → isDigit (([48, 49, 50, 51, 52, 53, 54, 55, 56, 57] : List UInt8).getD k 0).toNat = true := by decide
  exact h _ (Nat.mod_lt _ (by omega))
theorem getD_mem {α : Type} (l : List α) (d : α) (k : Nat) (h : k < l.length) : l.getD k d ∈ l := by
  rw [List.getD_eq_getElem?_getD, List.getElem?_eq_getElem h]; exact List.getElem_mem h
theorem wordS_ok (kind : Nat) (l : List Nat) : WordOK (wordS kind l) := by
  have hm : ∀ (f : Nat → UInt8), ((l.take 8).map f).length ≤ 8 := fun f => by rw [List.length_map]; exact List.length_take_le _ _
  unfold wordS
  split
  · refine ok_letters 66 _ (by decide) (by decide) (fun x hx => ?_) (by have := hm letterAt; omega)
    obtain ⟨b, _, rfl⟩ := List.mem_map.1 hx
    exact letterAt_ok b
  · split
    · refine ok_digits 55 _ (fun x hx => ?_) (hm digitAt)
      rcases List.mem_cons.1 hx with rfl | hx
      · decide
      · obtain ⟨b, _, rfl⟩ := List.mem_map.1 hx
        exact digitAt_ok b
    · split
      · exact ok_key _ (getD_mem _ _ _ (Nat.mod_lt _ (by omega)))
      · split
        · exact ok_sign _ (getD_mem _ _ _ (Nat.mod_lt _ (by omega)))
        · refine ok_letters 97 _ (by decide) (by decide) (fun x hx => ?_) (by have := hm letterAt; omega)
          obtain ⟨b, _, rfl⟩ := List.mem_map.1 hx
          exact letterAt_ok b

/-- A word and a blank ahead of a text. -/
theorem lexL_put (W : List UInt8) (h : WordOK W) : ∃ kind n : Int, ∀ r, lexL (W ++ 32 :: r) = (lexL r).map fun ts => (kind, W, n) :: ts := by
  obtain ⟨h0, _, kind, n, hk⟩ := h
  refine ⟨kind, n, fun r => ?_⟩
  have h1 := hk (32 :: r) (.inr ⟨r, rfl⟩)
  have hne : W ++ 32 :: r ≠ [] := by simp
  rw [lexL_word _ hne (by rw [h1]), h1]
  simp only [List.drop_left, List.take_left]
  rw [lexL_skip (32 :: r) (by simp) (by rfl)]
  rfl
theorem lexL_last (W : List UInt8) (h : WordOK W) : ∃ kind n : Int, (∀ r, lexL (W ++ 32 :: r) = (lexL r).map fun ts => (kind, W, n) :: ts) ∧ lexL W = some [(kind, W, n)] := by
  obtain ⟨h0, _, kind, n, hk⟩ := h
  refine ⟨kind, n, fun r => ?_, ?_⟩
  · have h1 := hk (32 :: r) (.inr ⟨r, rfl⟩)
    have hne : W ++ 32 :: r ≠ [] := by simp
    rw [lexL_word _ hne (by rw [h1]), h1]
    simp only [List.drop_left, List.take_left]
    rw [lexL_skip (32 :: r) (by simp) (by rfl)]
    rfl
  · have h1 := hk [] (.inl rfl)
    rw [List.append_nil] at h1
    rw [lexL_word _ h0 (by rw [h1]), h1]
    simp [lexL_nil]
end Go.Proofs.YtijdhfjdnndkmaaDoor

/-
  Plain laws: a text that is cut behind a line's end.
-/
set_option linter.unusedVariables false
set_option linter.unusedSimpArgs false
namespace Go.Proofs.YtijdhfjdnndkmaaDoor
open Go.RowKit

theorem numGo_line : ∀ (x r : List UInt8) (n v : Nat), numGo (x ++ 10 :: r) n v = numGo (x ++ [10]) n v
  | [], r, n, v => rfl
  | c :: x, r, n, v => by
    simp only [List.cons_append, numGo]
    rw [numGo_line x r]
theorem takeWhile_line (p : UInt8 → Bool) (hp : p 10 = false) : ∀ (x r : List UInt8), (x ++ 10 :: r).takeWhile p = (x ++ [10]).takeWhile p
  | [], r => by simp [hp]
  | c :: x, r => by
    simp only [List.cons_append, List.takeWhile_cons]
    rw [takeWhile_line p hp x r]
theorem numGo_stop : ∀ (x r : List UInt8) (n v a b : Nat), numGo (x ++ 10 :: r) n v = some (a, b) → a ≤ n + x.length
  | [], r, n, v, a, b, h => by
    simp [numGo] at h
    have e : isDigit 10 = false := by decide
    rw [e] at h
    simp at h
    omega
  | c :: x, r, n, v, a, b, h => by
    simp only [List.cons_append, numGo] at h
    split at h
    · split at h
      · cases h
      · have := numGo_stop x r _ _ _ _ h
        simp; omega
    · simp at h; simp; omega
theorem numNext_line (x r : List UInt8) : numNext (x ++ 10 :: r) = numNext (x ++ [10]) := by
  unfold numNext
  rw [numGo_line x r]
  cases hg : numGo (x ++ [10]) 0 0 with
  | none => rfl
  | some p =>
    obtain ⟨n, v⟩ := p
    have hn : n ≤ x.length := by have := numGo_stop x [] 0 0 n v hg; omega
    simp only
    have e : ((x ++ 10 :: r).drop n).head? = ((x ++ [10]).drop n).head? := by
      rw [List.drop_append_of_le_length hn, List.drop_append_of_le_length hn]
      cases x.drop n <;> rfl
    rw [e]
theorem wordLen_line (x r : List UInt8) : wordLen (x ++ 10 :: r) = wordLen (x ++ [10]) := by
  unfold wordLen
  rw [takeWhile_line _ (by decide) x r]
theorem wordLen_le (x : List UInt8) : wordLen (x ++ [10]) ≤ x.length := by
  unfold wordLen
  have h : (fun c : UInt8 => isLetter c.toNat || isDigit c.toNat) 10 = false := by decide
  induction x with
  | nil => exact Nat.le_refl 0
  | cons c x ih =>
    simp only [List.cons_append, List.takeWhile_cons]
    split
    · simp at ih ⊢; exact ih
    · simp
theorem wordNext_ln (x r : List UInt8) (h0 : x ≠ []) : wordNext (x ++ 10 :: r) = wordNext (x ++ [10]) := by
  have hh : headN (x ++ 10 :: r) = headN (x ++ [10]) := by
    cases x with
    | nil => exact absurd rfl h0
    | cons c x => rfl
  unfold wordNext
  rw [wordLen_line x r, hh]
  have hl := wordLen_le x
  rw [List.take_append_of_le_length hl, List.take_append_of_le_length hl]
theorem prefix_two (p : List UInt8) (hp : p.length = 2) (h10 : ¬ (10 : UInt8) ∈ p) (x r : List UInt8) (h0 : x ≠ []) : Lib.hasPrefix (x ++ 10 :: r) p = Lib.hasPrefix (x ++ [10]) p := by
  unfold Lib.hasPrefix
  match p, hp with
  | [a, b], _ =>
    match x, h0 with
    | [c], _ =>
      have hb : (b == 10) = false := by simp at h10 ⊢; exact fun e => h10.2 e.symm
      simp [List.isPrefixOf, hb]
    | c :: d :: x, _ => simp [List.isPrefixOf]
theorem lexNext_line (x r : List UInt8) (h0 : x ≠ []) : lexNext (x ++ 10 :: r) = lexNext (x ++ [10]) := by
  have hh : headN (x ++ 10 :: r) = headN (x ++ [10]) := by
    cases x with
    | nil => exact absurd rfl h0
    | cons c x => rfl
  have hp : Lib.hasPrefix (x ++ 10 :: r) [45, 45] = Lib.hasPrefix (x ++ [10]) [45, 45] := prefix_two [45, 45] rfl (by decide) x r h0
  have hs : signNext (x ++ 10 :: r) = signNext (x ++ [10]) := by
    unfold signNext
    have e : (twoSigns.any fun p => Lib.hasPrefix (x ++ 10 :: r) p) = (twoSigns.any fun p => Lib.hasPrefix (x ++ [10]) p) := by
      simp only [twoSigns, List.any_cons, List.any_nil]
      rw [prefix_two _ rfl (by decide) x r h0, prefix_two _ rfl (by decide) x r h0, prefix_two _ rfl (by decide) x r h0, prefix_two _ rfl (by decide) x r h0]
    have e2 : (x ++ 10 :: r).head? = (x ++ [10]).head? := by
      cases x with
      | nil => exact absurd rfl h0
      | cons c x => rfl
    rw [e, e2]
  unfold lexNext
  rw [hh, hp, numNext_line x r, wordNext_ln x r h0, hs, takeWhile_line _ (by decide) x r]
/-- A step stays within what stands ahead of the line's end. -/
theorem lexNext_in (x : List UInt8) (h0 : x ≠ []) (h : (lexNext (x ++ [10])).code = 0 ∨ (lexNext (x ++ [10])).code = 2) : (lexNext (x ++ [10])).k ≤ x.length := by
  have key : ∀ r : List UInt8, (lexNext (x ++ 10 :: r)).k = (lexNext (x ++ [10])).k := fun r => by rw [lexNext_line x r h0]
  unfold lexNext at h ⊢
  split
  · rename_i q; rw [if_pos q] at h; simp at h
  · rename_i q; rw [if_neg q] at h
    split
    · rename_i q; have := List.length_pos_iff.2 h0; show 1 ≤ x.length; omega
    · rename_i q; rw [if_neg q] at h
      split
      · have hl : ∀ y : List UInt8, ((y ++ [10]).takeWhile (· != 10)).length ≤ y.length := fun y => by
          induction y with
          | nil => simp
          | cons c y ih =>
            simp only [List.cons_append, List.takeWhile_cons]
            split
            · simpa using ih
            · simp
        exact hl x
      · rename_i q; rw [if_neg q] at h
        split
        · rename_i q; rw [if_pos q] at h
          unfold numNext at h ⊢
          cases hg : numGo (x ++ [10]) 0 0 with
          | none => simp
          | some p =>
            obtain ⟨n, v⟩ := p
            have := numGo_stop x [] 0 0 n v hg
            simp only
            split
            · simp
            · simpa using this
        · rename_i q; rw [if_neg q] at h
          split
          · have hw := wordLen_le x
            unfold wordNext
            split
            · simp
            · split
              · exact hw
              · split
                · exact hw
                · split
                  · simp
                  · exact hw
          · unfold signNext
            split
            · rename_i q
              obtain ⟨p, hp, hq⟩ := List.any_eq_true.1 q
              have hl2 : p.length = 2 ∧ ¬ (10 : UInt8) ∈ p := by
                simp only [twoSigns, List.mem_cons, List.not_mem_nil, or_false] at hp
                rcases hp with rfl | rfl | rfl | rfl <;> exact ⟨rfl, by decide⟩
              match x, h0 with
              | [c], _ =>
                exfalso
                match p, hl2 with
                | [a, b], ⟨_, hb⟩ =>
                  simp [Lib.hasPrefix, List.isPrefixOf] at hq
                  exact hb (by simp [hq.2])
              | c :: d :: x, _ => simp
            · split
              · have := List.length_pos_iff.2 h0; show 1 ≤ x.length; omega
              · simp

theorem lexGo_s (s : ByteArray) (f i line frm : Nat) (toks : List Tok) : lexGo s (f + 1) i line frm toks =
    (if s.size ≤ i then ⟨true, toks ++ [⟨0, ⟨#[]⟩, 0, line, (i : Int) - frm + 1⟩], 0, 0, 0⟩
    else if (lexNext (s.data.toList.drop i)).code = 0 then lexGo s f (i + (lexNext (s.data.toList.drop i)).k) line frm toks
    else if (lexNext (s.data.toList.drop i)).code = 1 then lexGo s f (i + 1) (line + 1) (i + 1) toks
    else if (lexNext (s.data.toList.drop i)).code = 2 then
      lexGo s f (i + (lexNext (s.data.toList.drop i)).k) line frm (toks ++ [⟨(lexNext (s.data.toList.drop i)).kind, s.extract i (i + (lexNext (s.data.toList.drop i)).k), (lexNext (s.data.toList.drop i)).n, line, (i : Int) - frm + 1⟩])
    else ⟨false, [], (lexNext (s.data.toList.drop i)).kind, line, (i : Int) - frm + 1⟩) := rfl
/-- The fault's kind, wherever the text stands. -/
theorem lexGo_kind : ∀ (f f' : Nat) (s s' : ByteArray) (i i' line line' frm frm' : Nat) (toks toks' : List Tok), s.size + 1 ≤ f + i → i ≤ s.size → s'.size + 1 ≤ f' + i' → i' ≤ s'.size → s.data.toList.drop i = s'.data.toList.drop i' →
    (lexGo s f i line frm toks).kind = (lexGo s' f' i' line' frm' toks').kind
  | 0, _, s, s', i, i', _, _, _, _, _, _, h1, h2, h3, h4, _ => by omega
  | f + 1, 0, s, s', i, i', _, _, _, _, _, _, h1, h2, h3, h4, _ => by omega
  | f + 1, f' + 1, s, s', i, i', line, line', frm, frm', toks, toks', h1, h2, h3, h4, he => by
    have hl : s.size - i = s'.size - i' := by
      have := congrArg List.length he
      simp only [List.length_drop, Array.length_toList] at this
      exact this
    have hend' : s'.size ≤ i' ↔ s.size ≤ i := by omega
    rw [lexGo_s s f, lexGo_s s' f']
    by_cases hend : s.size ≤ i
    · rw [if_pos hend, if_pos (hend'.2 hend)]
    · rw [if_neg hend, if_neg (fun h => hend (hend'.1 h)), ← he]
      have h0 : s.data.toList.drop i ≠ [] := by
        intro h
        have := congrArg List.length h
        rw [List.length_drop] at this
        simp at this; omega
      have hlen : (s.data.toList.drop i).length = s.size - i := by rw [List.length_drop, Array.length_toList]; rfl
      have hd : ∀ k, s.data.toList.drop (i + k) = s'.data.toList.drop (i' + k) := fun k => by rw [← List.drop_drop, he, List.drop_drop]
      by_cases c0 : (lexNext (s.data.toList.drop i)).code = 0
      · have hf := fits _ h0 (Or.inl c0)
        rw [if_pos c0, if_pos c0]
        exact lexGo_kind f f' s s' _ _ _ _ _ _ _ _ (by omega) (by omega) (by omega) (by omega) (hd _)
      · rw [if_neg c0, if_neg c0]
        by_cases c1 : (lexNext (s.data.toList.drop i)).code = 1
        · rw [if_pos c1, if_pos c1]
          exact lexGo_kind f f' s s' _ _ _ _ _ _ _ _ (by omega) (by omega) (by omega) (by omega) (hd 1)
        · rw [if_neg c1, if_neg c1]
          by_cases c2 : (lexNext (s.data.toList.drop i)).code = 2
          · have hf := fits _ h0 (Or.inr c2)
            rw [if_pos c2, if_pos c2]
            exact lexGo_kind f f' s s' _ _ _ _ _ _ _ _ (by omega) (by omega) (by omega) (by omega) (hd _)
          · rw [if_neg c2, if_neg c2]

theorem lexGo_len (s : ByteArray) : ∀ (f i line frm : Nat) (toks : List Tok), i ≤ s.size → (lexGo s f i line frm toks).toks.length ≤ toks.length + (s.size - i) + 1
  | 0, i, line, frm, toks, _ => by simp only [lexGo]; omega
  | f + 1, i, line, frm, toks, hi => by
    rw [lexGo_s]
    by_cases hend : s.size ≤ i
    · rw [if_pos hend]; simp
    · rw [if_neg hend]
      have h0 : s.data.toList.drop i ≠ [] := by
        intro h
        have := congrArg List.length h
        rw [List.length_drop] at this
        simp at this; omega
      have hlen : (s.data.toList.drop i).length = s.size - i := by rw [List.length_drop, Array.length_toList]; rfl
      by_cases c0 : (lexNext (s.data.toList.drop i)).code = 0
      · have hf := fits _ h0 (Or.inl c0)
        rw [if_pos c0]
        have := lexGo_len s f (i + (lexNext (s.data.toList.drop i)).k) line frm toks (by omega)
        omega
      · rw [if_neg c0]
        by_cases c1 : (lexNext (s.data.toList.drop i)).code = 1
        · rw [if_pos c1]
          have := lexGo_len s f (i + 1) (line + 1) (i + 1) toks (by omega)
          omega
        · rw [if_neg c1]
          by_cases c2 : (lexNext (s.data.toList.drop i)).code = 2
          · have hf := fits _ h0 (Or.inr c2)
            rw [if_pos c2]
            have := lexGo_len s f (i + (lexNext (s.data.toList.drop i)).k) line frm (toks ++ [⟨(lexNext (s.data.toList.drop i)).kind, s.extract i (i + (lexNext (s.data.toList.drop i)).k), (lexNext (s.data.toList.drop i)).n, line, (i : Int) - frm + 1⟩]) (by omega)
            simp at this
            omega
          · rw [if_neg c2]; simp
theorem lexAll_len (s : ByteArray) : (lexAll s).toks.length ≤ s.size + 1 := by
  unfold lexAll
  split
  · simp
  · have := lexGo_len s (s.size + 1) 0 1 0 [] (by omega)
    simpa using this
/-- A text a with a line's end behind it, and what stands behind that. -/
theorem lexGo_cut (a s1 s3 : ByteArray) (r : List UInt8) (e1 : s1.data.toList = a.data.toList ++ [10]) (e3 : s3.data.toList = a.data.toList ++ 10 :: r) :
    ∀ (f f3 i line frm : Nat) (toks : List Tok), s1.size + 1 ≤ f + i → i ≤ s1.size → s3.size + 1 ≤ f3 + i →
    ((lexGo s1 f i line frm toks).ok = false ∧ lexGo s3 f3 i line frm toks = lexGo s1 f i line frm toks) ∨
    (∃ (T : List Tok) (f' line' frm' : Nat) (t : Tok), (lexGo s1 f i line frm toks).ok = true ∧ (lexGo s1 f i line frm toks).toks = T ++ [t] ∧ s3.size + 1 ≤ f' + s1.size ∧ lexGo s3 f3 i line frm toks = lexGo s3 f' s1.size line' frm' T) := by
  have z1 : s1.size = a.size + 1 := by
    have := congrArg List.length e1
    simpa using this
  have z3 : s3.size = a.size + 1 + r.length := by
    have := congrArg List.length e3
    simp at this
    omega
  intro f
  induction f with
  | zero => intro f3 i line frm toks h1 h2; omega
  | succ f ih =>
    intro f3 i line frm toks h1 h2 h3
    obtain ⟨f3', rfl⟩ : ∃ k, f3 = k + 1 := ⟨f3 - 1, by omega⟩
    by_cases hend : s1.size ≤ i
    · have hi : i = s1.size := by omega
      subst hi
      refine .inr ⟨toks, f3' + 1, line, frm, ⟨0, ⟨#[]⟩, 0, line, (s1.size : Int) - frm + 1⟩, ?_, ?_, h3, rfl⟩
      · rw [lexGo, if_pos (Nat.le_refl _)]
      · rw [lexGo, if_pos (Nat.le_refl _)]
    · have hlt : i < s1.size := by omega
      have hia : i ≤ a.data.toList.length := by
        have : a.data.toList.length = a.size := by rw [Array.length_toList]; rfl
        omega
      have d1 : s1.data.toList.drop i = a.data.toList.drop i ++ [10] := by rw [e1, List.drop_append_of_le_length hia]
      have d3 : s3.data.toList.drop i = a.data.toList.drop i ++ 10 :: r := by rw [e3, List.drop_append_of_le_length hia]
      have hxl : (a.data.toList.drop i).length = a.size - i := by rw [List.length_drop, Array.length_toList]; rfl
      rw [lexGo_s s1 f, lexGo_s s3 f3', if_neg hend, if_neg (show ¬ s3.size ≤ i by omega)]
      by_cases hx : a.data.toList.drop i = []
      · have hn1 : lexNext (s1.data.toList.drop i) = ⟨1, 1, 0, 0⟩ ∨ (lexNext (s1.data.toList.drop i)).code = 1 := by
          right; rw [d1, hx]; rfl
        have c1 : (lexNext (s1.data.toList.drop i)).code = 1 := by rw [d1, hx]; rfl
        have c3 : (lexNext (s3.data.toList.drop i)).code = 1 := by rw [d3, hx]; rfl
        rw [if_neg (show ¬ (lexNext (s1.data.toList.drop i)).code = 0 by omega), if_pos c1, if_neg (show ¬ (lexNext (s3.data.toList.drop i)).code = 0 by omega), if_pos c3]
        exact ih f3' (i + 1) (line + 1) (i + 1) toks (by omega) (by omega) (by omega)
      · have hsame : lexNext (s3.data.toList.drop i) = lexNext (s1.data.toList.drop i) := by rw [d3, d1, lexNext_line _ _ hx]
        have hin := lexNext_in _ hx
        rw [← d1, hxl] at hin
        rw [hsame]
        by_cases c0 : (lexNext (s1.data.toList.drop i)).code = 0
        · have hk := hin (Or.inl c0)
          rw [if_pos c0, if_pos c0]
          exact ih f3' _ line frm toks (by have := fits _ (by rw [d1]; simp) (Or.inl c0); omega) (by omega) (by have := fits _ (by rw [d1]; simp) (Or.inl c0); omega)
        · rw [if_neg c0, if_neg c0]
          by_cases c1 : (lexNext (s1.data.toList.drop i)).code = 1
          · rw [if_pos c1, if_pos c1]
            exact ih f3' (i + 1) (line + 1) (i + 1) toks (by omega) (by omega) (by omega)
          · rw [if_neg c1, if_neg c1]
            by_cases c2 : (lexNext (s1.data.toList.drop i)).code = 2
            · have hk := hin (Or.inr c2)
              have hf := fits _ (by rw [d1]; simp) (Or.inr c2)
              generalize hkk : (lexNext (s1.data.toList.drop i)).k = kk at *
              have hext : s3.extract i (i + kk) = s1.extract i (i + kk) := by
                have e : (s3.extract i (i + kk)).data.toList = (s1.extract i (i + kk)).data.toList := by
                  rw [piece_eq (s := s3), piece_eq (s := s1), d3, d1]
                  rw [List.take_append_of_le_length (by rw [hxl]; exact hk), List.take_append_of_le_length (by rw [hxl]; exact hk)]
                have e' := congrArg List.toArray e
                simp only [Array.toArray_toList] at e'
                exact congrArg ByteArray.mk e'
              rw [if_pos c2, if_pos c2, hext]
              exact ih f3' _ line frm _ (by omega) (by omega) (by omega)
            · rw [if_neg c2, if_neg c2]
              exact .inl ⟨rfl, rfl⟩
end Go.Proofs.YtijdhfjdnndkmaaDoor

/-
  Plain laws: a number in digits, alone, too great, with a letter behind it.
-/
set_option linter.unusedVariables false
set_option linter.unusedSimpArgs false
namespace Go.Proofs.YtijdhfjdnndkmaaDoor
open Go.RowKit

def Digs (W : List UInt8) : Prop := ∀ c ∈ W, isDigit c.toNat = true
theorem valF_app : ∀ (W V : List UInt8) (v : Nat), valF (W ++ V) v = valF V (valF W v)
  | [], V, v => rfl
  | c :: W, V, v => by simp only [List.cons_append, valF]; exact valF_app W V _
theorem valF_zeros : ∀ (z : Nat), valF (List.replicate z 48) 0 = 0
  | 0 => rfl
  | z + 1 => by simp only [List.replicate_succ, valF]; exact valF_zeros z
theorem digs_zeros (z : Nat) : Digs (List.replicate z 48) := fun c hc => by
  obtain rfl := (List.mem_replicate.1 hc).2
  decide
theorem Digs.app {W V : List UInt8} (h : Digs W) (g : Digs V) : Digs (W ++ V) := fun c hc => (List.mem_append.1 hc).elim (h c) (g c)
theorem numGo_over : ∀ (W r : List UInt8) (n v : Nat), Digs W → 2147483648 < valF W v → v ≤ 2147483648 → numGo (W ++ r) n v = none
  | [], r, n, v, _, h1, h2 => by simp only [valF] at h1; omega
  | c :: W, r, n, v, hW, h1, h2 => by
    simp only [List.cons_append, numGo]
    rw [if_pos (hW c (by simp))]
    by_cases h : 2147483648 < 10 * v + (c.toNat - 48)
    · rw [if_pos h]
    · rw [if_neg h]
      exact numGo_over W r _ _ (fun x hx => hW x (by simp [hx])) h1 (by omega)
theorem numGo_stop2 : ∀ (W r : List UInt8) (n v : Nat), Digs W → valF W v ≤ 2147483648 → (r = [] ∨ ∃ c r', r = c :: r' ∧ isDigit c.toNat = false) → numGo (W ++ r) n v = some (n + W.length, valF W v)
  | [], r, n, v, _, _, hr => by
    rcases hr with rfl | ⟨c, r', rfl, hc⟩
    · rfl
    · simp [numGo, hc, valF]
  | c :: W, r, n, v, hW, hv, hr => by
    rw [List.cons_append, numGo, if_pos (hW c (by simp)), if_neg (by have := valF_mono W (10 * v + (c.toNat - 48)); simp only [valF] at hv; omega)]
    rw [numGo_stop2 W r (n + 1) _ (fun x hx => hW x (by simp [hx])) hv hr]
    simp [valF]; omega
theorem lexNext_num (W r : List UInt8) (h0 : W ≠ []) (hW : Digs W) : lexNext (W ++ r) = numNext (W ++ r) := by
  cases W with
  | nil => exact absurd rfl h0
  | cons c W =>
    have h1 := hW c (by simp)
    have h2 := h1
    unfold isDigit at h2
    simp only [Bool.and_eq_true, decide_eq_true_eq] at h2
    have hh : headN ((c :: W) ++ r) = c.toNat := rfl
    have hdash : ¬ Lib.hasPrefix ((c :: W) ++ r) [45, 45] = true := not_dash c _ (by rintro rfl; revert h2; decide)
    unfold lexNext
    rw [hh, if_neg (by omega), if_neg (by omega), if_neg hdash, if_pos h1]
theorem size_of {s : ByteArray} {l : List UInt8} (h : s.data.toList = l) : s.size = l.length := by rw [← h, Array.length_toList]; rfl
theorem num_ok (s : ByteArray) (W : List UInt8) (hs : s.data.toList = W) (h0 : W ≠ []) (hW : Digs W) (hl : W.length ≤ 60000) (hv : valF W 0 ≤ 2147483648) :
    lexAll s = ⟨true, [⟨1, s.extract 0 (0 + W.length), wrap32 (valF W 0), 1, 1⟩, ⟨0, ⟨#[]⟩, 0, 1, (W.length : Int) + 1⟩], 0, 0, 0⟩ := by
  have hz := size_of hs
  have hp := List.length_pos_iff.2 h0
  have hn : lexNext W = ⟨2, W.length, 1, wrap32 (valF W 0)⟩ := by
    have := lexNext_num W [] h0 hW
    rw [List.append_nil] at this
    rw [this]
    unfold numNext
    have h := numGo_stop2 W [] 0 0 hW hv (.inl rfl)
    rw [List.append_nil] at h
    rw [h]
    simp
  unfold lexAll
  rw [if_neg (by omega), lexGo_s, if_neg (by omega), hs, List.drop_zero, hn]
  show lexGo s s.size (0 + W.length) 1 0 [⟨1, s.extract 0 (0 + W.length), wrap32 (valF W 0), 1, 1⟩] = _
  rw [hz]
  obtain ⟨k, hk⟩ : ∃ k, W.length = k + 1 := ⟨W.length - 1, by omega⟩
  rw [hk, lexGo_s, if_pos (by omega)]
  simp
theorem num_over (s : ByteArray) (W : List UInt8) (hs : s.data.toList = W) (h0 : W ≠ []) (hW : Digs W) (hl : W.length ≤ 60000) (hv : 2147483648 < valF W 0) : lexAll s = ⟨false, [], 3, 1, 1⟩ := by
  have hz := size_of hs
  have hp := List.length_pos_iff.2 h0
  have hn : lexNext W = ⟨3, 0, 3, 0⟩ := by
    have := lexNext_num W [] h0 hW
    rw [List.append_nil] at this
    rw [this]
    unfold numNext
    have h := numGo_over W [] 0 0 hW hv (by omega)
    rw [List.append_nil] at h
    rw [h]
  unfold lexAll
  rw [if_neg (by omega), lexGo_s, if_neg (by omega), hs, List.drop_zero, hn]
  rfl
theorem num_letter (s : ByteArray) (W : List UInt8) (c : UInt8) (hs : s.data.toList = W ++ [c]) (h0 : W ≠ []) (hW : Digs W) (hl : W.length ≤ 60000) (hv : valF W 0 ≤ 2147483648) (hc : isLetter c.toNat = true) : lexAll s = ⟨false, [], 1, 1, 1⟩ := by
  have hz := size_of hs
  have hp := List.length_pos_iff.2 h0
  have hd : isDigit c.toNat = false := by
    unfold isLetter at hc
    unfold isDigit
    simp at hc ⊢
    omega
  have hn : lexNext (W ++ [c]) = ⟨3, 0, 1, 0⟩ := by
    rw [lexNext_num W [c] h0 hW]
    unfold numNext
    rw [numGo_stop2 W [c] 0 0 hW hv (.inr ⟨c, [], rfl, hd⟩)]
    simp [hc]
  unfold lexAll
  simp at hz
  rw [if_neg (by omega), lexGo_s, if_neg (by omega), hs, List.drop_zero, hn]
  rfl
theorem lexGo_more (s : ByteArray) : ∀ (f i line frm : Nat) (toks : List Tok), s.size + 1 ≤ f + i → i ≤ s.size → (lexGo s f i line frm toks).ok = true → toks.length + 1 ≤ (lexGo s f i line frm toks).toks.length
  | 0, i, line, frm, toks, h1, h2, _ => by omega
  | f + 1, i, line, frm, toks, h1, h2, hk => by
    rw [lexGo_s] at hk ⊢
    by_cases hend : s.size ≤ i
    · rw [if_pos hend]; simp
    · rw [if_neg hend] at hk ⊢
      have h0 : s.data.toList.drop i ≠ [] := by
        intro h
        have := congrArg List.length h
        rw [List.length_drop] at this
        simp at this; omega
      have hlen : (s.data.toList.drop i).length = s.size - i := by rw [List.length_drop, Array.length_toList]; rfl
      by_cases c0 : (lexNext (s.data.toList.drop i)).code = 0
      · have hf := fits _ h0 (Or.inl c0)
        rw [if_pos c0] at hk ⊢
        exact lexGo_more s f _ _ _ _ (by omega) (by omega) hk
      · rw [if_neg c0] at hk ⊢
        by_cases c1 : (lexNext (s.data.toList.drop i)).code = 1
        · rw [if_pos c1] at hk ⊢
          exact lexGo_more s f _ _ _ _ (by omega) (by omega) hk
        · rw [if_neg c1] at hk ⊢
          by_cases c2 : (lexNext (s.data.toList.drop i)).code = 2
          · have hf := fits _ h0 (Or.inr c2)
            rw [if_pos c2] at hk ⊢
            have := lexGo_more s f _ _ _ _ (by omega) (by omega) hk
            simp at this
            omega
          · rw [if_neg c2] at hk; cases hk
theorem num_any (s : ByteArray) (W r : List UInt8) (hs : s.data.toList = W ++ r) (h0 : W ≠ []) (hW : Digs W) (hk : (lexAll s).ok = true) : 2 ≤ (lexAll s).toks.length := by
  have hz := size_of hs
  have hp := List.length_pos_iff.2 h0
  simp at hz
  have hc : (lexNext (W ++ r)).code = 2 ∨ (lexNext (W ++ r)).code = 3 := by
    rw [lexNext_num W r h0 hW]
    unfold numNext
    split
    · simp
    · split <;> simp
  unfold lexAll at hk ⊢
  by_cases hbig : 65536 < s.size
  · rw [if_pos hbig] at hk; cases hk
  · rw [if_neg hbig] at hk ⊢
    have hf := fits (W ++ r) (by simp [h0])
    rw [lexGo_s, if_neg (by omega), hs, List.drop_zero] at hk ⊢
    rcases hc with hc | hc
    · have hf := hf (Or.inr hc)
      simp at hf
      rw [if_neg (by omega), if_neg (by omega), if_pos hc] at hk ⊢
      have := lexGo_more s s.size _ _ _ _ (by omega) (by omega) hk
      simpa using this
    · rw [if_neg (by omega), if_neg (by omega), if_neg (by omega)] at hk
      cases hk
end Go.Proofs.YtijdhfjdnndkmaaDoor

/-
  The walk over lex.Words, and what it leaves.
-/
set_option linter.unusedVariables false
set_option linter.unusedSimpArgs false
namespace Go.Proofs.YtijdhfjdnndkmaaDoor
open Go.RowKit

/-- An error of a kind at a place. -/
def IsFault (B : Nat) (w : World) (v : Value) (kind line col : Int) : Prop :=
  ∃ g, v = .iface 49 (.pointer (some ⟨g, 0, none⟩)) ∧ B ≤ g ∧ w.heap[g]? = some (.cells #[.int .i64 line, .int .i64 col, .string ⟨#[]⟩, .bool false, .iface 31 (.int .i64 kind)] 53 (0, 0))

theorem IsFault.mono {B B' : Nat} {w : World} {v : Value} {kind line col : Int} (h : IsFault B w v kind line col) (hB : B' ≤ B) : IsFault B' w v kind line col := by
  obtain ⟨g, h1, h2, h3⟩ := h
  exact ⟨g, h1, Nat.le_trans hB h2, h3⟩
set_option maxHeartbeats 1000000 in
theorem new_any (kind line col : Int) (hk : kind ≠ 0) (w : World) :
    Calls Tryd.prog 11 #[.int .i64 kind, .agg #[.int .i64 line, .int .i64 col]] w fun e w' => ∃ v, e = .returned v ∧ IsFault w.heap.size w' v kind line col ∧ Below w.heap.size w w' := by
  have h0 : (kind == 0) = false := by simpa using hk
  go_enter Tryd.func11, Tryd.ntmps11
  go_wp2
  go_ret
  refine ⟨_, rfl, ⟨_, rfl, ?_, ?_⟩, ?_⟩
  · simp
  · have h1 := heap_alloc_new (w.alloc (.cells #[.int .i64 line, .int .i64 col] 34)) (.cells #[.int .i64 line, .int .i64 col, .string ⟨#[]⟩, .bool false, .iface 31 (.int .i64 kind)] 53)
    simpa using h1
  · exact ((Below.refl _ _).alloc (Nat.le_refl _) _).alloc (by simp) _

theorem RdAt.pos {w : World} {R : Nat} {s : ByteArray} {i line frm : Nat} {out : Value} (h : RdAt w R s i line frm out) : posOf R w = i := by
  unfold posOf; rw [h.cells.2.1]; exact Int.toNat_natCast i
theorem num_kind (l : List UInt8) (h : (numNext l).code = 3) : (numNext l).kind = 1 ∨ (numNext l).kind = 3 := by
  unfold numNext at *
  split
  · simp
  · split <;> simp_all
theorem word_kind (l : List UInt8) (h : (wordNext l).code = 3) : (wordNext l).kind = 1 ∨ (wordNext l).kind = 3 := by
  unfold wordNext at *
  split at h
  · rename_i q; rw [if_pos q]; simp
  · rename_i q; rw [if_neg q]
    split at h
    · simp at h
    · rename_i q; rw [if_neg q]
      split at h
      · simp at h
      · rename_i q; rw [if_neg q]
        split at h
        · rename_i q; rw [if_pos q]; simp
        · simp at h
theorem sign_kind (l : List UInt8) (h : (signNext l).code = 3) : (signNext l).kind = 1 ∨ (signNext l).kind = 3 := by
  unfold signNext at *
  split at h
  · simp at h
  · rename_i q; rw [if_neg q]
    split at h
    · simp at h
    · rename_i q; rw [if_neg q]; simp
theorem next_kind (l : List UInt8) (h : (lexNext l).code = 3) : (lexNext l).kind = 1 ∨ (lexNext l).kind = 3 := by
  unfold lexNext at *
  split at h
  · simp at h
  · rename_i q; rw [if_neg q]
    split at h
    · simp at h
    · rename_i q; rw [if_neg q]
      split at h
      · simp at h
      · rename_i q; rw [if_neg q]
        split at h
        · rename_i q; rw [if_pos q]; exact num_kind l h
        · rename_i q; rw [if_neg q]
          split at h
          · rename_i q; rw [if_pos q]; exact word_kind l h
          · rename_i q; rw [if_neg q]; exact sign_kind l h

/-- What Words leaves. -/
def WordsP (w : World) (r : LexR) (e : Ending) (w' : World) : Prop :=
  Below w.heap.size w w' ∧ (r.ok = true → ∃ out, e = .returned (.tuple #[out, .nilIface]) ∧ w'.ownsRow w.heap.size 36 5 out r.toks.length (tokCells r.toks)) ∧
  (r.ok = false → ∃ v, e = .returned (.tuple #[.slice none 0 0, v]) ∧ IsFault w.heap.size w' v r.kind r.line r.col)

set_option maxHeartbeats 4000000 in
theorem words_any (s : ByteArray) (w : World) (m : Int) (hm : w.cell? ⟨1, 0, none⟩ = some (.int .i64 m)) (hs : s.size ≤ 281474976710656) :
    Calls Tryd.prog 6 #[.string s] w (WordsP w (lexAll s)) := by
  have h0 : 1 < w.heap.size := World.block_lt_of_cell? w _ hm
  have HM := Lib.hid hm
  clear hm
  by_cases hbig : 65536 < s.size
  · have hlex := Lib.hid (show lexAll s = ⟨false, [], 3, 1, 1⟩ by unfold lexAll; rw [if_pos hbig])
    go_enter Tryd.func6, Tryd.ntmps6
    go_wp2_with fail
    refine (new_any _ _ _ (by decide) _).mono ?_
    rintro e w1 ⟨v, rfl, hv, hb⟩
    go_wp2_with fail
    go_ret2
    rw [hlex.out]
    exact ⟨hb, fun h => absurd h (by simp), fun _ => ⟨v, rfl, hv⟩⟩
  · have hlex := Lib.hid (show lexAll s = lexGo s (s.size + 1) 0 1 0 [] by unfold lexAll; rw [if_neg hbig])
    go_enter Tryd.func6, Tryd.ntmps6
    go_wp2_with fail
    obtain ⟨i0, hi0, hz0, hz1, hz2⟩ := info_parts info_tok
    have hrd0 : Rd w.heap.size (w.alloc (.cells #[.string s, .int .i64 0, .int .i64 1, .int .i64 0, .slice none 0 0] 45)) w.heap.size s 0 1 0 [] (.slice none 0 0) :=
      ⟨heap_alloc_new w _, ⟨rfl, Or.inl ⟨rfl, rfl⟩⟩, Nat.le_refl _⟩
    go_loopw [5] (fun _ wr => Below w.heap.size w wr ∧ ∃ (i line frm f : Nat) (toks : List Tok) (out : Value), Rd w.heap.size wr w.heap.size s i line frm toks out ∧ i ≤ s.size ∧ frm ≤ i ∧ line ≤ i + 1 ∧ toks.length ≤ i ∧ s.size + 1 ≤ f + i ∧
      Hid (lexAll s = lexGo s f i line frm toks)) (fun _ wr => s.size - posOf w.heap.size wr)
    case atStart => exact ⟨(Below.refl _ _).alloc (Nat.le_refl _) _, 0, 1, 0, s.size + 1, [], _, hrd0, by omega, by omega, by omega, by simp, by omega, hlex⟩
    case round =>
      clear hrd0 hlex
      obtain ⟨hB, i, line, frm, f, toks, out, hrd, hi, hfrm, hline, htk, hf, hgo⟩ := hrel
      obtain ⟨d0, d1, _, _, d4⟩ := hrd.at_.cells
      have HRD := Lib.hid hrd
      have HBW := Lib.hid hB
      have HMr := Lib.hid ((hB.cell (p := ⟨1, 0, none⟩) h0).trans HM.out)
      have hpo : posOf w.heap.size wr = i := hrd.at_.pos
      obtain ⟨f', rfl⟩ : ∃ f', f = f' + 1 := ⟨f - 1, by omega⟩
      have p1 : (0 : Int) ≤ (i : Int) := Int.natCast_nonneg _
      clear hrd hB
      by_cases hlt : i < s.size
      · have hdc := drop_cons s i hlt
        have hfit := next_fits s[i] (s.data.toList.drop (i + 1))
        rw [← hdc] at hfit
        have hll : (s.data.toList.drop (i + 1)).length = s.size - (i + 1) := by rw [List.length_drop, Array.length_toList]; rfl
        rw [hll] at hfit
        have HF := Lib.hid hfit
        have hc3 := next_code (s.data.toList.drop i)
        have hkd := Lib.hid (next_kind (s.data.toList.drop i))
        have hstep : Hid (lexAll s = lexGo s (f' + 1) i line frm toks) := hgo
        clear hdc hfit hll
        go_wp2_with fail
        refine (one_any put_said w.heap.size w.heap.size s i line frm toks out _ (by exact HRD.out) m (by exact HMr.out) (by omega) hlt hfrm (by omega) htk).mono ?_
        rintro e w1 ⟨hb1, q0, q1, q2, q3⟩
        have hc4 : (lexNext (s.data.toList.drop i)).code = 0 ∨ (lexNext (s.data.toList.drop i)).code = 1 ∨ (lexNext (s.data.toList.drop i)).code = 2 ∨ (lexNext (s.data.toList.drop i)).code = 3 := by omega
        rcases hc4 with hc | hc | hc | hc
        · obtain ⟨rfl, out1, hr1⟩ := q0 hc
          have hfit := HF.out (Or.inl hc)
          have hgo2 : Hid (lexAll s = lexGo s f' (i + (lexNext (s.data.toList.drop i)).k) line frm toks) := Lib.hid (by
            rw [hstep.out, lexGo, if_neg (by omega), if_pos hc])
          have HR1 := Lib.hid hr1
          have HB1 := Lib.hid hb1
          clear q0 q1 q2 q3 hr1 hb1 hc
          generalize (lexNext (s.data.toList.drop i)).k = k at *
          go_wp2_with fail
          refine ⟨⟨HBW.out.trans HB1.out, i + k, line, frm, f', toks, out1, HR1.out, by omega, by omega, by omega, by omega, by omega, hgo2⟩, ?_⟩
          have hp1 : posOf w.heap.size w1 = i + k := HR1.out.at_.pos
          rw [hp1, hpo]; omega
        · obtain ⟨rfl, out1, hr1⟩ := q1 hc
          have hgo2 : Hid (lexAll s = lexGo s f' (i + 1) (line + 1) (i + 1) toks) := Lib.hid (by
            rw [hstep.out, lexGo, if_neg (by omega), if_neg (by omega), if_pos hc])
          have HR1 := Lib.hid hr1
          have HB1 := Lib.hid hb1
          clear q0 q1 q2 q3 hr1 hb1 hc
          go_wp2_with fail
          refine ⟨⟨HBW.out.trans HB1.out, i + 1, line + 1, i + 1, f', toks, out1, HR1.out, by omega, by omega, by omega, by omega, by omega, hgo2⟩, ?_⟩
          have hp1 : posOf w.heap.size w1 = i + 1 := HR1.out.at_.pos
          rw [hp1, hpo]; omega
        · obtain ⟨rfl, out1, hr1⟩ := q2 hc
          have hfit := HF.out (Or.inr hc)
          have hgo2 := Lib.hid (show lexAll s = lexGo s f' (i + (lexNext (s.data.toList.drop i)).k) line frm (toks ++ [⟨(lexNext (s.data.toList.drop i)).kind, s.extract i (i + (lexNext (s.data.toList.drop i)).k), (lexNext (s.data.toList.drop i)).n, line, (i : Int) - frm + 1⟩]) by
            rw [hstep.out, lexGo, if_neg (by omega), if_neg (by omega), if_neg (by omega), if_pos hc])
          have HR1 := Lib.hid hr1
          have HB1 := Lib.hid hb1
          clear q0 q1 q2 q3 hr1 hb1 hc
          generalize hK : (lexNext (s.data.toList.drop i)).k = k at *
          generalize (lexNext (s.data.toList.drop i)).kind = kd at *
          generalize (lexNext (s.data.toList.drop i)).n = nn at *
          clear hK
          go_wp2_with fail
          refine ⟨⟨HBW.out.trans HB1.out, i + k, line, frm, f', _, out1, HR1.out, by omega, by omega, by omega, by simp; omega, by omega, hgo2⟩, ?_⟩
          have hp1 : posOf w.heap.size w1 = i + k := HR1.out.at_.pos
          rw [hp1, hpo]; omega
        · obtain ⟨rfl, out1, hr1⟩ := q3 hc
          have hk0 : (lexNext (s.data.toList.drop i)).kind ≠ 0 := by rcases hkd.out hc with h | h <;> rw [h] <;> decide
          have hgo2 := Lib.hid (show lexAll s = ⟨false, [], (lexNext (s.data.toList.drop i)).kind, line, (i : Int) - frm + 1⟩ by
            rw [hstep.out, lexGo, if_neg (by omega), if_neg (by omega), if_neg (by omega), if_neg (by omega)])
          have HR1 := Lib.hid hr1
          have HB1 := Lib.hid hb1
          have hR1 := hr1.at_.lt
          clear q0 q1 q2 q3 hr1 hb1 hc hkd
          generalize (lexNext (s.data.toList.drop i)).kind = kd at *
          have hk1 : (kd != 0) = true := by simpa using hk0
          go_wp2_with fail
          refine (pos_any w.heap.size s i line frm out1 _ (by exact HR1.out.at_) (by omega) hfrm).mono ?_
          rintro e w2 ⟨rfl, hb2⟩
          go_wp2_with fail
          refine (new_any _ _ _ hk0 _).mono ?_
          rintro e w3 ⟨v, rfl, hv, hb3⟩
          go_wp2_with fail
          go_ret2
          rw [hgo2.out]
          refine ⟨((HBW.out.trans HB1.out).trans (hb2.mono (Nat.le_of_lt hR1))).trans (hb3.mono (Nat.le_trans (Nat.le_of_lt hR1) hb2.size)), fun h => absurd h (by simp), fun _ => ⟨v, rfl, hv.mono (Nat.le_trans (Nat.le_of_lt hR1) hb2.size)⟩⟩
      · have hgo2 := Lib.hid (show lexAll s = ⟨true, toks ++ [⟨0, ⟨#[]⟩, 0, line, (i : Int) - frm + 1⟩], 0, 0, 0⟩ by rw [hgo.out, lexGo, if_pos (by omega)])
        go_wp2_with fail
        have hR := HRD.out.at_.lt
        have hne := ne_of_tok HRD.out
        clear hgo d0 d1 hpo
        refine wp_region_D (fun w' => w'.cell? ⟨w.heap.size, 4, none⟩ = some out) (fun _ => false) (by kernel_rfl) (by exact d4) (fun hHeld => ?_)
        refine wpAnyD_take (i := 0) (v := ?v0) rfl (by kernel_rfl) (by kernel_rfl) (by kernel_rfl) (by kernel_rfl) (fun _ _ _ h => h) (Or.inl ⟨by rfl, ?h0⟩) hHeld ?_
        case h0 => (intro w hSw; (try dsimp only at hSw); go_simp; try with_reducible rfl)
        try simp only [Act.put, List.setIfInBounds_toArray, List.set_cons_zero, List.set_cons_succ, List.getElem_toArray, List.getElem_cons_zero, List.getElem_cons_succ]
        refine wpAnyD_take (i := 1) (v := ?v1) rfl (by kernel_rfl) (by kernel_rfl) (by kernel_rfl) (by kernel_rfl) (fun _ _ _ h => h) (Or.inl ⟨by rfl, ?h1⟩) hHeld ?_
        case h1 => (intro w hSw; (try dsimp only at hSw); go_simp; try with_reducible rfl)
        try simp only [Act.put, List.setIfInBounds_toArray, List.set_cons_zero, List.set_cons_succ, List.getElem_toArray, List.getElem_cons_zero, List.getElem_cons_succ]
        refine wpAnyD_take (i := 2) (v := ?v2) rfl (by kernel_rfl) (by kernel_rfl) (by kernel_rfl) (by kernel_rfl) (fun _ _ _ h => h) (Or.inl ⟨by rfl, ?h2⟩) hHeld ?_
        case h2 => (intro w hSw; (try dsimp only at hSw); go_simp; try with_reducible rfl)
        try simp only [Act.put, List.setIfInBounds_toArray, List.set_cons_zero, List.set_cons_succ, List.getElem_toArray, List.getElem_cons_zero, List.getElem_cons_succ]
        refine wpAnyD_take (i := 3) (v := ?v3) rfl (by kernel_rfl) (by kernel_rfl) (by kernel_rfl) (by kernel_rfl) (fun _ _ _ h => h) (Or.inl ⟨by rfl, ?h3⟩) hHeld ?_
        case h3 => (intro w hSw; (try dsimp only at hSw); go_simp; try with_reducible rfl)
        try simp only [Act.put, List.setIfInBounds_toArray, List.set_cons_zero, List.set_cons_succ, List.getElem_toArray, List.getElem_cons_zero, List.getElem_cons_succ]
        refine wpAnyD_take (i := 4) (v := ?v4) rfl (by kernel_rfl) (by kernel_rfl) (by kernel_rfl) (by kernel_rfl) (fun _ _ _ h => h) (Or.inl ⟨by rfl, ?h4⟩) hHeld ?_
        case h4 => (intro w hSw; (try dsimp only at hSw); go_simp; try with_reducible rfl)
        try simp only [Act.put, List.setIfInBounds_toArray, List.set_cons_zero, List.set_cons_succ, List.getElem_toArray, List.getElem_cons_zero, List.getElem_cons_succ]
        refine wpAnyD_one (i := 5) (by kernel_rfl) rfl (fun K hK => ?_)
        go_simp
        refine (pos_any w.heap.size s i line frm out _ (by exact HRD.out.at_) (by omega) hfrm).mono ?_
        rintro e w1 ⟨rfl, hb⟩
        have r1 : RdAt w1 w.heap.size s i line frm out := (hb.block w.heap.size hR).trans HRD.out.at_
        have hR1 : w.heap.size < w1.heap.size := Nat.lt_of_lt_of_le hR hb.size
        have own1 := Lib.hid (own_below (W := wr.drew) HRD.out.own hb)
        have R1 := Lib.hid r1
        clear r1
        go_simp
        refine hK.out _ _ (fun _ => ?_) (fun hHeld1 => ?_)
        · exact R1.out.cells.2.2.2.2
        replace hHeld := hHeld1 rfl
        clear hHeld1
        clear hK K
        try simp only [Act.put, List.setIfInBounds_toArray, List.set_cons_zero, List.set_cons_succ, List.getElem_toArray, List.getElem_cons_zero, List.getElem_cons_succ]
        refine wpAnyD_take (i := 6) (v := ?v6) rfl (by kernel_rfl) (by kernel_rfl) (by kernel_rfl) (by kernel_rfl) (fun _ _ _ h => h) (Or.inl ⟨by rfl, ?h6⟩) hHeld ?_
        case h6 => (intro w hSw; (try dsimp only at hSw); go_simp; try with_reducible rfl)
        try simp only [Act.put, List.setIfInBounds_toArray, List.set_cons_zero, List.set_cons_succ, List.getElem_toArray, List.getElem_cons_zero, List.getElem_cons_succ]
        refine wpAnyD_one (i := 7) (by kernel_rfl) rfl (fun K hK => ?_)
        go_simp
        refine hK.out _ _ (fun _ => ?_) (fun hHeld1 => ?_)
        · exact (RdAt.cells (w := w1.alloc _) ((Below.heap_alloc w1 _ w.heap.size hR1).trans R1.out)).2.2.2.2
        replace hHeld := hHeld1 rfl
        clear hHeld1
        clear hK K
        try simp only [Act.put, List.setIfInBounds_toArray, List.set_cons_zero, List.set_cons_succ, List.getElem_toArray, List.getElem_cons_zero, List.getElem_cons_succ]
        refine wpAnyD_one (i := 8) (by kernel_rfl) rfl (fun K hK => ?_)
        refine step_append_lies _ (by rfl) _ _ _ (by rfl) w.heap.size 36 i0 _ 5 48 Tryd.underlying25 hi0 hz0 hz1 hz2 rfl (by omega) out toks.length (tokCells toks) (by rfl) (own1.out.alloc _) ⟨w1.heap.size, 0, none⟩ 1 1 (Tok.cells ⟨0, ⟨#[]⟩, 0, line, i - frm + 1⟩) (by rfl) (by rfl) (World.news_of_block (cs := (Tok.cells ⟨0, ⟨#[]⟩, 0, line, i - frm + 1⟩).toArray) (t := 36) (fr := (0, 0)) (heap_alloc_new w1 _)) (by simp [Value.oneCell', Tok.cells]) (by omega) (by simp [maxLen]; omega) (by omega) (by simp; omega) (w1.heap.size + 1) (by simp) ?_
        intro gg cap w2 hown1 hgrow hat hlt2
        have r2 : RdAt w2 w.heap.size s i line frm out := ((hgrow.block w.heap.size (by simp; omega) hne).trans (Below.heap_alloc w1 _ w.heap.size hR1)).trans R1.out
        have R2 := Lib.hid r2
        clear r2
        refine hK.out _ _ (fun _ => ?_) (fun hHeld1 => ?_)
        · exact R2.out.cells.2.2.2.2
        replace hHeld := hHeld1 rfl
        clear hHeld1
        clear hK K
        try simp only [Act.put, List.setIfInBounds_toArray, List.set_cons_zero, List.set_cons_succ, List.getElem_toArray, List.getElem_cons_zero, List.getElem_cons_succ]
        refine wpAnyD_take (i := 9) (v := ?v9) rfl (by kernel_rfl) (by kernel_rfl) (by kernel_rfl) (by kernel_rfl) (fun _ _ _ h => h) (Or.inl ⟨by rfl, ?h9⟩) hHeld ?_
        case h9 => (intro w hSw; (try dsimp only at hSw); go_simp; try with_reducible rfl)
        try simp only [Act.put, List.setIfInBounds_toArray, List.set_cons_zero, List.set_cons_succ, List.getElem_toArray, List.getElem_cons_zero, List.getElem_cons_succ]
        refine wpAnyD_take (i := 10) (v := ?v10) rfl (by kernel_rfl) (by kernel_rfl) (by kernel_rfl) (by kernel_rfl) (fun _ _ _ h => h) (Or.inl ⟨by rfl, ?h10⟩) hHeld ?_
        case h10 => (intro w hSw; (try dsimp only at hSw); go_simp; try with_reducible rfl)
        try simp only [Act.put, List.setIfInBounds_toArray, List.set_cons_zero, List.set_cons_succ, List.getElem_toArray, List.getElem_cons_zero, List.getElem_cons_succ]
        refine wpAnyD_done (by kernel_rfl) ?_ _
        have HO := Lib.hid hown1
        clear hHeld
        go_wp2_with fail
        go_ret2
        have hb1 : Below w.heap.size wr w1 := ⟨hb.os, hb.tape, hb.output, hb.size, fun k hk => hb.block k (Nat.lt_of_lt_of_le hk (Nat.le_of_lt hR))⟩
        have hb2 : Below w.heap.size wr w2 := (hb1.alloc (by omega) _).grown hgrow (by simp; omega) (fun k hk => (HRD.out.own.lt k hk).1)
        rw [hgo2.out]
        refine ⟨HBW.out.trans hb2, fun _ => ⟨_, rfl, ?_⟩, fun h => absurd h (by simp)⟩
        have e1 : (toks ++ [(⟨0, ⟨#[]⟩, 0, line, (i : Int) - frm + 1⟩ : Tok)]).length = toks.length + 1 := by simp
        have e2 : tokCells (toks ++ [(⟨0, ⟨#[]⟩, 0, line, (i : Int) - frm + 1⟩ : Tok)]) = tokCells toks ++ Tok.cells ⟨0, ⟨#[]⟩, 0, line, (i : Int) - frm + 1⟩ := by simp [tokCells]
        simp only [e1, e2]
        exact HO.out
end Go.Proofs.YtijdhfjdnndkmaaDoor
