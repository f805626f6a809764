/-
  Texts that belong together: LexLaw, LexLaw2, LexLaw3.
-/
import Derived.Test.YtijdhfjdnndkmaaLexW
/-
  Plain laws of the lexer: what it makes of a text, wherever its words stand.
-/
set_option linter.unusedVariables false
set_option linter.unusedSimpArgs false
namespace Go.Proofs.Ytijdhfjdnndkmaa
open Go.RowKit

/-- A word but for its place. -/
def Tk : Type := Int × List UInt8 × Int
def Tok.strip (t : Tok) : Int × List UInt8 × Int := (t.kind, t.text.data.toList, t.n)

def lexP : Nat → List UInt8 → Option (List (Int × List UInt8 × Int))
  | 0, _ => none
  | f + 1, l =>
    if l = [] then some []
    else if (lexNext l).code = 0 then lexP f (l.drop (lexNext l).k)
    else if (lexNext l).code = 1 then lexP f (l.drop 1)
    else if (lexNext l).code = 2 then (lexP f (l.drop (lexNext l).k)).map fun ts => ((lexNext l).kind, l.take (lexNext l).k, (lexNext l).n) :: ts
    else none
def lexL (l : List UInt8) : Option (List (Int × List UInt8 × Int)) := lexP (l.length + 1) l

theorem fits (l : List UInt8) (h0 : l ≠ []) (h : (lexNext l).code = 0 ∨ (lexNext l).code = 2) : 1 ≤ (lexNext l).k ∧ (lexNext l).k ≤ l.length := by
  cases l with
  | nil => exact absurd rfl h0
  | cons c r => exact next_fits c r h

theorem lexP_fuel : ∀ (f : Nat) (l : List UInt8), l.length + 1 ≤ f → lexP f l = lexL l := by
  intro f
  induction f using Nat.strongRecOn with
  | _ f ih =>
    intro l hl
    cases f with
    | zero => omega
    | succ f =>
      unfold lexL
      by_cases h0 : l = []
      · subst h0; simp [lexP]
      · have hlen : 0 < l.length := List.length_pos_iff.2 h0
        rw [lexP, lexP, if_neg h0, if_neg h0]
        have hdrop : ∀ k, 1 ≤ k → k ≤ l.length → lexP f (l.drop k) = lexP l.length (l.drop k) := by
          intro k h1 h2
          have e : (l.drop k).length = l.length - k := List.length_drop
          rw [ih f (by omega) _ (by omega)]
          rcases Nat.lt_or_ge l.length (f + 1) with hx | hx
          · rw [ih l.length (by omega) _ (by omega)]
          · omega
        by_cases c0 : (lexNext l).code = 0
        · have := fits l h0 (Or.inl c0)
          rw [if_pos c0, if_pos c0, hdrop _ this.1 this.2]
        · rw [if_neg c0, if_neg c0]
          by_cases c1 : (lexNext l).code = 1
          · rw [if_pos c1, if_pos c1, hdrop 1 (by omega) (by omega)]
          · rw [if_neg c1, if_neg c1]
            by_cases c2 : (lexNext l).code = 2
            · have := fits l h0 (Or.inr c2)
              rw [if_pos c2, if_pos c2, hdrop _ this.1 this.2]
            · rw [if_neg c2, if_neg c2]

theorem lexL_nil : lexL [] = some [] := rfl
theorem lexL_skip (l : List UInt8) (h0 : l ≠ []) (h : (lexNext l).code = 0) : lexL l = lexL (l.drop (lexNext l).k) := by
  have hf := fits l h0 (Or.inl h)
  conv => lhs; unfold lexL
  rw [lexP, if_neg h0, if_pos h, lexP_fuel]
  rw [List.length_drop]; omega
theorem lexL_line (l : List UInt8) (h0 : l ≠ []) (h : (lexNext l).code = 1) : lexL l = lexL (l.drop 1) := by
  have hlen : 0 < l.length := List.length_pos_iff.2 h0
  conv => lhs; unfold lexL
  rw [lexP, if_neg h0, if_neg (by omega), if_pos h, lexP_fuel]
  rw [List.length_drop]; omega
theorem lexL_word (l : List UInt8) (h0 : l ≠ []) (h : (lexNext l).code = 2) : lexL l = (lexL (l.drop (lexNext l).k)).map fun ts => ((lexNext l).kind, l.take (lexNext l).k, (lexNext l).n) :: ts := by
  have hf := fits l h0 (Or.inr h)
  conv => lhs; unfold lexL
  rw [lexP, if_neg h0, if_neg (by omega), if_neg (by omega), if_pos h, lexP_fuel]
  rw [List.length_drop]; omega
theorem lexL_bad (l : List UInt8) (h0 : l ≠ []) (h : (lexNext l).code = 3) : lexL l = none := by
  unfold lexL
  rw [lexP, if_neg h0, if_neg (by omega), if_neg (by omega), if_neg (by omega)]

/-- What lexGo makes of a text, but for the places. -/
theorem lexGo_strip (s : ByteArray) : ∀ (f i line frm : Nat) (toks : List Tok), s.size + 1 ≤ f + i → i ≤ s.size →
    (lexL (s.data.toList.drop i) = none → (lexGo s f i line frm toks).ok = false) ∧
    (∀ ts, lexL (s.data.toList.drop i) = some ts → (lexGo s f i line frm toks).ok = true ∧ (lexGo s f i line frm toks).toks.map Tok.strip = toks.map Tok.strip ++ ts ++ [(0, [], 0)]) := by
  intro f
  induction f with
  | zero => intro i line frm toks h1 h2; omega
  | succ f ih =>
    intro i line frm toks h1 h2
    have hsz : s.data.toList.length = s.size := by rw [Array.length_toList]; rfl
    rw [lexGo]
    by_cases he : s.size ≤ i
    · rw [if_pos he, drop_end s i he, lexL_nil]
      refine ⟨fun h => (by cases h), fun ts h => ?_⟩
      injection h with h
      subst h
      simp [Tok.strip]
    · rw [if_neg he]
      have h0 : s.data.toList.drop i ≠ [] := by
        intro h
        have := congrArg List.length h
        rw [List.length_drop] at this
        simp at this; omega
      have hc := next_code (s.data.toList.drop i)
      by_cases c0 : (lexNext (s.data.toList.drop i)).code = 0
      · have hf := fits _ h0 (Or.inl c0)
        rw [List.length_drop, hsz] at hf
        rw [if_pos c0, lexL_skip _ h0 c0, List.drop_drop]
        exact ih _ _ _ _ (by omega) (by omega)
      · rw [if_neg c0]
        by_cases c1 : (lexNext (s.data.toList.drop i)).code = 1
        · rw [if_pos c1, lexL_line _ h0 c1, List.drop_drop]
          exact ih _ _ _ _ (by omega) (by omega)
        · rw [if_neg c1]
          by_cases c2 : (lexNext (s.data.toList.drop i)).code = 2
          · have hf := fits _ h0 (Or.inr c2)
            rw [List.length_drop, hsz] at hf
            rw [if_pos c2, lexL_word _ h0 c2, List.drop_drop]
            have := ih (i + (lexNext (s.data.toList.drop i)).k) line frm (toks ++ [⟨(lexNext (s.data.toList.drop i)).kind, s.extract i (i + (lexNext (s.data.toList.drop i)).k), (lexNext (s.data.toList.drop i)).n, line, (i : Int) - frm + 1⟩]) (by omega) (by omega)
            refine ⟨fun h => this.1 (by simpa using h), fun ts h => ?_⟩
            rw [Option.map_eq_some_iff] at h
            obtain ⟨ts', ht, rfl⟩ := h
            refine ⟨(this.2 ts' ht).1, ?_⟩
            rw [(this.2 ts' ht).2]
            simp [Tok.strip, piece_eq]
          · rw [if_neg c2, lexL_bad _ h0 (by omega)]
            exact ⟨fun _ => rfl, fun ts h => by cases h⟩

theorem lexAll_strip (s : ByteArray) (h : s.size ≤ 65536) :
    (lexL s.data.toList = none → (lexAll s).ok = false) ∧
    (∀ ts, lexL s.data.toList = some ts → (lexAll s).ok = true ∧ (lexAll s).toks.map Tok.strip = ts ++ [(0, [], 0)]) := by
  unfold lexAll
  rw [if_neg (by omega)]
  have := lexGo_strip s (s.size + 1) 0 1 0 [] (by omega) (by omega)
  simpa using this
end Go.Proofs.Ytijdhfjdnndkmaa

/-
  Words that stand for themselves: what the laws' own function word makes is one word wherever a blank or the end follows.
-/
set_option linter.unusedVariables false
set_option linter.unusedSimpArgs false
namespace Go.Proofs.Ytijdhfjdnndkmaa
open Go.RowKit

/-- One word, ahead of a blank or the end. -/
def WordOK (W : List UInt8) : Prop :=
  W ≠ [] ∧ W.length ≤ 32 ∧ ∃ kind n : Int, ∀ r, (r = [] ∨ ∃ r', r = 32 :: r') → lexNext (W ++ r) = ⟨2, W.length, kind, n⟩

theorem takeWhile_all (p : UInt8 → Bool) : ∀ (W r : List UInt8), (∀ c ∈ W, p c = true) → (r = [] ∨ ∃ c r', r = c :: r' ∧ p c = false) → (W ++ r).takeWhile p = W
  | [], r, _, h => by
    rcases h with rfl | ⟨c, r', rfl, hc⟩
    · rfl
    · simp [hc]
  | c :: W, r, hW, h => by
    rw [List.cons_append, List.takeWhile_cons, if_pos (hW c (by simp)), takeWhile_all p W r (fun x hx => hW x (by simp [hx])) h]

theorem not_dash (c : UInt8) (r : List UInt8) (h : c ≠ 45) : ¬ Lib.hasPrefix (c :: r) [45, 45] = true := by
  unfold Lib.hasPrefix
  simp only [List.isPrefixOf_cons_cons, Bool.and_eq_true, beq_iff_eq]
  rintro ⟨h1, _⟩
  exact h h1.symm

theorem ok_letters (c : UInt8) (W : List UInt8) (h0 : isLetter c.toNat = true) (h1 : c.toNat ≠ 95) (hW : ∀ x ∈ W, (isLetter x.toNat || isDigit x.toNat) = true) (hl : W.length ≤ 31) : WordOK (c :: W) := by
  refine ⟨by simp, by simp; omega, if isKeyB (c :: W) = true then 4 else if 65 ≤ c.toNat ∧ c.toNat ≤ 90 then 3 else 2, 0, fun r hr => ?_⟩
  have hlet := h0
  unfold isLetter at h0
  simp only [Bool.or_eq_true, Bool.and_eq_true, decide_eq_true_eq, beq_iff_eq] at h0
  have hwl : wordLen ((c :: W) ++ r) = (c :: W).length := by
    unfold wordLen
    rw [takeWhile_all]
    · intro x hx
      rcases List.mem_cons.1 hx with rfl | hx
      · rw [hlet]; rfl
      · exact hW x hx
    · rcases hr with rfl | ⟨r', rfl⟩
      · exact .inl rfl
      · exact .inr ⟨32, r', rfl, by decide⟩
  have hd : isDigit c.toNat = false := by
    unfold isDigit; simp; omega
  have hh : headN ((c :: W) ++ r) = c.toNat := rfl
  have hdash : ¬ Lib.hasPrefix ((c :: W) ++ r) [45, 45] = true := not_dash c _ (by rintro rfl; revert h0; decide)
  unfold lexNext
  rw [hh, if_neg (by omega), if_neg (by omega), if_neg hdash, if_neg (by rw [hd]; simp), if_pos hlet]
  unfold wordNext
  rw [hwl, hh, List.take_left, if_neg (by simp; omega)]
  by_cases hk : isKeyB (c :: W) = true
  · rw [if_pos hk, if_pos hk]
  · rw [if_neg hk, if_neg hk]
    by_cases hg : 65 ≤ c.toNat ∧ c.toNat ≤ 90
    · rw [if_pos hg, if_pos hg]
    · rw [if_neg hg, if_neg hg, if_neg h1]

def valF : List UInt8 → Nat → Nat
  | [], v => v
  | c :: r, v => valF r (10 * v + (c.toNat - 48))
theorem valF_mono : ∀ (W : List UInt8) (v : Nat), v ≤ valF W v
  | [], v => Nat.le_refl _
  | c :: r, v => Nat.le_trans (by omega) (valF_mono r _)
theorem valF_lt : ∀ (W : List UInt8) (v : Nat), (∀ c ∈ W, isDigit c.toNat = true) → valF W v < (v + 1) * 10 ^ W.length
  | [], v, _ => by simp [valF]
  | c :: r, v, h => by
    have hc : c.toNat ≤ 57 := by have := h c (by simp); simp [isDigit] at this; exact this.2
    have := valF_lt r (10 * v + (c.toNat - 48)) (fun x hx => h x (by simp [hx]))
    refine Nat.lt_of_lt_of_le this ?_
    rw [List.length_cons, Nat.pow_succ, Nat.mul_comm (10 ^ r.length) 10, ← Nat.mul_assoc]
    exact Nat.mul_le_mul_right _ (by omega)
theorem numGo_digits : ∀ (W r : List UInt8) (n v : Nat), (∀ c ∈ W, isDigit c.toNat = true) → valF W v ≤ 2147483648 → (r = [] ∨ ∃ r', r = 32 :: r') → numGo (W ++ r) n v = some (n + W.length, valF W v)
  | [], r, n, v, _, _, hr => by
    rcases hr with rfl | ⟨r', rfl⟩
    · rfl
    · rfl
  | c :: W, r, n, v, hW, hv, hr => by
    rw [List.cons_append, numGo, if_pos (hW c (by simp)), if_neg (by have := valF_mono W (10 * v + (c.toNat - 48)); simp only [valF] at hv; omega)]
    rw [numGo_digits W r (n + 1) _ (fun x hx => hW x (by simp [hx])) hv hr]
    simp [valF]; omega

theorem ok_digits (c : UInt8) (W : List UInt8) (hW : ∀ x ∈ c :: W, isDigit x.toNat = true) (hl : W.length ≤ 8) : WordOK (c :: W) := by
  have hv : valF (c :: W) 0 ≤ 2147483648 := by
    have h1 := valF_lt (c :: W) 0 hW
    have h2 : 10 ^ (c :: W).length ≤ 10 ^ 9 := Nat.pow_le_pow_right (by omega) (by simp; omega)
    omega
  refine ⟨by simp, by simp; omega, 1, wrap32 (valF (c :: W) 0), fun r hr => ?_⟩
  have h0 := hW c (by simp)
  have hlet := h0
  unfold isDigit at h0
  simp only [Bool.and_eq_true, decide_eq_true_eq] at h0
  have hh : headN ((c :: W) ++ r) = c.toNat := rfl
  have hdash : ¬ Lib.hasPrefix ((c :: W) ++ r) [45, 45] = true := not_dash c _ (by rintro rfl; revert h0; decide)
  unfold lexNext
  rw [hh, if_neg (by omega), if_neg (by omega), if_neg hdash, if_pos hlet]
  unfold numNext
  rw [numGo_digits (c :: W) r 0 0 hW hv hr]
  simp only [Nat.zero_add]
  rw [if_neg]
  rw [List.drop_left]
  rcases hr with rfl | ⟨r', rfl⟩
  · simp
  · simp; decide

def signList : List (List UInt8) := [[40], [41], [61], [43], [45], [42], [47], [60], [62], [59], [58], [44], [124], [60, 62], [60, 61], [62, 61], [45, 62]]
theorem ok_sign : ∀ W ∈ signList, WordOK W := by
  intro W hW
  simp only [signList, List.mem_cons, List.not_mem_nil, or_false] at hW
  rcases hW with rfl | rfl | rfl | rfl | rfl | rfl | rfl | rfl | rfl | rfl | rfl | rfl | rfl | rfl | rfl | rfl | rfl
  all_goals
    refine ⟨by simp, by simp, 5, 0, fun r hr => ?_⟩
    rcases hr with rfl | ⟨r', rfl⟩ <;> rfl
theorem keys_letters : ∀ k ∈ keyList, (k.head?.any fun c => isLetter c.toNat && c.toNat != 95) = true ∧ (k.all fun c => isLetter c.toNat || isDigit c.toNat) = true ∧ k.length ≤ 20 := by decide +kernel
theorem ok_key (k : List UInt8) (hk : k ∈ keyList) : WordOK k := by
  obtain ⟨h1, h2, h3⟩ := keys_letters k hk
  cases k with
  | nil => simp at h1
  | cons c W =>
    simp only [List.head?_cons, Option.any_some, Bool.and_eq_true, bne_iff_ne] at h1
    rw [List.all_cons, Bool.and_eq_true] at h2
    exact ok_letters c W h1.1 h1.2 (List.all_eq_true.1 h2.2) (by simp at h3; omega)

def letterAt (b : Nat) : UInt8 := [97, 98, 99, 88, 89, 90, 48, 49, 57, 95].getD (b % 10) 0
def digitAt (b : Nat) : UInt8 := [48, 49, 50, 51, 52, 53, 54, 55, 56, 57].getD (b % 10) 0
/-- What the laws' function word answers. -/
def wordS (kind : Nat) (l : List Nat) : List UInt8 :=
  if kind % 5 = 0 then 66 :: (l.take 8).map letterAt
  else if kind % 5 = 1 then 55 :: (l.take 8).map digitAt
  else if kind % 5 = 2 then keyList.getD (l.length * 7 % 32) []
  else if kind % 5 = 3 then signList.getD (l.length % 17) []
  else 97 :: (l.take 8).map letterAt
theorem letterAt_ok (b : Nat) : (isLetter (letterAt b).toNat || isDigit (letterAt b).toNat) = true := by
  have h : ∀ k, k < 10 → (isLetter (([97, 98, 99, 88, 89, 90, 48, 49, 57, 95] : List UInt8).getD k 0).toNat || isDigit (([97, 98, 99, 88, 89, 90, 48, 49, 57, 95] : List UInt8).getD k 0).toNat) = true := by decide
  exact h _ (Nat.mod_lt _ (by omega))
theorem digitAt_ok (b : Nat) : isDigit (digitAt b).toNat = true := by
  have h : ∀ k, k < 10 → isDigit (([48, 49, 50, 51, 52, 53, 54, 55, 56, 57] : List UInt8).getD k 0).toNat = true := by decide
  exact h _ (Nat.mod_lt _ (by omega))
theorem getD_mem {α : Type} (l : List α) (d : α) (k : Nat) (h : k < l.length) : l.getD k d ∈ l := by
  rw [List.getD_eq_getElem?_getD, List.getElem?_eq_getElem h]; exact List.getElem_mem h
theorem wordS_ok (kind : Nat) (l : List Nat) : WordOK (wordS kind l) := by
  have hm : ∀ (f : Nat → UInt8), ((l.take 8).map f).length ≤ 8 := fun f => by rw [List.length_map]; exact List.length_take_le _ _
  unfold wordS
  split
  · refine ok_letters 66 _ (by decide) (by decide) (fun x hx => ?_) (by have := hm letterAt; omega)
    obtain ⟨b, _, rfl⟩ := List.mem_map.1 hx
    exact letterAt_ok b
  · split
    · refine ok_digits 55 _ (fun x hx => ?_) (hm digitAt)
      rcases List.mem_cons.1 hx with rfl | hx
      · decide
      · obtain ⟨b, _, rfl⟩ := List.mem_map.1 hx
        exact digitAt_ok b
    · split
      · exact ok_key _ (getD_mem _ _ _ (Nat.mod_lt _ (by omega)))
      · split
        · exact ok_sign _ (getD_mem _ _ _ (Nat.mod_lt _ (by omega)))
        · refine ok_letters 97 _ (by decide) (by decide) (fun x hx => ?_) (by have := hm letterAt; omega)
          obtain ⟨b, _, rfl⟩ := List.mem_map.1 hx
          exact letterAt_ok b

/-- A word and a blank ahead of a text. -/
theorem lexL_put (W : List UInt8) (h : WordOK W) : ∃ kind n : Int, ∀ r, lexL (W ++ 32 :: r) = (lexL r).map fun ts => (kind, W, n) :: ts := by
  obtain ⟨h0, _, kind, n, hk⟩ := h
  refine ⟨kind, n, fun r => ?_⟩
  have h1 := hk (32 :: r) (.inr ⟨r, rfl⟩)
  have hne : W ++ 32 :: r ≠ [] := by simp
  rw [lexL_word _ hne (by rw [h1]), h1]
  simp only [List.drop_left, List.take_left]
  rw [lexL_skip (32 :: r) (by simp) (by rfl)]
  rfl
theorem lexL_last (W : List UInt8) (h : WordOK W) : ∃ kind n : Int, (∀ r, lexL (W ++ 32 :: r) = (lexL r).map fun ts => (kind, W, n) :: ts) ∧ lexL W = some [(kind, W, n)] := by
  obtain ⟨h0, _, kind, n, hk⟩ := h
  refine ⟨kind, n, fun r => ?_, ?_⟩
  · have h1 := hk (32 :: r) (.inr ⟨r, rfl⟩)
    have hne : W ++ 32 :: r ≠ [] := by simp
    rw [lexL_word _ hne (by rw [h1]), h1]
    simp only [List.drop_left, List.take_left]
    rw [lexL_skip (32 :: r) (by simp) (by rfl)]
    rfl
  · have h1 := hk [] (.inl rfl)
    rw [List.append_nil] at h1
    rw [lexL_word _ h0 (by rw [h1]), h1]
    simp [lexL_nil]
end Go.Proofs.Ytijdhfjdnndkmaa

/-
  Blanks between words change no word: the plain law.
-/
set_option linter.unusedVariables false
set_option linter.unusedSimpArgs false
namespace Go.Proofs.Ytijdhfjdnndkmaa
open Go.RowKit

/-- A text that ends where a word may begin: what follows is read as if it stood alone. -/
def Reads (T : List UInt8) (ts : List (Int × List UInt8 × Int)) : Prop := ∀ r, lexL (T ++ r) = (lexL r).map fun xs => ts ++ xs
theorem reads_nil : Reads [] [] := fun r => by cases h : lexL r <;> simp [h]
theorem reads_whole {T : List UInt8} {ts : List (Int × List UInt8 × Int)} (h : Reads T ts) : lexL T = some ts := by
  have := h []
  rw [List.append_nil, lexL_nil] at this
  simpa using this

def blanksL : List (List UInt8) := [[32], [9], [10], [32, 32], [32, 45, 45, 32, 97, 32, 114, 101, 109, 97, 114, 107, 10], [10, 10, 9]]
theorem gap_ok : ∀ g ∈ blanksL, ∀ r, lexL (g ++ r) = lexL r := by
  intro g hg r
  simp only [blanksL, List.mem_cons, List.not_mem_nil, or_false] at hg
  rcases hg with rfl | rfl | rfl | rfl | rfl | rfl
  · exact lexL_skip (32 :: r) (by simp) rfl
  · exact lexL_skip (9 :: r) (by simp) rfl
  · exact lexL_line (10 :: r) (by simp) rfl
  · exact (lexL_skip (32 :: 32 :: r) (by simp) rfl).trans (lexL_skip (32 :: r) (by simp) rfl)
  · refine (lexL_skip (32 :: 45 :: 45 :: 32 :: 97 :: 32 :: 114 :: 101 :: 109 :: 97 :: 114 :: 107 :: 10 :: r) (by simp) rfl).trans ?_
    refine (lexL_skip (45 :: 45 :: 32 :: 97 :: 32 :: 114 :: 101 :: 109 :: 97 :: 114 :: 107 :: 10 :: r) (by simp) rfl).trans ?_
    exact lexL_line (10 :: r) (by simp) rfl
  · exact ((lexL_line (10 :: 10 :: 9 :: r) (by simp) rfl).trans (lexL_line (10 :: 9 :: r) (by simp) rfl)).trans (lexL_skip (9 :: r) (by simp) rfl)

/-- A word more, in both texts, with a gap in the second. -/
theorem reads_more {T U W g : List UInt8} {ts : List (Int × List UInt8 × Int)} (hT : Reads T ts) (hU : Reads U ts) (hW : WordOK W) (hg : g ∈ blanksL) :
    ∃ t, Reads (T ++ (W ++ [32])) (ts ++ [t]) ∧ Reads (U ++ ((W ++ [32]) ++ g)) (ts ++ [t]) := by
  obtain ⟨kind, n, hk⟩ := lexL_put W hW
  refine ⟨(kind, W, n), fun r => ?_, fun r => ?_⟩
  · have e : (T ++ (W ++ [32])) ++ r = T ++ (W ++ 32 :: r) := by simp
    rw [e, hT, hk]
    cases h : lexL r <;> simp [h]
  · have e : (U ++ ((W ++ [32]) ++ g)) ++ r = U ++ (W ++ 32 :: (g ++ r)) := by simp
    rw [e, hU, hk, gap_ok g hg r]
    cases h : lexL r <;> simp [h]

def blankS (k : Nat) : ByteArray := ⟨(blanksL.getD k []).toArray⟩
theorem blankS_data (k : Nat) : (blankS k).data.toList = blanksL.getD k [] := by simp [blankS]
theorem blankS_mem (k : Nat) (hk : k < 6) : (blankS k).data.toList ∈ blanksL := by rw [blankS_data]; exact getD_mem _ _ _ hk
theorem blank_sizes : ∀ k, k < 6 → (blanksL.getD k []).length ≤ 13 := by decide
theorem blankS_size (k : Nat) (hk : k < 6) : (blankS k).size ≤ 13 := by
  have h := blank_sizes k hk
  rw [← blankS_data, Array.length_toList] at h
  exact h
theorem size_len (s : ByteArray) : s.data.toList.length = s.size := by rw [Array.length_toList]; rfl
end Go.Proofs.Ytijdhfjdnndkmaa
