/-
 What the lexer computes, as plain functions on lists of bytes. No program in sight.
-/
-- halved
import Derived.RowKit
import Derived.Lib.IndexMore
import Derived.Lib.Strings
import Derived.Lib.IndexBytes
set_option linter.unusedVariables false
namespace Go.Proofs.YtohgdopfjkjppaaGreatDoor
open Go.RowKit

def isDigit (c : Nat) : Bool := 48 ≤ c && c ≤ 57
def isLetter (c : Nat) : Bool := (97 ≤ c && c ≤ 122) || (65 ≤ c && c ≤ 90) || c == 95

def numGo : List UInt8 → Nat → Nat → Option (Nat × Nat)
 | [], n, v => some (n, v)
 | c :: r, n, v => if isDigit c.toNat = true then (if 2147483648 < 10 * v + (c.toNat - 48) then none else numGo r (n + 1) (10 * v + (c.toNat - 48))) else some (n, v)

def wordLen (l : List UInt8) : Nat := (l.takeWhile fun c => isLetter c.toNat || isDigit c.toNat).length

structure Next where
 code : Nat
 k : Nat
 kind : Int
 n : Int

def numNext (l : List UInt8) : Next :=
 match numGo l 0 0 with
 | none => ⟨3, 0, 3, 0⟩
 | some (n, v) => if (l.drop n).head?.any (fun c => isLetter c.toNat) = true then ⟨3, 0, 1, 0⟩ else ⟨2, n, 1, wrap32 v⟩

theorem drop_cons (s : ByteArray) (k : Nat) (h : k < s.size) : s.data.toList.drop k = s[k] :: s.data.toList.drop (k + 1) := by
 rw [List.drop_eq_getElem_cons (by simpa using h)]; rfl
theorem drop_end (s : ByteArray) (k : Nat) (h : s.size ≤ k) : s.data.toList.drop k = [] := List.drop_eq_nil_of_le (by simpa using h)

theorem numNext_limit (s : ByteArray) (i : Nat) (h : numGo (s.data.toList.drop i) 0 0 = none) : numNext (s.data.toList.drop i) = ⟨3, 0, 3, 0⟩ := by
 unfold numNext; rw [h]
theorem numNext_letter (s : ByteArray) (i n v : Nat) (h : numGo (s.data.toList.drop i) 0 0 = some (n, v)) (hl : i + n < s.size) (hlet : isLetter (s[i + n].toNat) = true) :
    numNext (s.data.toList.drop i) = ⟨3, 0, 1, 0⟩ := by
 unfold numNext; rw [h]
 simp only [List.drop_drop]
 rw [drop_cons s (i + n) hl]
 simp [hlet]
theorem numNext_put (s : ByteArray) (i n v : Nat) (h : numGo (s.data.toList.drop i) 0 0 = some (n, v)) (hl : i + n < s.size) (hlet : isLetter (s[i + n].toNat) = false) :
    numNext (s.data.toList.drop i) = ⟨2, n, 1, wrap32 v⟩ := by
 unfold numNext; rw [h]
 simp only [List.drop_drop]
 rw [drop_cons s (i + n) hl]
 simp [hlet]
theorem numNext_end (s : ByteArray) (i n v : Nat) (h : numGo (s.data.toList.drop i) 0 0 = some (n, v)) (hl : s.size ≤ i + n) :
    numNext (s.data.toList.drop i) = ⟨2, n, 1, wrap32 v⟩ := by
 unfold numNext; rw [h]
 simp only [List.drop_drop]
 rw [drop_end s (i + n) hl]
 simp

def keyList : List (List UInt8) := [[97, 110, 100], [97, 117, 116, 111, 109, 97, 116, 111, 110], [98, 111, 111, 108], [99, 111, 110, 116, 105, 110, 117, 101], [100, 111], [101, 108, 115, 101], [101, 110, 100], [101, 118, 101, 114, 121], [102, 97, 108, 115, 101], [102, 98, 121], [105, 102], [105, 110, 116], [108, 97, 115, 116], [108, 101, 116], [109, 101, 114, 103, 101], [109, 111, 100], [110, 111, 100, 101], [110, 111, 116], [111, 114], [112, 114, 101], [114, 101, 115, 101, 116], [114, 101, 116, 117, 114, 110, 115], [115, 119, 105, 116, 99, 104], [116, 101, 108], [116, 104, 101, 110], [116, 114, 117, 101], [116, 121, 112, 101], [117, 110, 108, 101, 115, 115], [117, 110, 116, 105, 108], [118, 97, 114], [119, 104, 101, 110], [120, 111, 114]]
def isKeyB (l : List UInt8) : Bool := keyList.contains l
def keysL : List UInt8 := 32 :: keyList.flatMap (fun k => k ++ [32])
def hasKey (l : List UInt8) : Bool := Lib.contains keysL (32 :: (l ++ [32]))
def hasBlank (l : List UInt8) : Bool := decide (0 ≤ Lib.indexByte l 32)
def isKeyGo (l : List UInt8) : Bool := (!l.isEmpty && hasKey l) && !hasBlank l

theorem indexByte_neg : ∀ (l : List UInt8) (c : UInt8), 0 ≤ Lib.indexByte l c ↔ c ∈ l
 | [], c => by simp [Lib.indexByte]
 | b :: l, c => by
  have ih := indexByte_neg l c
  have hg := Lib.indexByte_ge l c
  unfold Lib.indexByte
  by_cases h : b = c
  ·subst h; simp
  ·have hb : (b == c) = false := by simpa using h
   simp only [hb, Bool.false_eq_true, if_false, List.mem_cons]
   by_cases h2 : Lib.indexByte l c = -1
   ·simp only [h2]
    have : ¬ c ∈ l := fun hc => by have := ih.2 hc; omega
    simp [this, Ne.symm h]
   ·have h3 : (Lib.indexByte l c == -1) = false := by simpa using h2
    simp only [h3, Bool.false_eq_true, if_false]
    have : c ∈ l := ih.1 (by omega)
    simp [this]; omega

theorem prefix_run : ∀ (l r : List UInt8), ¬ (32 : UInt8) ∈ l → (l ++ [32]).isPrefixOf r = true → l = r.takeWhile (· != 32)
 | [], r, _, h => by
  cases r with
  | nil => rfl
  | cons a t =>
   have : (32 : UInt8) = a := by simpa using h
   subst this; rfl
 | x :: l, r, hx, h => by
  cases r with
  | nil => simp at h
  | cons a t =>
   simp only [List.cons_append, List.isPrefixOf_cons_cons, Bool.and_eq_true, beq_iff_eq] at h
   obtain ⟨rfl, h⟩ := h
   have h1 : ¬ (32 : UInt8) ∈ l := fun hm => hx (List.mem_cons_of_mem _ hm)
   have h2 : (x != 32) = true := by
    rw [bne_iff_ne]; rintro rfl; exact hx (List.mem_cons_self)
   rw [List.takeWhile_cons, if_pos h2, ← prefix_run l t h1 h]

theorem keys_runs : ∀ i, i < 231 → keysL[i]? = some 32 → (keysL.drop (i + 1)).takeWhile (· != 32) = [] ∨ isKeyB ((keysL.drop (i + 1)).takeWhile (· != 32)) = true := by
 decide +kernel
theorem keys_len : keysL.length = 165 := by decide +kernel
theorem keys_each : ∀ k ∈ keyList, isKeyGo k = true := by decide +kernel

theorem isKeyGo_eq (l : List UInt8) : isKeyGo l = isKeyB l := by
 cases hB : isKeyB l
 ·cases hG : isKeyGo l
  ·rfl
  ·exfalso
   unfold isKeyGo hasKey hasBlank at hG
   simp only [Bool.and_eq_true, Bool.not_eq_true', decide_eq_false_iff_not, List.isEmpty_eq_false_iff] at hG
   obtain ⟨⟨h0, h1⟩, h2⟩ := hG
   rw [indexByte_neg] at h2
   have h1' : 0 ≤ Lib.index keysL (32 :: (l ++ [32])) := by simpa [Lib.contains] using h1
   rcases Lib.index_spec keysL (32 :: (l ++ [32])) with ⟨h3, _⟩ | ⟨i, _, hi, h3, _⟩
   ·omega
   ·unfold Lib.occAt at h3
    have hi' : i < 231 := by rw [keys_len] at hi; omega
    cases hd : keysL.drop i with
    | nil => rw [hd] at h3; simp at h3
    | cons a t =>
     rw [hd] at h3
     simp only [List.isPrefixOf_cons_cons, Bool.and_eq_true, beq_iff_eq] at h3
     obtain ⟨rfl, h3⟩ := h3
     have ht : keysL.drop (i + 1) = t := by rw [← List.drop_drop, hd]; rfl
     have hg : keysL[i]? = some 32 := by
      have := congrArg (fun l => l[0]?) hd
      simpa using this
     have hl := prefix_run l t h2 h3
     rcases keys_runs i hi' hg with h4 | h4
     ·rw [ht, ← hl] at h4; exact h0 h4
     ·rw [ht, ← hl, hB] at h4; cases h4
 ·have : l ∈ keyList := by simpa [isKeyB] using hB
  rw [keys_each l this]

def headN (l : List UInt8) : Nat := (l.head?.getD 0).toNat
def wordNext (l : List UInt8) : Next :=
 if 32 < wordLen l then ⟨3, 0, 3, 0⟩ else if isKeyB (l.take (wordLen l)) = true then ⟨2, wordLen l, 4, 0⟩
 else if 65 ≤ headN l ∧ headN l ≤ 90 then ⟨2, wordLen l, 3, 0⟩ else if headN l = 95 then ⟨3, 0, 1, 0⟩ else ⟨2, wordLen l, 2, 0⟩

theorem wordLen_cons (c : UInt8) (l : List UInt8) (h : (isLetter c.toNat || isDigit c.toNat) = true) : wordLen (c :: l) = wordLen l + 1 := by
 unfold wordLen; rw [List.takeWhile_cons, if_pos h]; rfl
theorem wordLen_stop (c : UInt8) (l : List UInt8) (h : (isLetter c.toNat || isDigit c.toNat) = false) : wordLen (c :: l) = 0 := by
 unfold wordLen; rw [List.takeWhile_cons, if_neg (by rw [h]; simp)]; rfl

def twoSigns : List (List UInt8) := [[60, 62], [60, 61], [62, 61], [45, 62]]
def oneSigns : List UInt8 := [40, 41, 61, 43, 45, 42, 47, 60, 62, 59, 58, 44, 124]
def signNext (l : List UInt8) : Next :=
 if twoSigns.any (fun p => Lib.hasPrefix l p) = true then ⟨2, 2, 5, 0⟩ else if (l.head?.any fun c => oneSigns.contains c) = true then ⟨2, 1, 5, 0⟩ else ⟨3, 0, 1, 0⟩

def lexNext (l : List UInt8) : Next :=
 if headN l = 10 then ⟨1, 1, 0, 0⟩ else if headN l = 32 ∨ headN l = 9 then ⟨0, 1, 0, 0⟩
 else if Lib.hasPrefix l [45, 45] = true then ⟨0, (l.takeWhile fun c => c != 10).length, 0, 0⟩
 else if isDigit (headN l) = true then numNext l else if isLetter (headN l) = true then wordNext l else signNext l

end Go.Proofs.YtohgdopfjkjppaaGreatDoor
