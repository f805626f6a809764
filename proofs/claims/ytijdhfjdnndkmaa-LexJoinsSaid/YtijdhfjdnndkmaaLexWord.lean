/-
  The walk over the laws' own function word.
-/
import Derived.Test.YtijdhfjdnndkmaaLexAw
import Derived.Test.YtijdhfjdnndkmaaLexM2
import Derived.WalkKit
import Derived.WalkSpells
import Derived.WalkLawsBesides
import Derived.Lib.Hide
import Derived.Deep.Light
import Derived.Deep.QuietTactic
import Derived.BigQuiet
import Derived.Deep.RegionHeld3
import Derived.Deep.AppendLies
set_option linter.unusedVariables false
set_option linter.unusedSimpArgs false
namespace Go.Proofs.Ytijdhfjdnndkmaa
open Go.RowKit


/-- A slice of bytes that reads as a list. -/
def Byt (w : World) (A : Option Addr) (n : Nat) (l : List Nat) : Prop :=
  l.length = n ∧ ∀ k (h : k < l.length), ∃ ad, A = some ad ∧ w.cell? (ad.add k) = some (.int .u8 (l[k] : Nat)) ∧ l[k] < 256
theorem block_add (a : Addr) (n : Nat) : (a.add n).block = a.block := by unfold Addr.add; split <;> rfl
theorem Byt.below {w w' : World} {A : Option Addr} {n : Nat} {l : List Nat} (h : Byt w A n l) {B : Nat} (hB : w.heap.size ≤ B) (hb : Below B w w') : Byt w' A n l := by
  refine ⟨h.1, fun k hk => ?_⟩
  obtain ⟨ad, h1, h2, h3⟩ := h.2 k hk
  exact ⟨ad, h1, (hb.cell (Nat.lt_of_lt_of_le (World.block_lt_of_cell? w _ h2) hB)).trans h2, h3⟩
theorem Byt.drawn {w w' : World} {A : Option Addr} {n : Nat} {l : List Nat} (h : Byt w A n l) (hD : Drawn w w') : Byt w' A n l := by
  obtain ⟨k, rfl⟩ := hD; exact h

def lettersB : ByteArray := ⟨#[97, 98, 99, 88, 89, 90, 48, 49, 57, 95]⟩
def digitsB : ByteArray := ⟨#[48, 49, 50, 51, 52, 53, 54, 55, 56, 57]⟩
theorem letters_at : ∀ x, x < 10 → (lettersB.extract x (x + 1)).data.toList = [([97, 98, 99, 88, 89, 90, 48, 49, 57, 95] : List UInt8).getD x 0] := by decide +kernel
theorem digits_at : ∀ x, x < 10 → (digitsB.extract x (x + 1)).data.toList = [([48, 49, 50, 51, 52, 53, 54, 55, 56, 57] : List UInt8).getD x 0] := by decide +kernel
theorem take_more (l : List Nat) (k : Nat) (hk : k < l.length) (f : Nat → UInt8) : (l.take (k + 1)).map f = (l.take k).map f ++ [f l[k]] := by
  rw [List.take_succ_eq_append_getElem hk, List.map_append]; rfl
theorem retStr {a b : ByteArray} (h : a = b) : Ending.returned (.string a) = .returned (.string b) := by rw [h]

def WordP (w : World) (W : List UInt8) (e : Ending) (w' : World) : Prop := ∃ S : ByteArray, e = .returned (.string S) ∧ S.data.toList = W ∧ Below w.heap.size w w'

set_option maxHeartbeats 4000000 in
theorem wordf_any (kind : Nat) (A : Option Addr) (n cap : Nat) (l : List Nat) (w : World) (hA : Byt w A n l) (hk : kind < 256) (hn : n ≤ 140737488355328) :
    Calls Try.prog 10 #[.int .u8 kind, .slice A n cap] w (WordP w (wordS kind l)) := by
  have HA := Lib.hid hA
  have h5 : kind % 5 = 0 ∨ kind % 5 = 1 ∨ kind % 5 = 2 ∨ kind % 5 = 3 ∨ kind % 5 = 4 := by omega
  clear hA
  rcases h5 with h5 | h5 | h5 | h5 | h5
  · have e5 : (kind : Int) % 5 = 0 := by omega
    have HS := Lib.hid (show wordS kind l = 66 :: (l.take 8).map letterAt by unfold wordS; rw [if_pos h5])
    clear h5
    go_enter Try.func10, Try.ntmps10
    go_wp2_with fail
    go_loopw [6, 9] (fun sv iv wr => ∃ (S : ByteArray) (k : Nat), Drawn w wr ∧ sv = .string S ∧ iv = .int .i64 k ∧ k ≤ 8 ∧ k ≤ n ∧ S.size = k + 1 ∧ Hid (S.data.toList = 66 :: (l.take k).map letterAt)) (fun _ iv _ => 8 - (intOf iv).toNat)
    case atStart => exact ⟨_, 0, Drawn.refl _, rfl, rfl, by omega, by omega, rfl, Lib.hid rfl⟩
    case round =>
      obtain ⟨S, k, hD, rfl, rfl, hk8, hkn, hsz, hS⟩ := hrel
      have q1 : (0 : Int) ≤ (k : Int) := Int.natCast_nonneg _
      by_cases hlt : k < n ∧ k < 8
      · obtain ⟨hlt1, hlt2⟩ := hlt
        have hln : k < l.length := by have := HA.out.1; omega
        obtain ⟨ad, rfl, hcell, hb⟩ := (HA.out.drawn hD).2 k hln
        have hx : Hid ((l.take (k + 1)).map letterAt = (l.take k).map letterAt ++ [letterAt l[k]]) := Lib.hid (take_more l k hln letterAt)
        obtain ⟨b, hbe⟩ : ∃ b, l[k] = b := ⟨_, rfl⟩
        rw [hbe] at hcell hb
        have HBE := Lib.hid hbe
        clear hbe
        obtain ⟨x, hxm⟩ : ∃ x : Nat, (b : Int) % 10 = (x : Int) := ⟨b % 10, by omega⟩
        have hx10 : x < 10 := by omega
        have q2 : (0 : Int) ≤ (x : Int) := Int.natCast_nonneg _
        have q3 : (x : Int) ≤ (x : Int) + 1 := by omega
        have q4 : (x : Int) + 1 ≤ 10 := by omega
        have q5 : ((x : Int) + 1).toNat = x + 1 := by omega
        have q6 : IntKind.i64.wrap ((x : Int) + 1) = (x : Int) + 1 := IntWalk.i64_in _ (by omega)
        have hp := Lib.hid (letters_at x hx10)
        have hmod : b % 10 = x := by omega
        have HM := Lib.hid hmod
        clear hmod
        have q7 : (k : Int) < (n : Int) := by omega
        go_wp2_with fail
        go_quiet (fail)
        go_wp2_with fail
        have hls : (lettersB.extract x (x + 1)).size = 1 := by
          have h := congrArg List.length hp.out
          rw [Array.length_toList] at h
          exact h
        have hlt8 : letterAt l[k] = ((lettersB.extract x (x + 1)).data.toList).headD 0 := by rw [hp.out, HBE.out]; unfold letterAt; rw [HM.out]; rfl
        have hdat : (S ++ lettersB.extract x (x + 1)).data.toList = 66 :: (l.take (k + 1)).map letterAt := by
          rw [ByteArray.data_append, Array.toList_append, hS.out, hx.out, hlt8, hp.out]; rfl
        exact ⟨⟨S ++ lettersB.extract x (x + 1), k + 1, hD.drewN _, rfl, by go_num, by omega, by omega, by rw [ByteArray.size_append]; omega, Lib.hid hdat⟩, by simp only [intOf]; omega⟩
      · have hend : Hid (S.data.toList = wordS kind l) := Lib.hid (by
          rw [hS.out, HS.out]
          have hl := HA.out.1
          have e : l.take k = l.take 8 := by
            by_cases h8 : k = 8
            · rw [h8]
            · rw [List.take_of_length_le (by omega), List.take_of_length_le (by omega)]
          rw [e])
        by_cases hkn2 : k < n
        all_goals
          go_wp2_with fail
          go_ret
          exact ⟨S, rfl, hend.out, hD.below _⟩
  · have e5 : (kind : Int) % 5 = 1 := by omega
    have HS := Lib.hid (show wordS kind l = 55 :: (l.take 8).map digitAt by unfold wordS; rw [if_neg (by omega), if_pos h5])
    clear h5
    go_enter Try.func10, Try.ntmps10
    go_wp2_with fail
    go_loopw [6, 9] (fun sv iv wr => ∃ (S : ByteArray) (k : Nat), Drawn w wr ∧ sv = .string S ∧ iv = .int .i64 k ∧ k ≤ 8 ∧ k ≤ n ∧ S.size = k + 1 ∧ Hid (S.data.toList = 55 :: (l.take k).map digitAt)) (fun _ iv _ => 8 - (intOf iv).toNat)
    case atStart => exact ⟨_, 0, Drawn.refl _, rfl, rfl, by omega, by omega, rfl, Lib.hid rfl⟩
    case round =>
      obtain ⟨S, k, hD, rfl, rfl, hk8, hkn, hsz, hS⟩ := hrel
      have q1 : (0 : Int) ≤ (k : Int) := Int.natCast_nonneg _
      by_cases hlt : k < n ∧ k < 8
      · obtain ⟨hlt1, hlt2⟩ := hlt
        have hln : k < l.length := by have := HA.out.1; omega
        obtain ⟨ad, rfl, hcell, hb⟩ := (HA.out.drawn hD).2 k hln
        have hx : Hid ((l.take (k + 1)).map digitAt = (l.take k).map digitAt ++ [digitAt l[k]]) := Lib.hid (take_more l k hln digitAt)
        obtain ⟨b, hbe⟩ : ∃ b, l[k] = b := ⟨_, rfl⟩
        rw [hbe] at hcell hb
        have HBE := Lib.hid hbe
        clear hbe
        obtain ⟨x, hxm⟩ : ∃ x : Nat, (b : Int) % 10 = (x : Int) := ⟨b % 10, by omega⟩
        have hx10 : x < 10 := by omega
        have q2 : (0 : Int) ≤ (x : Int) := Int.natCast_nonneg _
        have q3 : (x : Int) ≤ (x : Int) + 1 := by omega
        have q4 : (x : Int) + 1 ≤ 10 := by omega
        have q5 : ((x : Int) + 1).toNat = x + 1 := by omega
        have q6 : IntKind.i64.wrap ((x : Int) + 1) = (x : Int) + 1 := IntWalk.i64_in _ (by omega)
        have hp := Lib.hid (digits_at x hx10)
        have hmod : b % 10 = x := by omega
        have HM := Lib.hid hmod
        clear hmod
        have q7 : (k : Int) < (n : Int) := by omega
        go_wp2_with fail
        go_quiet (fail)
        go_wp2_with fail
        have hls : (digitsB.extract x (x + 1)).size = 1 := by
          have h := congrArg List.length hp.out
          rw [Array.length_toList] at h
          exact h
        have hlt8 : digitAt l[k] = ((digitsB.extract x (x + 1)).data.toList).headD 0 := by rw [hp.out, HBE.out]; unfold digitAt; rw [HM.out]; rfl
        have hdat : (S ++ digitsB.extract x (x + 1)).data.toList = 55 :: (l.take (k + 1)).map digitAt := by
          rw [ByteArray.data_append, Array.toList_append, hS.out, hx.out, hlt8, hp.out]; rfl
        exact ⟨⟨S ++ digitsB.extract x (x + 1), k + 1, hD.drewN _, rfl, by go_num, by omega, by omega, by rw [ByteArray.size_append]; omega, Lib.hid hdat⟩, by simp only [intOf]; omega⟩
      · have hend : Hid (S.data.toList = wordS kind l) := Lib.hid (by
          rw [hS.out, HS.out]
          have hl := HA.out.1
          have e : l.take k = l.take 8 := by
            by_cases h8 : k = 8
            · rw [h8]
            · rw [List.take_of_length_le (by omega), List.take_of_length_le (by omega)]
          rw [e])
        by_cases hkn2 : k < n
        all_goals
          go_wp2_with fail
          go_ret
          exact ⟨S, rfl, hend.out, hD.below _⟩
  · have e5 : (kind : Int) % 5 = 2 := by omega
    have hl := HA.out.1
    have HS := Lib.hid (show wordS kind l = keyList.getD (n * 7 % 32) [] by unfold wordS; rw [if_neg (by omega), if_neg (by omega), if_pos h5, hl])
    clear h5 hl
    obtain ⟨k, hk⟩ : ∃ k, n * 7 % 32 = k := ⟨_, rfl⟩
    have hk2 : (n : Int) * 7 % 32 = (k : Int) := by omega
    have hlt : k < 32 := by omega
    have q1 : (0 : Int) ≤ (k : Int) := Int.natCast_nonneg _
    have HKK := Lib.hid hk
    clear hk
    go_enter Try.func10, Try.ntmps10
    go_wp2_with fail
    refine (keys_any _).mono ?_
    rintro e w1 ⟨rfl, hb, hkk⟩
    have hcell : w1.cell? ⟨w.heap.size, k, none⟩ = some (.string (keyS k)) := by
      rw [cell_of_row w1 w.heap.size k _ _ _ hkk]; exact keysV_at k hlt
    have HB := Lib.hid hb
    clear hb hkk
    go_wp2_with fail
    go_ret
    exact ⟨keyS k, rfl, by rw [keyS_data, HS.out, HKK.out], HB.out⟩
  · have e5 : (kind : Int) % 5 = 3 := by omega
    have hl := HA.out.1
    have HS := Lib.hid (show wordS kind l = signList.getD (n % 17) [] by unfold wordS; rw [if_neg (by omega), if_neg (by omega), if_neg (by omega), if_pos h5, hl])
    clear h5 hl
    have hk17 : n % 17 = 0 ∨ n % 17 = 1 ∨ n % 17 = 2 ∨ n % 17 = 3 ∨ n % 17 = 4 ∨ n % 17 = 5 ∨ n % 17 = 6 ∨ n % 17 = 7 ∨ n % 17 = 8 ∨ n % 17 = 9 ∨ n % 17 = 10 ∨ n % 17 = 11 ∨ n % 17 = 12 ∨ n % 17 = 13 ∨ n % 17 = 14 ∨ n % 17 = 15 ∨ n % 17 = 16 := by omega
    rcases hk17 with hk | hk | hk | hk | hk | hk | hk | hk | hk | hk | hk | hk | hk | hk | hk | hk | hk
    all_goals
      rw [hk] at HS
      have e18 : (n : Int) % 17 = ((n % 17 : Nat) : Int) := by omega
      rw [hk] at e18
      clear hk
      go_enter Try.func10, Try.ntmps10
      go_wp2_with fail
      go_ret
      exact ⟨_, rfl, HS.out.symm, (Below.refl _ _).alloc (Nat.le_refl _) _⟩
  · have e5 : (kind : Int) % 5 = 4 := by omega
    have HS := Lib.hid (show wordS kind l = 97 :: (l.take 8).map letterAt by unfold wordS; rw [if_neg (by omega), if_neg (by omega), if_neg (by omega), if_neg (by omega)])
    clear h5
    go_enter Try.func10, Try.ntmps10
    go_wp2_with fail
    go_loopw [6, 9] (fun sv iv wr => ∃ (S : ByteArray) (k : Nat), Drawn w wr ∧ sv = .string S ∧ iv = .int .i64 k ∧ k ≤ 8 ∧ k ≤ n ∧ S.size = k + 1 ∧ Hid (S.data.toList = 97 :: (l.take k).map letterAt)) (fun _ iv _ => 8 - (intOf iv).toNat)
    case atStart => exact ⟨_, 0, Drawn.refl _, rfl, rfl, by omega, by omega, rfl, Lib.hid rfl⟩
    case round =>
      obtain ⟨S, k, hD, rfl, rfl, hk8, hkn, hsz, hS⟩ := hrel
      have q1 : (0 : Int) ≤ (k : Int) := Int.natCast_nonneg _
      by_cases hlt : k < n ∧ k < 8
      · obtain ⟨hlt1, hlt2⟩ := hlt
        have hln : k < l.length := by have := HA.out.1; omega
        obtain ⟨ad, rfl, hcell, hb⟩ := (HA.out.drawn hD).2 k hln
        have hx : Hid ((l.take (k + 1)).map letterAt = (l.take k).map letterAt ++ [letterAt l[k]]) := Lib.hid (take_more l k hln letterAt)
        obtain ⟨b, hbe⟩ : ∃ b, l[k] = b := ⟨_, rfl⟩
        rw [hbe] at hcell hb
        have HBE := Lib.hid hbe
        clear hbe
        obtain ⟨x, hxm⟩ : ∃ x : Nat, (b : Int) % 10 = (x : Int) := ⟨b % 10, by omega⟩
        have hx10 : x < 10 := by omega
        have q2 : (0 : Int) ≤ (x : Int) := Int.natCast_nonneg _
        have q3 : (x : Int) ≤ (x : Int) + 1 := by omega
        have q4 : (x : Int) + 1 ≤ 10 := by omega
        have q5 : ((x : Int) + 1).toNat = x + 1 := by omega
        have q6 : IntKind.i64.wrap ((x : Int) + 1) = (x : Int) + 1 := IntWalk.i64_in _ (by omega)
        have hp := Lib.hid (letters_at x hx10)
        have hmod : b % 10 = x := by omega
        have HM := Lib.hid hmod
        clear hmod
        have q7 : (k : Int) < (n : Int) := by omega
        go_wp2_with fail
        go_quiet (fail)
        go_wp2_with fail
        have hls : (lettersB.extract x (x + 1)).size = 1 := by
          have h := congrArg List.length hp.out
          rw [Array.length_toList] at h
          exact h
        have hlt8 : letterAt l[k] = ((lettersB.extract x (x + 1)).data.toList).headD 0 := by rw [hp.out, HBE.out]; unfold letterAt; rw [HM.out]; rfl
        have hdat : (S ++ lettersB.extract x (x + 1)).data.toList = 97 :: (l.take (k + 1)).map letterAt := by
          rw [ByteArray.data_append, Array.toList_append, hS.out, hx.out, hlt8, hp.out]; rfl
        exact ⟨⟨S ++ lettersB.extract x (x + 1), k + 1, hD.drewN _, rfl, by go_num, by omega, by omega, by rw [ByteArray.size_append]; omega, Lib.hid hdat⟩, by simp only [intOf]; omega⟩
      · have hend : Hid (S.data.toList = wordS kind l) := Lib.hid (by
          rw [hS.out, HS.out]
          have hl := HA.out.1
          have e : l.take k = l.take 8 := by
            by_cases h8 : k = 8
            · rw [h8]
            · rw [List.take_of_length_le (by omega), List.take_of_length_le (by omega)]
          rw [e])
        by_cases hkn2 : k < n
        all_goals
          go_wp2_with fail
          go_ret
          exact ⟨S, rfl, hend.out, hD.below _⟩
end Go.Proofs.Ytijdhfjdnndkmaa
