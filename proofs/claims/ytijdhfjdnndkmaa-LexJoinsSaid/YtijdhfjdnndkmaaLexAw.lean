/-
  The walks over the law's own awake, the reference's keys, and what reads a row of words.
-/
import Derived.Test.YtijdhfjdnndkmaaLexX
import Derived.WalkKit
import Derived.WalkSpells
import Derived.WalkLawsBesides
import Derived.Lib.Hide
import Derived.Deep.Light
import Derived.Deep.QuietTactic
import Derived.BigQuiet
import Derived.Deep.RegionHeld3
import Derived.Deep.AppendLies
set_option linter.unusedVariables false
set_option linter.unusedSimpArgs false
namespace Go.Proofs.Ytijdhfjdnndkmaa
open Go.RowKit

def awakeR : LexR := ⟨true, [⟨2, ⟨#[120]⟩, 0, 1, 1⟩, ⟨5, ⟨#[61]⟩, 0, 1, 2⟩, ⟨5, ⟨#[45]⟩, 0, 1, 3⟩, ⟨1, ⟨#[49]⟩, 1, 1, 4⟩, ⟨0, ⟨#[]⟩, 0, 1, 5⟩], 0, 0, 0⟩
theorem awake_lex : lexAll ⟨#[120, 61, 45, 49]⟩ = awakeR := by kernel_rfl

set_option maxHeartbeats 1000000 in
theorem awake_any (w : World) (m : Int) (hm : w.cell? ⟨0, 0, none⟩ = some (.int .i64 m)) :
    Calls Try.prog 7 #[] w fun e w' => e = .returned (.bool true) ∧ Below w.heap.size w w' := by
  have HM := Lib.hid hm
  clear hm
  go_enter Try.func7, Try.ntmps7
  go_wp2_with fail
  refine (words_any _ w m HM.out (by decide)).mono ?_
  rintro e w1 ⟨hb, hok, _⟩
  rw [awake_lex] at hok
  obtain ⟨out, rfl, hown⟩ := hok rfl
  obtain ⟨g, cap, hv, _, hg⟩ := hown.form (by decide)
  have hv2 : out = .slice (some ⟨g, 0, none⟩) 5 cap := hv
  subst hv2
  have hc : ∀ j u, (tokCells awakeR.toks)[j]? = some u → w1.cell? ⟨g, j, none⟩ = some u := fun j u hu => by
    have h1 := hown.cells (g := g) rfl j u hu
    cases j with
    | zero => exact h1
    | succ j => simpa [Addr.add] using h1
  have c15 := hc 15 (.int .u8 1) rfl
  have c17 := hc 17 (.int .i32 1) rfl
  have c20 := hc 20 (.int .u8 0) rfl
  have c23 := hc 23 (.int .i64 1) rfl
  have c24 := hc 24 (.int .i64 5) rfl
  have HB := Lib.hid hb
  clear hc hown hok hb
  go_wp2
  go_ret
  exact ⟨rfl, HB.out⟩
def keyS (k : Nat) : ByteArray := ⟨(keyList.getD k []).toArray⟩
def keysV : Array Value := ((List.range 32).map fun k => Value.string (keyS k)).toArray

set_option maxRecDepth 100000 in
set_option maxHeartbeats 1000000 in
theorem keys_any (w : World) :
    Calls Try.prog 6 #[] w fun e w' => e = .returned (.slice (some ⟨w.heap.size, 0, none⟩) 32 32) ∧ Below w.heap.size w w' ∧ w'.heap[w.heap.size]? = some (.cells keysV 9 (0, 0)) := by
  go_enter Try.func6, Try.ntmps6
  go_wp2
  go_ret
  refine ⟨rfl, (Below.refl _ _).alloc (Nat.le_refl _) _, ?_⟩
  exact (heap_alloc_new w _).trans (by kernel_rfl)

theorem keysV_at (k : Nat) (hk : k < 32) : keysV[k]? = some (.string (keyS k)) := by
  unfold keysV
  simp [hk]
theorem keyS_data (k : Nat) : (keyS k).data.toList = keyList.getD k [] := by simp [keyS]

theorem toList_inj {x s : ByteArray} (h : (x.toList == s.toList) = true) : x = s := by
  rw [beq_iff_eq, ByteArray.toList_eq, ByteArray.toList_eq] at h
  exact WideShapes.bytes_inj h
theorem isKey_hits : ∀ k, k < 32 → isKeyB (keyList.getD k []) = true := by decide +kernel
theorem isKey_hit (k : Nat) (hk : k < 32) : isKeyB (keyS k).data.toList = true := by rw [keyS_data]; exact isKey_hits k hk
theorem isKey_miss (s : ByteArray) (h : ∀ j, j < 32 → keyS j ≠ s) : isKeyB s.data.toList = false := by
  cases hB : isKeyB s.data.toList
  · rfl
  · exfalso
    have hm : s.data.toList ∈ keyList := by simpa [isKeyB] using hB
    obtain ⟨j, hj, he⟩ := List.mem_iff_getElem.1 hm
    have hj2 : j < 32 := hj
    refine h j hj2 (WideShapes.bytes_inj ?_)
    rw [keyS_data, List.getD_eq_getElem?_getD, List.getElem?_eq_getElem hj]
    exact he
theorem keyS_sizes : ∀ k, k < 32 → (keyList.getD k []).length ≤ 20 := by decide +kernel
theorem keyS_size (k : Nat) (hk : k < 32) : (keyS k).size ≤ 20 := by
  have h := keyS_sizes k hk
  rw [← keyS_data, Array.length_toList] at h
  exact h
theorem keys_blank : ∀ k, k < 32 → isKeyB (keyList.getD k [] ++ [32]) = false ∧ isKeyB (keyList.getD k [] ++ [120]) = false := by decide +kernel

set_option maxHeartbeats 1000000 in
theorem rIsKey_any (s : ByteArray) (w : World) :
    Calls Try.prog 9 #[.string s] w fun e w' => e = .returned (.bool (isKeyB s.data.toList)) ∧ Below w.heap.size w w' := by
  go_enter Try.func9, Try.ntmps9
  go_wp2_with fail
  refine (keys_any _).mono ?_
  rintro e w1 ⟨rfl, hb, hk⟩
  have HB := Lib.hid hb
  have HK := Lib.hid hk
  clear hb hk
  go_wp2_with fail
  go_loop [4] (fun kv => ∃ k : Nat, kv = .int .i64 k ∧ k ≤ 32 ∧ Hid (∀ j, j < k → keyS j ≠ s)) (fun kv => 32 - (intOf kv).toNat)
  case atStart => exact ⟨0, rfl, by omega, Lib.hid fun j hj => absurd hj (by omega)⟩
  case round =>
    obtain ⟨k, rfl, hk, hno⟩ := hrel
    have q1 : (0 : Int) ≤ (k : Int) := Int.natCast_nonneg _
    by_cases hlt : k < 32
    · have hcell : w1.cell? ⟨w.heap.size, k, none⟩ = some (.string (keyS k)) := by
        rw [cell_of_row w1 w.heap.size k _ _ _ HK.out]; exact keysV_at k hlt
      generalize hks : keyS k = x at *
      have HX := Lib.hid hks
      clear hks
      go_wp2
      · have he : (x.toList == s.toList) = true := by assumption
        go_ret
        exact ⟨retBool (by rw [← toList_inj he, ← HX.out, isKey_hit k hlt]), HB.out⟩
      · have he : (x.toList == s.toList) = false := by assumption
        refine ⟨⟨k + 1, by go_num, by omega, Lib.hid fun j hj => ?_⟩, by simp [intOf]; omega⟩
        by_cases hjk : j = k
        · subst hjk; rw [HX.out]; rintro rfl; simp at he
        · exact hno.out j (by omega)
    · obtain rfl : k = 32 := by omega
      go_wp2
      go_ret
      exact ⟨retBool (isKey_miss s hno.out).symm, HB.out⟩
end Go.Proofs.Ytijdhfjdnndkmaa
