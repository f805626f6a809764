/-
  Blanks between words change no word: the plain law.
-/
import Derived.Test.YtijdhfjdnndkmaaLexLaw2
set_option linter.unusedVariables false
set_option linter.unusedSimpArgs false
namespace Go.Proofs.Ytijdhfjdnndkmaa
open Go.RowKit

/-- A text that ends where a word may begin: what follows is read as if it stood alone. -/
def Reads (T : List UInt8) (ts : List (Int × List UInt8 × Int)) : Prop := ∀ r, lexL (T ++ r) = (lexL r).map fun xs => ts ++ xs
theorem reads_nil : Reads [] [] := fun r => by cases h : lexL r <;> simp [h]
theorem reads_whole {T : List UInt8} {ts : List (Int × List UInt8 × Int)} (h : Reads T ts) : lexL T = some ts := by
  have := h []
  rw [List.append_nil, lexL_nil] at this
  simpa using this

def blanksL : List (List UInt8) := [[32], [9], [10], [32, 32], [32, 45, 45, 32, 97, 32, 114, 101, 109, 97, 114, 107, 10], [10, 10, 9]]
theorem gap_ok : ∀ g ∈ blanksL, ∀ r, lexL (g ++ r) = lexL r := by
  intro g hg r
  simp only [blanksL, List.mem_cons, List.not_mem_nil, or_false] at hg
  rcases hg with rfl | rfl | rfl | rfl | rfl | rfl
  · exact lexL_skip (32 :: r) (by simp) rfl
  · exact lexL_skip (9 :: r) (by simp) rfl
  · exact lexL_line (10 :: r) (by simp) rfl
  · exact (lexL_skip (32 :: 32 :: r) (by simp) rfl).trans (lexL_skip (32 :: r) (by simp) rfl)
  · refine (lexL_skip (32 :: 45 :: 45 :: 32 :: 97 :: 32 :: 114 :: 101 :: 109 :: 97 :: 114 :: 107 :: 10 :: r) (by simp) rfl).trans ?_
    refine (lexL_skip (45 :: 45 :: 32 :: 97 :: 32 :: 114 :: 101 :: 109 :: 97 :: 114 :: 107 :: 10 :: r) (by simp) rfl).trans ?_
    exact lexL_line (10 :: r) (by simp) rfl
  · exact ((lexL_line (10 :: 10 :: 9 :: r) (by simp) rfl).trans (lexL_line (10 :: 9 :: r) (by simp) rfl)).trans (lexL_skip (9 :: r) (by simp) rfl)

/-- A word more, in both texts, with a gap in the second. -/
theorem reads_more {T U W g : List UInt8} {ts : List (Int × List UInt8 × Int)} (hT : Reads T ts) (hU : Reads U ts) (hW : WordOK W) (hg : g ∈ blanksL) :
    ∃ t, Reads (T ++ (W ++ [32])) (ts ++ [t]) ∧ Reads (U ++ ((W ++ [32]) ++ g)) (ts ++ [t]) := by
  obtain ⟨kind, n, hk⟩ := lexL_put W hW
  refine ⟨(kind, W, n), fun r => ?_, fun r => ?_⟩
  · have e : (T ++ (W ++ [32])) ++ r = T ++ (W ++ 32 :: r) := by simp
    rw [e, hT, hk]
    cases h : lexL r <;> simp [h]
  · have e : (U ++ ((W ++ [32]) ++ g)) ++ r = U ++ (W ++ 32 :: (g ++ r)) := by simp
    rw [e, hU, hk, gap_ok g hg r]
    cases h : lexL r <;> simp [h]

def blankS (k : Nat) : ByteArray := ⟨(blanksL.getD k []).toArray⟩
theorem blankS_data (k : Nat) : (blankS k).data.toList = blanksL.getD k [] := by simp [blankS]
theorem blankS_mem (k : Nat) (hk : k < 6) : (blankS k).data.toList ∈ blanksL := by rw [blankS_data]; exact getD_mem _ _ _ hk
theorem blank_sizes : ∀ k, k < 6 → (blanksL.getD k []).length ≤ 13 := by decide
theorem blankS_size (k : Nat) (hk : k < 6) : (blankS k).size ≤ 13 := by
  have h := blank_sizes k hk
  rw [← blankS_data, Array.length_toList] at h
  exact h
theorem size_len (s : ByteArray) : s.data.toList.length = s.size := by rw [Array.length_toList]; rfl
end Go.Proofs.Ytijdhfjdnndkmaa
