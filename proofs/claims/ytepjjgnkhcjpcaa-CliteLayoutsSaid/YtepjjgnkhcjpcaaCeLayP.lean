/-
  The plain law of CliteLayouts: structs, each of cells and of earlier structs.
-/
import Derived.Test.YtepjjgnkhcjpcaaCeLay3
set_option linter.unusedVariables false
set_option linter.unusedSimpArgs false
namespace Go.Proofs.Ytepjjgnkhcjpcaa
open Go

def nmS (j : Nat) : Str := ⟨#[115]⟩ ++ strOf [((97 + j : Nat) : Int)]
def nmF (j : Nat) : Str := ⟨#[102]⟩ ++ strOf [((97 + j : Nat) : Int)]
theorem nmS_ne : ∀ i, i < 8 → ∀ j, j < 8 → ((nmS i).toList == (nmS j).toList) = decide (i = j) := by decide +kernel
theorem nmF_ne : ∀ i, i < 8 → ∀ j, j < 8 → ((nmF i).toList == (nmF j).toList) = decide (i = j) := by decide +kernel
theorem nmS_empty : ∀ i, i < 8 → ((nmS i).toList == (⟨#[]⟩ : ByteArray).toList) = false := by decide +kernel
theorem nmS_none : ∀ i, i < 8 → ((nmS i).toList == (⟨#[110, 111, 110, 101]⟩ : ByteArray).toList) = false := by decide +kernel
theorem nmF_no : ∀ i, i < 8 → ((nmF i).toList == (⟨#[110, 111]⟩ : ByteArray).toList) = false := by decide +kernel

/-- A field and how many cells it has, where so many structs stand ahead. -/
def FieldR (Z : List Int) (f : Pa) (c : Int) : Prop := (f.str = ⟨#[]⟩ ∧ c = 1) ∨ ∃ j, ∃ h : j < Z.length, f.str = nmS j ∧ c = Z[j]
/-- The fields of a struct, and their cells. -/
structure FieldsR (Z : List Int) (FF : List Pa) (cs : List Int) : Prop where
  len : cs.length = FF.length
  four : FF.length ≤ 4
  name : ∀ k (h : k < FF.length), FF[k].name = nmF k
  cell : ∀ k (h : k < FF.length), FieldR Z FF[k] (cs[k]'(by rw [len]; exact h))
/-- The structs, and their sizes. -/
structure StructsR (S : List Sr) (Z : List Int) : Prop where
  len : Z.length = S.length
  eight : S.length ≤ 8
  name : ∀ j (h : j < S.length), S[j].name = nmS j
  flds : ∀ j (h : j < S.length), ∃ cs, FieldsR (Z.take j) S[j].fields cs ∧ Z[j]'(by rw [len]; exact h) = cs.sum
  zlo : ∀ z ∈ Z, 0 ≤ z
  zhi : ∀ j (h : j < Z.length), Z[j] ≤ 4 ^ (j + 1)

theorem structs_nil : StructsR [] [] := ⟨rfl, by simp, fun j h => by simp at h, fun j h => by simp at h, by simp, fun j h => by simp at h⟩
theorem cs_lo {Z : List Int} {FF : List Pa} {cs : List Int} (h : FieldsR Z FF cs) (hz : ∀ z ∈ Z, 0 ≤ z) : ∀ c ∈ cs, 0 ≤ c := by
  intro c hc
  obtain ⟨k, hk, rfl⟩ := List.mem_iff_getElem.1 hc
  rcases h.cell k (by rw [← h.len]; exact hk) with ⟨_, h1⟩ | ⟨j, hj, _, h1⟩
  · rw [h1]; omega
  · rw [h1]; exact hz _ (List.getElem_mem hj)
theorem sum_bound : ∀ (l : List Int) (b : Int), (∀ x ∈ l, x ≤ b) → l.sum ≤ l.length * b
  | [], b, _ => by simp
  | a :: l, b, h => by
    have h1 := sum_bound l b (fun x hx => h x (by simp [hx]))
    have h2 := h a (by simp)
    simp only [List.sum_cons, List.length_cons]
    rw [Int.natCast_add, Int.add_mul]
    omega
theorem cs_hi {S : List Sr} {Z : List Int} (hR : StructsR S Z) {i : Nat} (hi : i ≤ Z.length) {FF : List Pa} {cs : List Int} (h : FieldsR (Z.take i) FF cs) : ∀ c ∈ cs, c ≤ 4 ^ i := by
  intro c hc
  obtain ⟨k, hk, rfl⟩ := List.mem_iff_getElem.1 hc
  have hp : ∀ n : Nat, (1 : Int) ≤ 4 ^ n := fun n => by
    induction n with
    | zero => decide
    | succ n ih => rw [Int.pow_succ]; omega
  rcases h.cell k (by rw [← h.len]; exact hk) with ⟨_, h1⟩ | ⟨j, hj, _, h1⟩
  · rw [h1]; exact hp i
  · have hj2 : j < Z.length := by simp at hj; omega
    have hji : j < i := by simp at hj; omega
    rw [h1, List.getElem_take]
    have h2 := hR.zhi j hj2
    have h3 : (4 : Int) ^ (j + 1) ≤ 4 ^ i := by
      obtain ⟨t, rfl⟩ : ∃ t, i = j + 1 + t := ⟨i - (j + 1), by omega⟩
      rw [Int.pow_add 4 (j + 1) t]
      have := Int.mul_le_mul_of_nonneg_left (hp t) (show (0 : Int) ≤ 4 ^ (j + 1) by have := hp (j + 1); omega)
      omega
    omega
theorem find_nm {S : List Sr} {Z : List Int} (hR : StructsR S Z) : ∀ j, j < S.length → findS S (nmS j) = j := by
  intro j hj
  have key : ∀ n, n ≤ j → findS S (nmS j) = idxF (isSr (nmS j)) (S.drop n) n := by
    intro n
    induction n with
    | zero => intro _; rfl
    | succ n ih =>
      intro hn
      have h8 := hR.eight
      have hnl : n < S.length := by omega
      rw [ih (by omega), idxF_drop hnl]
      have : isSr (nmS j) S[n] = false := by
        unfold isSr
        rw [hR.name n hnl, nmS_ne n (by omega) j (by omega)]
        simp; omega
      rw [this]; rfl
  rw [key j (Nat.le_refl _), idxF_drop hj]
  have : isSr (nmS j) S[j] = true := by
    unfold isSr
    rw [hR.name j hj]; simp
  rw [this]; rfl
theorem sumF_cs (g : Str → Int) : ∀ (FF : List Pa) (cs : List Int) (n : Int), cs.length = FF.length → (∀ k (h : k < FF.length) (h' : k < cs.length), kF g FF[k] = cs[k]) → (∀ c ∈ cs, 0 ≤ c) → 0 ≤ n → n + cs.sum ≤ 1073741824 → sumF g FF n = n + cs.sum
  | [], [], n, _, _, _, _, _ => by simp [sumF]
  | f :: FF, c :: cs, n, hl, hk, hc, hn, hb => by
    have h0 : kF g f = c := hk 0 (by simp) (by simp)
    have hc0 := hc c (by simp)
    have hs : 0 ≤ cs.sum := by
      clear hk hb hl
      induction cs with
      | nil => simp
      | cons a l ih =>
        have h1 := hc a (by simp)
        have h2 := ih (fun x hx => hc x (by simp at hx ⊢; rcases hx with h | h; exact .inl h; exact .inr (.inr h)))
        simp; omega
    simp only [List.sum_cons] at hb ⊢
    rw [sumF, h0, if_neg (by omega), sumF_cs g FF cs (n + c) (by simpa using hl) (fun k h h' => hk (k + 1) (by simpa using h) (by simpa using h')) (fun x hx => hc x (by simp [hx])) (by omega) (by omega)]
    omega
  | [], _ :: _, _, hl, _, _, _, _ => by simp at hl
  | _ :: _, [], _, hl, _, _, _, _ => by simp at hl
theorem pow8 : ∀ i, i ≤ 8 → (4 : Int) ^ i ≤ 65536 := by decide
theorem size_nm {S : List Sr} {Z : List Int} (hR : StructsR S Z) : ∀ (j d : Nat) (hj : j < S.length), j < d → sizeF S d (nmS j) = Z[j]'(by rw [hR.len]; exact hj) := by
  intro j
  induction j using Nat.strongRecOn with
  | ind j ih =>
  intro d hj hd
  obtain ⟨d, rfl⟩ : ∃ e, d = e + 1 := ⟨d - 1, by omega⟩
  have hf := find_nm hR j hj
  obtain ⟨cs, hcs, hsum⟩ := hR.flds j hj
  have hjZ : j ≤ Z.length := by rw [hR.len]; omega
  have h8 := hR.eight
  have hlo := cs_lo hcs (fun z hz => hR.zlo z (List.mem_of_mem_take hz))
  have hhi := sum_bound cs _ (cs_hi hR hjZ hcs)
  have hp := pow8 j (by omega)
  have h4 := hcs.four
  have hcl := hcs.len
  have hge : S.getD j ⟨⟨#[]⟩, []⟩ = S[j] := by simp [hj]
  have hm : (cs.length : Int) * 4 ^ j ≤ 4 * 65536 := by
    have h1 : (cs.length : Int) ≤ 4 := by omega
    have h0 : (0 : Int) ≤ 4 ^ j := Int.pow_nonneg (by omega)
    have := Int.mul_le_mul h1 hp h0 (by omega)
    exact this
  rw [sizeF, hf, if_neg (by omega), Int.toNat_natCast, hge, hsum, sumF_cs _ _ cs 0 hcl (fun k h h' => ?_) hlo (by omega) (by omega)]
  · omega
  · rcases hcs.cell k h with ⟨h1, h2⟩ | ⟨q, hq, h1, h2⟩
    · rw [h2]; unfold kF; rw [h1]; simp
    · have hq2 : q < j := by simp at hq; omega
      unfold kF
      rw [h1, nmS_empty q (by omega), h2]
      simp only [Bool.false_eq_true, if_false]
      rw [ih q hq2 d (by omega) (by omega), List.getElem_take]
end Go.Proofs.Ytepjjgnkhcjpcaa
