/-
  The plain law of CliteLayouts: where fields begin; one struct more, one field more; what isn't there.
-/
import Derived.Test.YtepjjgnkhcjpcaaCeLayP
set_option linter.unusedVariables false
set_option linter.unusedSimpArgs false
namespace Go.Proofs.Ytepjjgnkhcjpcaa
open Go

theorem kF_cs {S : List Sr} {Z : List Int} (hR : StructsR S Z) {j : Nat} (hj : j < S.length) {cs : List Int} {FF : List Pa} (hcs : FieldsR (Z.take j) FF cs) (k : Nat) (h : k < FF.length) (h' : k < cs.length) : kF (sizeF S S.length) FF[k] = cs[k] := by
  have h8 := hR.eight
  rcases hcs.cell k h with ⟨h1, h2⟩ | ⟨q, hq, h1, h2⟩
  · rw [h2]; unfold kF; rw [h1]; simp
  · have hq2 : q < j := by simp at hq; omega
    unfold kF
    rw [h1, nmS_empty q (by omega), h2]
    simp only [Bool.false_eq_true, if_false]
    rw [size_nm hR q S.length (by omega) (by omega), List.getElem_take]
theorem offF_at (g : Str → Int) (FF : List Pa) (cs : List Int) (hl : cs.length = FF.length) (h4 : FF.length ≤ 4) (hn : ∀ k (h : k < FF.length), FF[k].name = nmF k) (hk : ∀ k (h : k < FF.length) (h' : k < cs.length), kF g FF[k] = cs[k]) (hc : ∀ c ∈ cs, 0 ≤ c) (k : Nat) (hkF : k < FF.length) :
    ∀ (u t : Nat) (n : Int), u + t = k → offF g (nmF k) (FF.drop t) n = (n + ((cs.take k).drop t).sum, FF[k].str)
  | 0, t, n, h => by
    obtain rfl : t = k := by omega
    rw [offF_step g _ FF t n hkF, hn t hkF]
    have : ((nmF t).toList == (nmF t).toList) = true := by simp
    rw [this]
    have e : (cs.take t).drop t = [] := by apply List.drop_eq_nil_of_le; simp; omega
    rw [e]; simp
  | u + 1, t, n, h => by
    have ht : t < FF.length := by omega
    have ht' : t < cs.length := by omega
    rw [offF_step g _ FF t n ht, hn t ht, nmF_ne t (by omega) k (by omega)]
    have : decide (t = k) = false := by simp; omega
    have hct := hc _ (List.getElem_mem ht')
    rw [this, hk t ht ht']
    simp only [Bool.false_eq_true, if_false]
    rw [if_neg (by omega), offF_at g FF cs hl h4 hn hk hc k hkF u (t + 1) (n + cs[t]) (by omega)]
    have e : (cs.take k).drop t = cs[t] :: (cs.take k).drop (t + 1) := by
      rw [List.drop_eq_getElem_cons (by simp; omega), List.getElem_take]
    rw [e, List.sum_cons, Int.add_assoc]
theorem offF_no (g : Str → Int) (FF : List Pa) (cs : List Int) (hl : cs.length = FF.length) (h4 : FF.length ≤ 4) (hn : ∀ k (h : k < FF.length), FF[k].name = nmF k) :
    ∀ (u t : Nat) (n : Int), u + t = FF.length → offF g ⟨#[110, 111]⟩ (FF.drop t) n = (-1, ⟨#[]⟩)
  | 0, t, n, h => by
    rw [List.drop_eq_nil_of_le (by omega)]; rfl
  | u + 1, t, n, h => by
    have ht : t < FF.length := by omega
    rw [offF_step g _ FF t n ht, hn t ht, nmF_no t (by omega)]
    simp only [Bool.false_eq_true, if_false]
    split
    · rfl
    · exact offF_no g FF cs hl h4 hn u (t + 1) _ (by omega)
theorem off_nm {S : List Sr} {Z : List Int} (hR : StructsR S Z) {j : Nat} (hj : j < S.length) {cs : List Int} (hcs : FieldsR (Z.take j) S[j].fields cs) (k : Nat) (hk : k < S[j].fields.length) :
    offsetF S (nmS j) (nmF k) = ((cs.take k).sum, S[j].fields[k].str) := by
  have hge : S.getD j ⟨⟨#[]⟩, []⟩ = S[j] := by simp [hj]
  have hlo := cs_lo hcs (fun z hz => hR.zlo z (List.mem_of_mem_take hz))
  rw [offsetF, find_nm hR j hj, if_neg (by omega), Int.toNat_natCast, hge]
  have := offF_at (sizeF S S.length) S[j].fields cs hcs.len hcs.four hcs.name (fun k h h' => kF_cs hR hj hcs k h h') hlo k hk k 0 0 (by omega)
  simpa using this
theorem off_no {S : List Sr} {Z : List Int} (hR : StructsR S Z) {j : Nat} (hj : j < S.length) {cs : List Int} (hcs : FieldsR (Z.take j) S[j].fields cs) : offsetF S (nmS j) ⟨#[110, 111]⟩ = (-1, ⟨#[]⟩) := by
  have hge : S.getD j ⟨⟨#[]⟩, []⟩ = S[j] := by simp [hj]
  rw [offsetF, find_nm hR j hj, if_neg (by omega), Int.toNat_natCast, hge]
  have := offF_no (sizeF S S.length) S[j].fields cs hcs.len hcs.four hcs.name S[j].fields.length 0 0 (by omega)
  simpa using this
theorem fields_nil (Z : List Int) : FieldsR Z [] [] := ⟨rfl, by simp, fun k h => by simp at h, fun k h => by simp at h⟩
theorem fields_snoc {Z : List Int} {FF : List Pa} {cs : List Int} (h : FieldsR Z FF cs) (h4 : FF.length < 4) (s : Str) (c : Int) (hf : FieldR Z ⟨nmF FF.length, s⟩ c) : FieldsR Z (FF ++ [⟨nmF FF.length, s⟩]) (cs ++ [c]) := by
  have hl := h.len
  refine ⟨by simp [hl], by simp; omega, fun k hk => ?_, fun k hk => ?_⟩
  · by_cases hlt : k < FF.length
    · rw [List.getElem_append_left hlt]; exact h.name k hlt
    · obtain rfl : k = FF.length := by simp at hk; omega
      simp
  · by_cases hlt : k < FF.length
    · rw [List.getElem_append_left hlt, List.getElem_append_left (by omega)]; exact h.cell k hlt
    · obtain rfl : k = FF.length := by simp at hk; omega
      have e1 : (FF ++ [(⟨nmF FF.length, s⟩ : Pa)])[FF.length]'(by simp) = ⟨nmF FF.length, s⟩ := by simp
      have e2 : (cs ++ [c])[FF.length]'(by simp [hl]) = c := by simp [← hl]
      rw [e1, e2]; exact hf
theorem structs_snoc {S : List Sr} {Z : List Int} (hR : StructsR S Z) (h8 : S.length < 8) {FF : List Pa} {cs : List Int} (h : FieldsR Z FF cs) : StructsR (S ++ [⟨nmS S.length, FF⟩]) (Z ++ [cs.sum]) := by
  have hl := hR.len
  have ht : Z.take S.length = Z := by rw [← hl, List.take_length]
  have h' : FieldsR (Z.take Z.length) FF cs := by rw [List.take_length]; exact h
  have hlo := cs_lo h hR.zlo
  have hhi := sum_bound cs _ (cs_hi hR (Nat.le_refl _) h')
  have hs0 : 0 ≤ cs.sum := by
    clear hhi h' h
    induction cs with
    | nil => simp
    | cons a l ih =>
      have h1 := hlo a (by simp)
      have h2 := ih (fun x hx => hlo x (by simp [hx]))
      simp; omega
  refine ⟨by simp [hl], by simp; omega, fun j hj => ?_, fun j hj => ?_, fun z hz => ?_, fun j hj => ?_⟩
  · by_cases hlt : j < S.length
    · rw [List.getElem_append_left hlt]; exact hR.name j hlt
    · obtain rfl : j = S.length := by simp at hj; omega
      simp
  · by_cases hlt : j < S.length
    · obtain ⟨cs', h1, h2⟩ := hR.flds j hlt
      refine ⟨cs', ?_, ?_⟩
      · rw [List.getElem_append_left hlt, List.take_append_of_le_length (by omega)]; exact h1
      · rw [List.getElem_append_left (by omega)]; exact h2
    · obtain rfl : j = S.length := by simp at hj; omega
      refine ⟨cs, ?_, ?_⟩
      · rw [List.take_append_of_le_length (by omega), ht]
        have e : (S ++ [(⟨nmS S.length, FF⟩ : Sr)])[S.length]'(by simp) = ⟨nmS S.length, FF⟩ := by simp
        rw [e]; exact h
      · simp [← hl]
  · rcases List.mem_append.1 hz with hz | hz
    · exact hR.zlo z hz
    · obtain rfl : z = cs.sum := by simpa using hz
      exact hs0
  · by_cases hlt : j < Z.length
    · rw [List.getElem_append_left hlt]; exact hR.zhi j hlt
    · obtain rfl : j = Z.length := by simp at hj; omega
      have e : (Z ++ [cs.sum])[Z.length]'(by simp) = cs.sum := by simp
      rw [e, Int.pow_succ]
      have h4 := h.four
      have hcl := h.len
      have h0 : (0 : Int) ≤ 4 ^ Z.length := Int.pow_nonneg (by omega)
      have h1 : (cs.length : Int) * 4 ^ Z.length ≤ 4 * 4 ^ Z.length := Int.mul_le_mul_of_nonneg_right (by omega) h0
      omega
theorem find_none {S : List Sr} {Z : List Int} (hR : StructsR S Z) : findS S ⟨#[110, 111, 110, 101]⟩ = -1 := by
  have key : ∀ n, n ≤ S.length → findS S ⟨#[110, 111, 110, 101]⟩ = idxF (isSr ⟨#[110, 111, 110, 101]⟩) (S.drop n) n := by
    intro n
    induction n with
    | zero => intro _; rfl
    | succ n ih =>
      intro hn
      have h8 := hR.eight
      have hnl : n < S.length := by omega
      rw [ih (by omega), idxF_drop hnl]
      have : isSr ⟨#[110, 111, 110, 101]⟩ S[n] = false := by
        unfold isSr
        rw [hR.name n hnl, nmS_none n (by omega)]
      rw [this]; rfl
  rw [key S.length (Nat.le_refl _), List.drop_length]; rfl
theorem size_none {S : List Sr} {Z : List Int} (hR : StructsR S Z) : ∀ d, sizeF S d ⟨#[110, 111, 110, 101]⟩ = -1
  | 0 => rfl
  | d + 1 => by rw [sizeF, find_none hR]; rfl
theorem off_none {S : List Sr} {Z : List Int} (hR : StructsR S Z) (fld : Str) : offsetF S ⟨#[110, 111, 110, 101]⟩ fld = (-1, ⟨#[]⟩) := by rw [offsetF, find_none hR]; rfl
/-- Two structs, each within the other. -/
def selfL : List Sr := [⟨⟨#[97]⟩, [⟨⟨#[120]⟩, ⟨#[98]⟩⟩]⟩, ⟨⟨#[98]⟩, [⟨⟨#[121]⟩, ⟨#[97]⟩⟩]⟩]
theorem size_self : sizeF selfL 2 ⟨#[97]⟩ = -1 := by decide +kernel
end Go.Proofs.Ytepjjgnkhcjpcaa
