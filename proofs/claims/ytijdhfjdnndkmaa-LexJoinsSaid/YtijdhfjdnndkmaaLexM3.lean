/-
  Texts that belong together: LexJoin, LxJ, LxJo.
-/
import Derived.Test.YtijdhfjdnndkmaaLexX
import Derived.Test.YtijdhfjdnndkmaaShelf2
import Derived.WalkKit
import Derived.WalkSpells
import Derived.WalkLawsBesides
import Derived.Lib.Hide
import Derived.Deep.Light
import Derived.Deep.QuietTactic
import Derived.BigQuiet
import Derived.Deep.RegionHeld3
import Derived.Deep.AppendLies
import Derived.Test.YtijdhfjdnndkmaaLexM2
import Derived.Test.YtijdhfjdnndkmaaLexWord
import Derived.Test.YtijdhfjdnndkmaaLxB
import Derived.Test.YtijdhfjdnndkmaaAbToks
import Derived.Test.YtijdhfjdnndkmaaAbInvB
/-
  The walk over lex.Join.
-/
set_option linter.unusedVariables false
set_option linter.unusedSimpArgs false
namespace Go.Proofs.Ytijdhfjdnndkmaa
open Go.RowKit

/-- The bytes of a builder. -/
abbrev IsB (B b : Nat) (bs : List UInt8) (w : World) : Prop := Lib.IsBuilderF 51 5 B b (Lib.byteCells bs) w
abbrev Kept (b : Nat) (w w' : World) : Prop := Lib.OthersKept 5 (some b) w w'
theorem wbyte (B b : Nat) (bs : List UInt8) (w : World) (h : IsB B b bs w) (hlen : bs.length + 1 ≤ 140737488355328) (hB : B ≤ w.heap.size) :
    Calls Try.prog 18 #[.pointer (some ⟨b, 0, none⟩), .int .u8 32] w fun e w' => e = .returned .nilIface ∧ IsB B b (bs ++ [32]) w' ∧ Below B w w' ∧ Kept b w w' := by
  have h1 : Calls Try.prog 18 #[.pointer (some ⟨b, 0, none⟩), .int .u8 32] w _ := Any.Builder_WriteByte_k Try.blays167 Try.bExtra B b (Lib.byteCells bs) 32 w h (by rw [Lib.byteCells_length]; exact hlen) hB
  refine h1.mono ?_
  rintro e w' ⟨h2, h3, h4, h5⟩
  refine ⟨h2, ?_, h4, h5⟩
  have e1 : Lib.byteCells (bs ++ [32]) = Lib.byteCells bs ++ [.int .u8 32] := by rw [Lib.byteCells_append]; rfl
  rw [IsB, e1]
  exact .inr h3
theorem wstr (B b : Nat) (bs : List UInt8) (s : ByteArray) (w : World) (h : IsB B b bs w) (hlen : bs.length + s.size ≤ 140737488355328) (hB : B ≤ w.heap.size) :
    Calls Try.prog 19 #[.pointer (some ⟨b, 0, none⟩), .string s] w fun e w' => e = .returned (.tuple #[.int .i64 s.size, .nilIface]) ∧ IsB B b (bs ++ s.data.toList) w' ∧ Below B w w' ∧ Kept b w w' := by
  have h1 : Calls Try.prog 19 #[.pointer (some ⟨b, 0, none⟩), .string s] w _ := Any.Builder_WriteString_k Try.blays166 Try.bExtra B b (Lib.byteCells bs) s w h (by rw [Lib.byteCells_length]; exact hlen) hB
  refine h1.mono ?_
  rintro e w' ⟨h2, h3, h4, h5⟩
  refine ⟨h2, ?_, h4, h5⟩
  have e1 : Lib.byteCells (bs ++ s.data.toList) = Lib.byteCells bs ++ Lib.strCells s := by rw [Lib.byteCells_append]; rfl
  rw [IsB, e1]
  exact .inr h3
theorem bstr (B b : Nat) (bs : List UInt8) (w : World) (h : IsB B b bs w) (hB : B ≤ w.heap.size) :
    Calls Try.prog 20 #[.pointer (some ⟨b, 0, none⟩)] w fun e w' => e = .returned (.string ⟨bs.toArray⟩) ∧ Below B w w' := by
  have h1 : Calls Try.prog 20 #[.pointer (some ⟨b, 0, none⟩)] w _ := Any.Builder_String_any_f Try.blays169 Try.bExtra B b bs w h hB
  exact h1.mono fun e w' h => ⟨h.1, h.2.2⟩

def tok0 : Tok := ⟨0, ⟨#[]⟩, 0, 0, 0⟩
/-- What Join has put after k words. -/
def joinK (l : List Tok) : Nat → List UInt8
  | 0 => []
  | k + 1 => joinK l k ++ ((if 0 < k ∧ (l.getD k tok0).kind ≠ 0 then [32] else []) ++ (l.getD k tok0).text.data.toList)
theorem joinK_mono (l : List Tok) : ∀ (n k : Nat), k ≤ n → (joinK l k).length ≤ (joinK l n).length
  | 0, k, h => by have : k = 0 := by omega
                  subst this; exact Nat.le_refl _
  | n + 1, k, h => by
    rcases Nat.lt_or_ge k (n + 1) with h1 | h1
    · refine Nat.le_trans (joinK_mono l n k (by omega)) ?_
      simp only [joinK, List.length_append]
      omega
    · have : k = n + 1 := by omega
      subst this; exact Nat.le_refl _
/-- A row of words. -/
def TokRow (w : World) (A : Option Addr) (n : Nat) (l : List Tok) : Prop :=
  l.length = n ∧ ∀ k (h : k < l.length), ∃ g o, A = some ⟨g, o, none⟩ ∧ ∀ j u, (l[k].cells)[j]? = some u → w.cell? ⟨g, o + k * 5 + j, none⟩ = some u
theorem IsB.lt {B b : Nat} {bs : List UInt8} {w : World} (h : IsB B b bs w) : b < w.heap.size := by
  rcases h with h | h
  · exact h.lt
  · exact h.lt
theorem add_block (a : Addr) (n : Nat) : (a.add n).block = a.block := by unfold Addr.add; split <;> rfl
theorem TokRow.below {w w' : World} {A : Option Addr} {n : Nat} {l : List Tok} (h : TokRow w A n l) {B : Nat} (hB : w.heap.size ≤ B) (hb : Below B w w') : TokRow w' A n l := by
  refine ⟨h.1, fun k hk => ?_⟩
  obtain ⟨g, o, h1, h2⟩ := h.2 k hk
  exact ⟨g, o, h1, fun j u hj => (hb.cell (p := ⟨g, o + k * 5 + j, none⟩) (Nat.lt_of_lt_of_le (World.block_lt_of_cell? w _ (h2 j u hj)) hB)).trans (h2 j u hj)⟩

set_option maxHeartbeats 4000000 in
theorem join_walk (A : Option Addr) (n cap : Nat) (l : List Tok) (w : World) (hA : TokRow w A n l) (hn : n ≤ 140737488355328) (hs : (joinK l n).length ≤ 140737488355328) :
    Calls Try.prog 13 #[.slice A n cap] w fun e w' => e = .returned (.string ⟨(joinK l n).toArray⟩) ∧ Below w.heap.size w w' := by
  have HA := Lib.hid hA
  clear hA
  have HS := Lib.hid hs
  clear hs
  go_enter Try.func13, Try.ntmps13
  go_wp2_with fail
  have h0 := Lib.IsBuilderF.of (Lib.fresh_isBuilder 51 5 w)
  have hb0 : Below w.heap.size w (w.alloc (.cells #[.pointer none, .slice none 0 0] 51)) := (Below.refl _ _).alloc (Nat.le_refl _) _
  have H0 := Lib.hid (show IsB w.heap.size w.heap.size [] _ from h0)
  have HB0 := Lib.hid hb0
  clear h0 hb0
  go_loopw [8] (fun iv wr => ∃ k : Nat, iv = .int .i64 k ∧ k ≤ n ∧ Hid (IsB w.heap.size w.heap.size (joinK l k) wr ∧ Below w.heap.size w wr)) (fun iv _ => n - (intOf iv).toNat)
  case atStart => exact ⟨0, rfl, by omega, Lib.hid ⟨H0.out, HB0.out⟩⟩
  case round =>
    obtain ⟨k, rfl, hk, HR⟩ := hrel
    have q1 : (0 : Int) ≤ (k : Int) := Int.natCast_nonneg _
    by_cases hlt : k < n
    · have hkl : k < l.length := by have := HA.out.1; omega
      obtain ⟨g, o, rfl, hcell⟩ := (HA.out.below (Nat.le_refl _) HR.out.2).2 k hkl
      have hgd : l.getD k tok0 = l[k] := by simp [hkl]
      have HS1 := Lib.hid (Nat.le_trans (joinK_mono l n (k + 1) (by omega)) HS.out)
      have HJ := Lib.hid (show joinK l (k + 1) = joinK l k ++ ((if 0 < k ∧ (l[k]).kind ≠ 0 then [32] else []) ++ (l[k]).text.data.toList) by rw [joinK, hgd])
      clear hgd
      generalize l[k] = a at *
      have x0 := hcell 0 _ rfl
      have x1 := hcell 1 _ rfl
      have x2 := hcell 2 _ rfl
      have x3 := hcell 3 _ rfl
      have x4 := hcell 4 _ rfl
      simp only [Nat.add_zero] at x0
      clear hcell
      have q2 : (k : Int) < (n : Int) := by omega
      by_cases hc : 0 < k ∧ a.kind ≠ 0
      · obtain ⟨hc1, hc2⟩ := hc
        have q3 : (0 : Int) < (k : Int) := by omega
        go_wp2_with fail
        have HI := Lib.hid (Lib.IsBuilderF.alloc HR.out.1 (.cells #[.int .u8 a.kind, .string a.text, .int .i32 a.n, .int .i64 a.line, .int .i64 a.col] 38))
        have HBA := Lib.hid (HR.out.2.alloc HR.out.2.size (.cells #[.int .u8 a.kind, .string a.text, .int .i32 a.n, .int .i64 a.line, .int .i64 a.col] 38))
        have HBK := Lib.hid (heap_alloc_new wr (.cells #[.int .u8 a.kind, .string a.text, .int .i32 a.n, .int .i64 a.line, .int .i64 a.col] 38))
        have hne : w.heap.size < wr.heap.size := HR.out.1.lt
        have hlen : (joinK l k).length + 1 ≤ 140737488355328 := by
          have h1 := HS1.out
          rw [HJ.out, if_pos ⟨hc1, hc2⟩] at h1
          simp only [List.length_append, List.length_cons, List.length_nil] at h1
          omega
        have HJ2 := Lib.hid (show joinK l (k + 1) = (joinK l k ++ [32]) ++ a.text.data.toList by rw [HJ.out, if_pos ⟨hc1, hc2⟩, List.append_assoc])
        refine (wbyte w.heap.size w.heap.size (joinK l k) _ HI.out hlen HBA.out.size).mono ?_
        rintro e w2 ⟨rfl, h2, hb2, hk2⟩
        have hk3 := hk2 wr.heap.size _ HBK.out (by intro h; exact absurd (Option.some.inj h) (by omega)) (by intro c fz h; cases h)
        have hc1 : w2.cell? ⟨wr.heap.size, 1, none⟩ = some (.string a.text) := by rw [Lib.cell_of_heap hk3]; rfl
        have H2 := Lib.hid h2
        have HB2 := Lib.hid (HBA.out.trans hb2)
        clear h2 hb2 hk2 hk3
        go_wp2_with fail
        have hlen2 : (joinK l k ++ [32]).length + a.text.size ≤ 140737488355328 := by
          have h1 := HS1.out
          have h2 := congrArg List.length HJ2.out
          have h3 : a.text.data.toList.length = a.text.size := rfl
          simp only [List.length_append] at h2 ⊢
          omega
        refine (wstr w.heap.size w.heap.size (joinK l k ++ [32]) a.text _ H2.out hlen2 HB2.out.size).mono ?_
        rintro e w3 ⟨rfl, h3, hb3, hk3⟩
        have H3 := Lib.hid (show IsB w.heap.size w.heap.size (joinK l (k + 1)) w3 ∧ Below w.heap.size w w3 from ⟨by rw [HJ2.out]; exact h3, HB2.out.trans hb3⟩)
        clear h3 hb3 hk3
        go_wp2_with fail
        exact ⟨⟨k + 1, by go_num, by omega, H3⟩, by simp only [intOf]; omega⟩
      · have HI := Lib.hid (Lib.IsBuilderF.alloc HR.out.1 (.cells #[.int .u8 a.kind, .string a.text, .int .i32 a.n, .int .i64 a.line, .int .i64 a.col] 38))
        have HBA := Lib.hid (HR.out.2.alloc HR.out.2.size (.cells #[.int .u8 a.kind, .string a.text, .int .i32 a.n, .int .i64 a.line, .int .i64 a.col] 38))
        have HJ2 := Lib.hid (show joinK l (k + 1) = joinK l k ++ a.text.data.toList by rw [HJ.out, if_neg hc, List.nil_append])
        have hlen2 : (joinK l k).length + a.text.size ≤ 140737488355328 := by
          have h1 := HS1.out
          have h2 := congrArg List.length HJ2.out
          have h3 : a.text.data.toList.length = a.text.size := rfl
          simp only [List.length_append] at h2 ⊢
          omega
        by_cases hk0 : 0 < k
        · have hk0' : (0 : Int) < (k : Int) := by omega
          have hk1 : a.kind = 0 := by
            by_cases h : a.kind = 0
            · exact h
            · exact absurd ⟨hk0, h⟩ hc
          clear hc
          obtain ⟨kd, tx, nn, ln, cl⟩ := a
          dsimp only at hk1
          subst hk1
          dsimp only at *
          go_wp2_with fail
          refine (wstr w.heap.size w.heap.size (joinK l k) tx _ HI.out hlen2 HBA.out.size).mono ?_
          rintro e w3 ⟨rfl, h3, hb3, hk3⟩
          have H3 := Lib.hid (show IsB w.heap.size w.heap.size (joinK l (k + 1)) w3 ∧ Below w.heap.size w w3 from ⟨by rw [HJ2.out]; exact h3, HBA.out.trans hb3⟩)
          clear h3 hb3 hk3
          go_wp2_with fail
          exact ⟨⟨k + 1, by go_num, by omega, H3⟩, by simp only [intOf]; omega⟩
        · obtain rfl : k = 0 := by omega
          clear hc
          simp only [Nat.zero_mul, Nat.add_zero] at x0 x1 x2 x3 x4
          go_wp2_with fail
          refine (wstr w.heap.size w.heap.size (joinK l 0) a.text _ HI.out hlen2 HBA.out.size).mono ?_
          rintro e w3 ⟨rfl, h3, hb3, hk3⟩
          have H3 := Lib.hid (show IsB w.heap.size w.heap.size (joinK l (0 + 1)) w3 ∧ Below w.heap.size w w3 from ⟨by rw [HJ2.out]; exact h3, HBA.out.trans hb3⟩)
          clear h3 hb3 hk3
          go_wp2_with fail
          exact ⟨⟨0 + 1, by go_num, by omega, H3⟩, by simp only [intOf]; omega⟩
    · obtain rfl : k = n := by omega
      go_wp2_with fail
      refine (bstr w.heap.size w.heap.size (joinK l k) _ HR.out.1 HR.out.2.size).mono ?_
      rintro e w3 ⟨rfl, hb3⟩
      have H3 := Lib.hid (HR.out.2.trans hb3)
      clear hb3
      go_wp2_with fail
      go_ret
      exact ⟨rfl, H3.out⟩
end Go.Proofs.Ytijdhfjdnndkmaa

/-
  Joined words: the plain law, and word and Join as contracts without addresses.
-/
set_option linter.unusedVariables false
set_option linter.unusedSimpArgs false
namespace Go.Proofs.Ytijdhfjdnndkmaa
open Go Go.RowKit

def tkL (W : List UInt8) : Int × List UInt8 × Int := ((lexNext W).kind, W, (lexNext W).n)
theorem lexNext_kind2 (l : List UInt8) (h : (lexNext l).code = 2) : (lexNext l).kind ≠ 0 := by
  revert h
  unfold lexNext numNext wordNext signNext
  repeat' split
  all_goals simp
theorem word_tk {W : List UInt8} (h : WordOK W) : (lexNext W).code = 2 ∧ ∀ r, (r = [] ∨ ∃ r', r = 32 :: r') → lexNext (W ++ r) = ⟨2, W.length, (lexNext W).kind, (lexNext W).n⟩ := by
  obtain ⟨h0, _, kind, n, hk⟩ := h
  have h1 := hk [] (.inl rfl)
  rw [List.append_nil] at h1
  refine ⟨by rw [h1], fun r hr => ?_⟩
  rw [hk r hr, h1]
theorem tk_kind {W : List UInt8} (h : WordOK W) : (tkL W).1 ≠ 0 := lexNext_kind2 W (word_tk h).1
theorem reads_word {T W : List UInt8} {ts : List (Int × List UInt8 × Int)} (hT : Reads T ts) (hW : WordOK W) : Reads (T ++ (W ++ [32])) (ts ++ [tkL W]) ∧ lexL (T ++ W) = some (ts ++ [tkL W]) := by
  obtain ⟨_, hk⟩ := word_tk hW
  refine ⟨fun r => ?_, ?_⟩
  · have e : (T ++ (W ++ [32])) ++ r = T ++ (W ++ 32 :: r) := by simp
    have h1 := hk (32 :: r) (.inr ⟨r, rfl⟩)
    have hne : W ++ 32 :: r ≠ [] := by simp
    rw [e, hT, lexL_word _ hne (by rw [h1]), h1]
    simp only [List.drop_left, List.take_left]
    rw [lexL_skip (32 :: r) (by simp) (by rfl)]
    show _ = (lexL r).map _
    cases h : lexL r <;> simp [h, tkL, show (List.drop (lexNext (32 :: r)).k (32 :: r)) = r from rfl]
  · have h1 := hk [] (.inl rfl)
    rw [List.append_nil] at h1
    rw [hT, lexL_word _ hW.1 (by rw [h1]), h1]
    simp [lexL_nil, tkL]

/-- What the law itself joins. -/
def joinW (ws : List ByteArray) : Nat → List UInt8
  | 0 => []
  | k + 1 => (if 0 < k then joinW ws k ++ [32] else joinW ws k) ++ (ws.getD k ⟨#[]⟩).data.toList
theorem joinW_reads (ws : List ByteArray) (hw : ∀ x ∈ ws, WordOK x.data.toList) : ∀ k, k < ws.length → ∃ P, joinW ws (k + 1) = P ++ (ws.getD k ⟨#[]⟩).data.toList ∧ Reads P ((ws.take k).map fun x => tkL x.data.toList)
  | 0, h => ⟨[], by simp [joinW], reads_nil⟩
  | k + 1, h => by
    obtain ⟨P, h1, h2⟩ := joinW_reads ws hw k (by omega)
    have hk : k < ws.length := by omega
    have hg : ws.getD k ⟨#[]⟩ = ws[k] := by simp [hk]
    refine ⟨joinW ws (k + 1) ++ [32], ?_, ?_⟩
    · rw [joinW, if_pos (by omega)]
    · rw [h1, hg, List.append_assoc, List.take_succ_eq_append_getElem hk, List.map_append]
      exact (reads_word h2 (hw _ (List.getElem_mem hk))).1
theorem joinW_lex (ws : List ByteArray) (hw : ∀ x ∈ ws, WordOK x.data.toList) : lexL (joinW ws ws.length) = some (ws.map fun x => tkL x.data.toList) := by
  cases hn : ws.length with
  | zero => rw [List.eq_nil_of_length_eq_zero hn]; rfl
  | succ n =>
    have hk : n < ws.length := by omega
    obtain ⟨P, h1, h2⟩ := joinW_reads ws hw n hk
    have hg : ws.getD n ⟨#[]⟩ = ws[n] := by simp [hk]
    rw [h1, hg, (reads_word h2 (hw _ (List.getElem_mem hk))).2]
    have e : ws = ws.take n ++ [ws[n]] := by
      rw [← List.take_succ_eq_append_getElem hk, ← hn, List.take_length]
    conv => rhs; rw [e, List.map_append]
    rfl
theorem joinK_W (ws : List ByteArray) (hw : ∀ x ∈ ws, WordOK x.data.toList) (l : List Tok) (h : l.map Tok.strip = (ws.map fun x => tkL x.data.toList) ++ [(0, [], 0)]) : ∀ k, k ≤ ws.length → joinK l k = joinW ws k
  | 0, _ => rfl
  | k + 1, hk => by
    have h1 : k < l.length := by have := congrArg List.length h; simp at this; omega
    have h2 : k < ws.length := by omega
    have e : (l[k]).strip = tkL (ws[k]).data.toList := by
      have h3 : (l.map Tok.strip)[k]? = ((ws.map fun x => tkL x.data.toList) ++ [(0, [], 0)])[k]? := by rw [h]
      rw [List.getElem?_append_left (by simpa using h2)] at h3
      simpa [h1, h2] using h3
    have e1 : (l[k]).kind = (tkL (ws[k]).data.toList).1 := congrArg (fun p : Int × List UInt8 × Int => p.1) e
    have e2 : (l[k]).text.data.toList = (ws[k]).data.toList := congrArg (fun p : Int × List UInt8 × Int => p.2.1) e
    have g1 : l.getD k tok0 = l[k] := by simp [h1]
    have g2 : ws.getD k ⟨#[]⟩ = ws[k] := by simp [h2]
    have hne := tk_kind (hw _ (List.getElem_mem h2))
    rw [joinK, joinW, joinK_W ws hw l h k (by omega), g1, g2, e2]
    by_cases h0 : 0 < k
    · rw [if_pos ⟨h0, by rw [e1]; exact hne⟩, if_pos h0, List.append_assoc]
    · rw [if_neg (fun h => h0 h.1), if_neg h0, List.nil_append]
theorem joinK_all (ws : List ByteArray) (hw : ∀ x ∈ ws, WordOK x.data.toList) (l : List Tok) (h : l.map Tok.strip = (ws.map fun x => tkL x.data.toList) ++ [(0, [], 0)]) : l.length = ws.length + 1 ∧ joinK l l.length = joinW ws ws.length := by
  have hl : l.length = ws.length + 1 := by have := congrArg List.length h; simpa using this
  refine ⟨hl, ?_⟩
  have h1 : ws.length < l.length := by omega
  have e : (l[ws.length]).strip = (0, [], 0) := by
    have h3 : (l.map Tok.strip)[ws.length]? = ((ws.map fun x => tkL x.data.toList) ++ [(0, [], 0)])[ws.length]? := by rw [h]
    rw [List.getElem?_append_right (by simp)] at h3
    simpa [h1] using h3
  have e1 : (l[ws.length]).kind = 0 := congrArg (fun p : Int × List UInt8 × Int => p.1) e
  have e2 : (l[ws.length]).text.data.toList = [] := congrArg (fun p : Int × List UInt8 × Int => p.2.1) e
  have g1 : l.getD ws.length tok0 = l[ws.length] := by simp [h1]
  rw [hl, joinK, g1, e2, e1, if_neg (fun h => h.2 rfl), joinK_W ws hw l h ws.length (Nat.le_refl _)]
  simp
theorem joinW_len (ws : List ByteArray) (hw : ∀ x ∈ ws, WordOK x.data.toList) : ∀ k, k ≤ ws.length → (joinW ws k).length ≤ 33 * k
  | 0, _ => by simp [joinW]
  | k + 1, hk => by
    have h1 := joinW_len ws hw k (by omega)
    have h2 : k < ws.length := by omega
    have g2 : ws.getD k ⟨#[]⟩ = ws[k] := by simp [h2]
    have h3 := (hw _ (List.getElem_mem h2)).2.1
    rw [joinW, g2, List.length_append]
    split <;> simp <;> simp at h3 <;> omega

def pU (i : Int) : PV := .v (.int .u8 i)
theorem rep_byt {G : Ghost} {w : World} {o : Own} {p : List Int} {y : Value} (h : Rep G w (.sl o (p.map pU)) y) (hp : ∀ x ∈ p, 0 ≤ x ∧ x ≤ 255) :
    ∃ A n cap, y = .slice A n cap ∧ Byt w A n (p.map Int.toNat) := by
  generalize hx : p.map pU = xs at h
  cases h with
  | snil _ ao ho =>
    have hl := congrArg List.length hx
    obtain rfl : p = [] := by simpa using hl
    exact ⟨ao, 0, 0, rfl, ⟨rfl, fun k hk => by simp at hk⟩⟩
  | sl _ _ b off cap sz c hlen hc hpp hr hcap hmax hfull htok =>
    subst hx
    refine ⟨_, _, _, rfl, ⟨by simp, fun k hk => ?_⟩⟩
    have hk2 : k < p.length := by simpa using hk
    have hk3 : k < (p.map pU).length := by simpa using hk2
    have hsz : sz = 1 := by
      have := hlen k hk3
      simp [pU, PV.cells] at this
      exact this.symm
    subst hsz
    have h1 := hr k hk3 0 (by simp [pU, PV.cells])
    have h2 := (hc k (by omega)).1
    have h3 : Rep G w (pU p[k]) (c k) := by simpa [pU, PV.cells] using h1
    have h4 : c k = .int .u8 p[k] := h3.atomEq
    have hb := hp _ (List.getElem_mem hk2)
    refine ⟨_, rfl, ?_, by simp; omega⟩
    have e : (⟨b, off, none⟩ : Addr).add k = ⟨b, off + k, none⟩ := by cases k <;> simp [Addr.add]
    rw [e, h2, h4]
    simp only [List.getElem_map]
    rw [Int.toNat_of_nonneg hb.1]
theorem rep_trow {G : Ghost} {w : World} {o : Own} {l : List Tok} {y : Value} (h : Rep G w (.sl o (l.map tokPV)) y) :
    ∃ A n cap, y = .slice A n cap ∧ TokRow w A n l := by
  generalize hx : l.map tokPV = xs at h
  cases h with
  | snil _ ao ho =>
    have hl := congrArg List.length hx
    obtain rfl : l = [] := by simpa using hl
    exact ⟨ao, 0, 0, rfl, ⟨rfl, fun k hk => by simp at hk⟩⟩
  | sl _ _ b off cap sz c hlen hc hpp hr hcap hmax hfull htok =>
    subst hx
    refine ⟨_, _, _, rfl, ⟨by simp, fun k hk => ?_⟩⟩
    have hk3 : k < (l.map tokPV).length := by simpa using hk
    have hcells : ((l.map tokPV)[k]).cells.length = 5 := by simp [tokPV, PV.cells]
    have hsz : sz = 5 := (hlen k hk3).symm.trans hcells
    subst hsz
    refine ⟨_, _, rfl, fun j u hj => ?_⟩
    have hj5 : j < 5 := by
      have := (List.getElem?_eq_some_iff.1 hj).1
      simpa [Tok.cells] using this
    have h1 := hr k hk3 j (by rw [hcells]; exact hj5)
    have h2 := (hc (k * 5 + j) (by omega)).1
    rw [Nat.add_assoc, h2]
    simp only [List.getElem_map] at h1
    match j, hj5 with
    | 0, _ => cases hj; exact congrArg some h1.atomEq
    | 1, _ => cases hj; exact congrArg some h1.atomEq
    | 2, _ => cases hj; exact congrArg some h1.atomEq
    | 3, _ => cases hj; exact congrArg some h1.atomEq
    | 4, _ => cases hj; exact congrArg some h1.atomEq
def wordB (kind : Int) (p : List Int) : ByteArray := ⟨(wordS kind.toNat (p.map Int.toNat)).toArray⟩
theorem wordB_ok (kind : Int) (p : List Int) : WordOK (wordB kind p).data.toList := wordS_ok _ _
/-- The laws' function word, without addresses. -/
theorem wordA_any (kind : Int) (h1 : 0 ≤ kind) (h2 : kind ≤ 255) (o : Own) (p : List Int) (hp : ∀ x ∈ p, 0 ≤ x ∧ x ≤ 255) (hn : p.length ≤ 140737488355328) (m : M) :
    ACalls Try.prog 10 [pU kind, .sl o (p.map pU)] m (fun v m' => v = .v (.string (wordB kind p)) ∧ m' = m) := by
  refine ⟨by kernel_rfl, fun G w vs hI hl hr => ?_⟩
  obtain ⟨v0, v1, rfl⟩ : ∃ v0 v1, vs = [v0, v1] := by
    match vs, hl with
    | [v0, v1], _ => exact ⟨v0, v1, rfl⟩
  have e0 := hr 0 (by simp) (by simp)
  have e1 := hr 1 (by simp) (by simp)
  simp only [List.getElem_cons_zero, List.getElem_cons_succ] at e0 e1
  have e2 : v0 = .int .u8 kind := e0.atomEq
  subst e2
  obtain ⟨A, n, cap, rfl, hb⟩ := rep_byt e1 hp
  obtain rfl : (p.map Int.toNat).length = n := hb.1
  have hc := wordf_any kind.toNat A _ cap _ w hb (by omega) (by simpa using hn)
  rw [show ((kind.toNat : Nat) : Int) = kind by omega] at hc
  refine hc.mono ?_
  rintro e w' ⟨S, rfl, hS, hbel⟩
  obtain ⟨hI', hE⟩ := hI.grown hbel
  have e3 : S = wordB kind p := by
    obtain ⟨⟨d⟩⟩ := S
    simp only at hS
    simp [wordB, ← hS]
  subst e3
  exact .inl ⟨_, _, m, _, rfl, ⟨rfl, rfl⟩, .v rfl, hI', hE⟩
/-- lex.Join, without addresses. -/
theorem join_any (o : Own) (l : List Tok) (hn : l.length ≤ 140737488355328) (hs : (joinK l l.length).length ≤ 140737488355328) (m : M) :
    ACalls Try.prog 13 [.sl o (l.map tokPV)] m (fun v m' => v = .v (.string ⟨(joinK l l.length).toArray⟩) ∧ m' = m) := by
  refine ⟨by kernel_rfl, fun G w vs hI hl hr => ?_⟩
  obtain ⟨v0, rfl⟩ : ∃ v0, vs = [v0] := by
    match vs, hl with
    | [v0], _ => exact ⟨v0, rfl⟩
  have e0 := hr 0 (by simp) (by simp)
  simp only [List.getElem_cons_zero] at e0
  obtain ⟨A, n, cap, rfl, hb⟩ := rep_trow e0
  obtain rfl : l.length = n := hb.1
  refine (join_walk A _ cap l w hb hn hs).mono ?_
  rintro e w' ⟨rfl, hbel⟩
  obtain ⟨hI', hE⟩ := hI.grown hbel
  exact .inl ⟨_, _, m, _, rfl, ⟨rfl, rfl⟩, .v rfl, hI', hE⟩
end Go.Proofs.Ytijdhfjdnndkmaa

/-
  The law LexJoins.
-/
set_option linter.unusedVariables false
set_option linter.unusedSimpArgs false
namespace Go.Proofs.Ytijdhfjdnndkmaa
open Go
set_option maxRecDepth 20000
-- TNAMES: int; uint8; int32; string; bool; error; api.Pos; lex.Token; []lex.Token; []uint8; []string
set_option linter.defProp false
def tfLxJo := And.intro @nk_1 (And.intro @td_2 (And.intro @zv_2 (And.intro @Try.underlying2 (And.intro @td_3 (And.intro @zv_3 (And.intro @Try.underlying3 (And.intro @td_4 (And.intro @zv_4 (And.intro @Try.underlying4 (And.intro @td_5 (And.intro @zv_5 (And.intro @Try.underlying5 (And.intro @td_6 (And.intro @zv_6 (And.intro @Try.underlying6 (And.intro @td_7 (And.intro @zv_7 (And.intro @tf_7 (And.intro @td_8 (And.intro @zv_8 (And.intro @tf_8 (And.intro @td_9 (And.intro @zv_9 (And.intro @Try.underlying9 (And.intro @td_10 (And.intro @zv_10 (And.intro @Try.underlying10 (And.intro @td_11 (And.intro @zv_11 (And.intro @Try.underlying11 (And.intro @td_12 (And.intro @zv_12 (And.intro @Try.underlying12 (And.intro @td_13 (And.intro @zv_13 (And.intro @tf_13 (And.intro @td_14 (And.intro @zv_14 (And.intro @tf_14 (And.intro @nk_15 (And.intro @td_15 (And.intro @zv_15 (And.intro @Try.underlying15 (And.intro @nk_16 (And.intro @td_16 (And.intro @zv_16 (And.intro @Try.underlying16 (And.intro @nk_17 (And.intro @td_17 (And.intro @zv_17 (And.intro @Try.underlying17 (And.intro @td_18 (And.intro @zv_18 (And.intro @tf_18 (And.intro @td_19 (And.intro @zv_19 (And.intro @tf_19 (And.intro @nk_20 (And.intro @td_20 (And.intro @zv_20 (And.intro @td_21 (And.intro @zv_21 (And.intro @Try.underlying21 (And.intro @td_22 (And.intro @zv_22 (And.intro @tel_22 (And.intro @Try.underlying22 (And.intro @nk_23 (And.intro @nk_24 (And.intro @nk_25 (And.intro @nk_26 (And.intro @td_27 (And.intro @zv_27 (And.intro @tel_27 (And.intro @Try.underlying27 (And.intro @nk_28 (And.intro @td_29 (And.intro @zv_29 (And.intro @tel_29 (And.intro @Try.underlying29 (And.intro @nk_30 (And.intro @td_30 (And.intro @zv_30 (And.intro @nk_31 (And.intro @td_31 (And.intro @zv_31 (And.intro @nk_33 (And.intro @nk_34 (And.intro @td_35 (And.intro @zv_35 (And.intro @tf_35 (And.intro @fl_35 (And.intro @td_36 (And.intro @zv_36 (And.intro @tf_36 (And.intro @fl_36 (And.intro @td_37 (And.intro @zv_37 (And.intro @tf_37 (And.intro @td_38 (And.intro @zv_38 (And.intro @tf_38 (And.intro @nk_39 (And.intro @nk_40 (And.intro @nk_41 (And.intro @nk_42 (And.intro @td_43 (And.intro @zv_43 (And.intro @Try.underlying43 (And.intro @nk_44 (And.intro @td_44 (And.intro @zv_44 (And.intro @Try.underlying44 (And.intro @td_45 (And.intro @zv_45 (And.intro @tf_45 (And.intro @td_46 (And.intro @zv_46 (And.intro @tf_46 (And.intro @nk_47 (And.intro @nk_48 (And.intro @nk_49 (And.intro @td_49 (And.intro @zv_49 (And.intro @Try.underlying49 (And.intro @td_50 (And.intro @zv_50 (And.intro @tf_50 (And.intro @td_51 (And.intro @zv_51 (And.intro @tf_51 (And.intro @nk_52 (And.intro @nk_54 (And.intro @nk_55 (And.intro @nk_56 (And.intro @nk_57 (And.intro @td_57 (And.intro @zv_57 (And.intro @Try.underlying57 (And.intro @td_58 (And.intro @zv_58 (And.intro @tf_58 (And.intro @td_59 (And.intro @zv_59 (And.intro @tf_59 (And.intro @nk_60 (And.intro @nk_61 (And.intro @td_61 (And.intro @zv_61 (And.intro @Try.underlying61 (And.intro @nk_62 (And.intro @td_63 (And.intro @zv_63 (And.intro @tf_63 (And.intro @tel_63 (And.intro @ta_63 (And.intro @Try.underlying63 (And.intro @nk_64 (And.intro @td_65 (And.intro @zv_65 (And.intro @nk_66 (And.intro @nk_67 (And.intro @td_68 (And.intro @zv_68 (And.intro @Try.underlying68 (And.intro @td_69 (And.intro @zv_69 (And.intro @Try.underlying69 (And.intro @nk_71 (And.intro @td_72 (And.intro @zv_72 (And.intro @tf_72 (And.intro @td_73 (And.intro @zv_73 (And.intro @tf_73 (And.intro @td_74 (And.intro @zv_74 (And.intro @tf_74 (And.intro @tel_74 (And.intro @ta_74 (And.intro @Try.underlying74 (And.intro @td_75 (And.intro @zv_75 (And.intro @tf_75 (And.intro @td_76 (And.intro @zv_76 (And.intro @tf_76 (And.intro @nk_77 (And.intro @td_78 (And.intro @zv_78 (And.intro @Try.underlying78 (And.intro @td_79 (And.intro @zv_79 (And.intro @Try.underlying79 (And.intro @nk_80 (And.intro @td_81 (And.intro @zv_81 (And.intro @Try.underlying81 (And.intro @td_82 (And.intro @zv_82 (And.intro @Try.underlying82 (And.intro @td_83 (And.intro @zv_83 (And.intro @tf_83 (And.intro @td_84 (And.intro @zv_84 (And.intro @tf_84 (And.intro @Ex.settle_pv (And.intro @Ex.pure_pv (And.intro @Ex.cells_pv (And.intro @Ex.cs.eq_1 (And.intro @On.pv.eq_1 (And.intro @Ty.pv.eq_1 (And.intro @Va.settle_pv (And.intro @Va.pure_pv (And.intro @Va.cells_pv @Va.cs.eq_1))))))))))))))))))))))))))))))))))))))))))))))))))))))))))))))))))))))))))))))))))))))))))))))))))))))))))))))))))))))))))))))))))))))))))))))))))))))))))))))))))))))))))))))))))))))))))))))))))))))))))))))))))))))))

theorem strip_eq {a b : Tok} (h : a.strip = b.strip) : a.kind = b.kind ∧ a.text = b.text ∧ a.n = b.n := by
  obtain ⟨k, t, n, l, c⟩ := a
  obtain ⟨k', t', n', l', c'⟩ := b
  simp only [Tok.strip, Prod.mk.injEq] at h
  obtain ⟨h1, h2, h3⟩ := h
  obtain ⟨⟨t⟩⟩ := t
  obtain ⟨⟨t'⟩⟩ := t'
  simp only at h2
  exact ⟨h1, by simp [h2], h3⟩
theorem words_ok (s : ByteArray) (hs : s.size ≤ 281474976710656) (h : (lexAll s).ok = true) (m : M) : ACalls Try.prog 11 [.v (.string s)] m (fun v m' => v = .tp [.sl .no ((lexAll s).toks.map tokPV), .v .nilIface] ∧ m' = m) := by
  have := lexWords_any s hs m
  unfold wordsPV at this
  rwa [if_pos h] at this
theorem sameT_any (a b : Tok) (h : a.strip = b.strip) (m : M) : ACalls Try.prog 12 [tokPV a, tokPV b] m (fun v m' => v = pB true ∧ m' = m) := by
  obtain ⟨h1, h2, h3⟩ := strip_eq h
  unfold tokPV
  rw [h1, h2, h3]
  refine ACalls.enter (mu := []) ok_mix Try.func12 rfl (by kernel_rfl) (by kernel_rfl) (by simp only [List.length_cons, List.length_nil, Try.ntmps12]; omega) ?_
  (repeat (first | (refine aSeq (fun X hX => ?_)) | (refine aBlk ?_) | (refine aSkip ?_) | ((first | refine aReg ?_ | refine aDrw (fun m2 => m2 = _) (by kernel_rfl) rfl ?_); simp -implicitDefEqProofs only [forall_eq, ↓slp, slb, ↓reduceIte, reduceCtorEq, Nat.reduceEqDiff, Nat.reduceAdd, Nat.reduceMul, Nat.reduceLT, Nat.reduceLeDiff, Nat.reduceBEq, Nat.reduceBNe, Int.reduceLE, Int.reduceLT, Int.reduceToNat, Int.reduceEq, tfLxJo]; try simp only [Ex.fold, Ex.foldcs, ← Va.pv.eq_1]) | (refine aExit ?_; simp only [slx, ↓reduceIte, Nat.reduceEqDiff, reduceCtorEq]) | (refine aRet ?_; try simp only [slx, ↓reduceIte, Nat.reduceEqDiff, reduceCtorEq]) | (refine hX _ _ ?_; clear hX X) | (clear hX X; refine hX _ _ ?_; clear hX X) | (clear hX X; clear hX X; refine hX _ _ ?_; clear hX X) | (intro hlen; unfold maxLen at hlen) | (apply And.intro; (focus (first | omega | assumption | (repeat' apply And.intro) <;> first | omega | assumption)))))
  simp only [aPost, Try.results12, aRes_n, aRes_t, aRes_c, pack_one, pack_two]
  exact leave_same rfl ⟨rfl, rfl⟩
theorem awHook_ok : CallOk Try.prog (lexHook noHook) := lexHook_ok noHook_ok
theorem awakeL (m : M) : ACalls Try.prog 7 [] m (fun v m' => v = .v (.bool true) ∧ m' = m) := ACalls.ranD (mus := fun _ => []) (hook := lexHook noHook) (k := 300) ok_mix awHook_ok (by kernel_rfl) m ⟨rfl, rfl⟩
theorem get_tok (l : List Tok) (k : Nat) (h : k < l.length) : (l.map tokPV).getD k .junk = tokPV l[k] := getD_map tokPV l k h
theorem tok_cells' (t : Tok) : (tokPV t).cells = [.v (.int .u8 t.kind), .v (.string t.text), .v (.int .i32 t.n), .v (.int .i64 t.line), .v (.int .i64 t.col)] := rfl
theorem size_data (s : ByteArray) (l : List UInt8) (h : s.data.toList = l) : s.size = l.length := by rw [← h]; rfl
theorem bytes_eq {s t : ByteArray} (h : s.data.toList = t.data.toList) : s = t := by
  obtain ⟨⟨s⟩⟩ := s
  obtain ⟨⟨t⟩⟩ := t
  simp only at h
  rw [h]

theorem tok_text {l : List Tok} {ws : List ByteArray} (h : l.map Tok.strip = (ws.map fun x => tkL x.data.toList) ++ [(0, [], 0)]) (k : Nat) (h1 : k < l.length) (h2 : k < ws.length) : l[k].text = ws[k] := by
  have e : (l[k]).strip = tkL (ws[k]).data.toList := by
    have h3 : (l.map Tok.strip)[k]? = ((ws.map fun x => tkL x.data.toList) ++ [(0, [], 0)])[k]? := by rw [h]
    rw [List.getElem?_append_left (by simpa using h2)] at h3
    simpa [h1, h2] using h3
  exact bytes_eq (congrArg (fun p : Int × List UInt8 × Int => p.2.1) e)
set_option maxHeartbeats 16000000 in
theorem joins_any (ks p : List Int) (hks : ∀ x ∈ ks, 0 ≤ x ∧ x ≤ 255) (hp : ∀ x ∈ p, 0 ≤ x ∧ x ≤ 255) (hkn : ks.length ≤ 140737488355328) (hpn : p.length ≤ 140737488355328) :
    ACalls Try.prog 5 [.sl .no (ks.map pU), .sl .no (p.map pU)] M0 (fun v m' => v = .v (.bool true)) := by
  refine ACalls.enter (mu := []) ok_mix Try.func5 rfl (by kernel_rfl) (by kernel_rfl) (by simp only [List.length_cons, List.length_nil, Try.ntmps5]; omega) ?_
  cases c1 : decide ((ks.length : Int) > 40) with
  | true =>
    (repeat (first | (refine aSeq (fun X hX => ?_)) | (refine aBlk ?_) | (refine aSkip ?_) | ((first | refine aReg ?_ | refine aDrw (fun m2 => m2 = _) (by kernel_rfl) rfl ?_); simp -implicitDefEqProofs only [forall_eq, ↓slp, slb, ↓reduceIte, reduceCtorEq, Nat.reduceEqDiff, Nat.reduceAdd, Nat.reduceMul, Nat.reduceLT, Nat.reduceLeDiff, Nat.reduceBEq, Nat.reduceBNe, Int.reduceLE, Int.reduceLT, Int.reduceToNat, Int.reduceEq, tfLxJo, c1]; try simp only [Ex.fold, Ex.foldcs, ← Va.pv.eq_1]) | (refine aExit ?_; simp only [slx, ↓reduceIte, Nat.reduceEqDiff, reduceCtorEq]) | (refine aRet ?_; try simp only [slx, ↓reduceIte, Nat.reduceEqDiff, reduceCtorEq]) | (refine hX _ _ ?_; clear hX X) | (clear hX X; refine hX _ _ ?_; clear hX X) | (clear hX X; clear hX X; refine hX _ _ ?_; clear hX X) | (intro hlen; unfold maxLen at hlen) | (apply And.intro; (focus (first | omega | assumption | (repeat' apply And.intro) <;> first | omega | assumption)))))
    refine callE (awakeL _) ?_
    simp -implicitDefEqProofs only [↓slp, slb, ↓reduceIte, reduceCtorEq, Nat.reduceEqDiff, Nat.reduceAdd, Nat.reduceMul, Nat.reduceLT, Nat.reduceLeDiff, Nat.reduceBEq, Nat.reduceBNe, Int.reduceLE, Int.reduceLT, Int.reduceToNat, Int.reduceEq, tfLxJo, pB, c1]; try simp only [Ex.fold, Ex.foldcs, ← Va.pv.eq_1]
    (repeat (first | (refine aSeq (fun X hX => ?_)) | (refine aBlk ?_) | (refine aSkip ?_) | ((first | refine aReg ?_ | refine aDrw (fun m2 => m2 = _) (by kernel_rfl) rfl ?_); simp -implicitDefEqProofs only [forall_eq, ↓slp, slb, ↓reduceIte, reduceCtorEq, Nat.reduceEqDiff, Nat.reduceAdd, Nat.reduceMul, Nat.reduceLT, Nat.reduceLeDiff, Nat.reduceBEq, Nat.reduceBNe, Int.reduceLE, Int.reduceLT, Int.reduceToNat, Int.reduceEq, tfLxJo, c1]; try simp only [Ex.fold, Ex.foldcs, ← Va.pv.eq_1]) | (refine aExit ?_; simp only [slx, ↓reduceIte, Nat.reduceEqDiff, reduceCtorEq]) | (refine aRet ?_; try simp only [slx, ↓reduceIte, Nat.reduceEqDiff, reduceCtorEq]) | (refine hX _ _ ?_; clear hX X) | (clear hX X; refine hX _ _ ?_; clear hX X) | (clear hX X; clear hX X; refine hX _ _ ?_; clear hX X) | (intro hlen; unfold maxLen at hlen) | (apply And.intro; (focus (first | omega | assumption | (repeat' apply And.intro) <;> first | omega | assumption)))))
    refine aIf ?_; simp -implicitDefEqProofs only [↓slp, slb, ↓reduceIte, reduceCtorEq, Nat.reduceEqDiff, Nat.reduceAdd, Nat.reduceMul, Nat.reduceLT, Nat.reduceLeDiff, Nat.reduceBEq, Nat.reduceBNe, Int.reduceLE, Int.reduceLT, Int.reduceToNat, Int.reduceEq]
    (repeat (first | (refine aSeq (fun X hX => ?_)) | (refine aBlk ?_) | (refine aSkip ?_) | ((first | refine aReg ?_ | refine aDrw (fun m2 => m2 = _) (by kernel_rfl) rfl ?_); simp -implicitDefEqProofs only [forall_eq, ↓slp, slb, ↓reduceIte, reduceCtorEq, Nat.reduceEqDiff, Nat.reduceAdd, Nat.reduceMul, Nat.reduceLT, Nat.reduceLeDiff, Nat.reduceBEq, Nat.reduceBNe, Int.reduceLE, Int.reduceLT, Int.reduceToNat, Int.reduceEq, tfLxJo]; try simp only [Ex.fold, Ex.foldcs, ← Va.pv.eq_1]) | (refine aExit ?_; simp only [slx, ↓reduceIte, Nat.reduceEqDiff, reduceCtorEq]) | (refine aRet ?_; try simp only [slx, ↓reduceIte, Nat.reduceEqDiff, reduceCtorEq]) | (refine hX _ _ ?_; clear hX X) | (clear hX X; refine hX _ _ ?_; clear hX X) | (clear hX X; clear hX X; refine hX _ _ ?_; clear hX X) | (intro hlen; unfold maxLen at hlen) | (apply And.intro; (focus (first | omega | assumption | (repeat' apply And.intro) <;> first | omega | assumption)))))
    refine callE (awakeL _) ?_
    simp -implicitDefEqProofs only [↓slp, slb, ↓reduceIte, reduceCtorEq, Nat.reduceEqDiff, Nat.reduceAdd, Nat.reduceMul, Nat.reduceLT, Nat.reduceLeDiff, Nat.reduceBEq, Nat.reduceBNe, Int.reduceLE, Int.reduceLT, Int.reduceToNat, Int.reduceEq, tfLxJo, pB, c1]; try simp only [Ex.fold, Ex.foldcs, ← Va.pv.eq_1]
    (repeat (first | (refine aSeq (fun X hX => ?_)) | (refine aBlk ?_) | (refine aSkip ?_) | ((first | refine aReg ?_ | refine aDrw (fun m2 => m2 = _) (by kernel_rfl) rfl ?_); simp -implicitDefEqProofs only [forall_eq, ↓slp, slb, ↓reduceIte, reduceCtorEq, Nat.reduceEqDiff, Nat.reduceAdd, Nat.reduceMul, Nat.reduceLT, Nat.reduceLeDiff, Nat.reduceBEq, Nat.reduceBNe, Int.reduceLE, Int.reduceLT, Int.reduceToNat, Int.reduceEq, tfLxJo, c1]; try simp only [Ex.fold, Ex.foldcs, ← Va.pv.eq_1]) | (refine aExit ?_; simp only [slx, ↓reduceIte, Nat.reduceEqDiff, reduceCtorEq]) | (refine aRet ?_; try simp only [slx, ↓reduceIte, Nat.reduceEqDiff, reduceCtorEq]) | (refine hX _ _ ?_; clear hX X) | (clear hX X; refine hX _ _ ?_; clear hX X) | (clear hX X; clear hX X; refine hX _ _ ?_; clear hX X) | (intro hlen; unfold maxLen at hlen) | (apply And.intro; (focus (first | omega | assumption | (repeat' apply And.intro) <;> first | omega | assumption)))))
    simp only [aPost, Try.results5, aRes_n, aRes_t, aRes_c, pack_one, pack_two]
    exact leave_same rfl rfl
  | false =>
  have hk40 : ks.length ≤ 40 := by simp at c1; omega
  (repeat (first | (refine aSeq (fun X hX => ?_)) | (refine aBlk ?_) | (refine aSkip ?_) | ((first | refine aReg ?_ | refine aDrw (fun m2 => m2 = _) (by kernel_rfl) rfl ?_); simp -implicitDefEqProofs only [forall_eq, ↓slp, slb, ↓reduceIte, reduceCtorEq, Nat.reduceEqDiff, Nat.reduceAdd, Nat.reduceMul, Nat.reduceLT, Nat.reduceLeDiff, Nat.reduceBEq, Nat.reduceBNe, Int.reduceLE, Int.reduceLT, Int.reduceToNat, Int.reduceEq, tfLxJo, c1]; try simp only [Ex.fold, Ex.foldcs, ← Va.pv.eq_1]) | (refine aExit ?_; simp only [slx, ↓reduceIte, Nat.reduceEqDiff, reduceCtorEq]) | (refine aRet ?_; try simp only [slx, ↓reduceIte, Nat.reduceEqDiff, reduceCtorEq]) | (refine hX _ _ ?_; clear hX X) | (clear hX X; refine hX _ _ ?_; clear hX X) | (clear hX X; clear hX X; refine hX _ _ ?_; clear hX X) | (intro hlen; unfold maxLen at hlen) | (apply And.intro; (focus (first | omega | assumption | (repeat' apply And.intro) <;> first | omega | assumption)))))
  refine callE (awakeL _) ?_
  simp -implicitDefEqProofs only [↓slp, slb, ↓reduceIte, reduceCtorEq, Nat.reduceEqDiff, Nat.reduceAdd, Nat.reduceMul, Nat.reduceLT, Nat.reduceLeDiff, Nat.reduceBEq, Nat.reduceBNe, Int.reduceLE, Int.reduceLT, Int.reduceToNat, Int.reduceEq, tfLxJo, pB, c1]; try simp only [Ex.fold, Ex.foldcs, ← Va.pv.eq_1]
  (repeat (first | (refine aSeq (fun X hX => ?_)) | (refine aBlk ?_) | (refine aSkip ?_) | ((first | refine aReg ?_ | refine aDrw (fun m2 => m2 = _) (by kernel_rfl) rfl ?_); simp -implicitDefEqProofs only [forall_eq, ↓slp, slb, ↓reduceIte, reduceCtorEq, Nat.reduceEqDiff, Nat.reduceAdd, Nat.reduceMul, Nat.reduceLT, Nat.reduceLeDiff, Nat.reduceBEq, Nat.reduceBNe, Int.reduceLE, Int.reduceLT, Int.reduceToNat, Int.reduceEq, tfLxJo, c1]; try simp only [Ex.fold, Ex.foldcs, ← Va.pv.eq_1]) | (refine aExit ?_; simp only [slx, ↓reduceIte, Nat.reduceEqDiff, reduceCtorEq]) | (refine aRet ?_; try simp only [slx, ↓reduceIte, Nat.reduceEqDiff, reduceCtorEq]) | (refine hX _ _ ?_; clear hX X) | (clear hX X; refine hX _ _ ?_; clear hX X) | (clear hX X; clear hX X; refine hX _ _ ?_; clear hX X) | (intro hlen; unfold maxLen at hlen) | (apply And.intro; (focus (first | omega | assumption | (repeat' apply And.intro) <;> first | omega | assumption)))))
  refine aIf ?_; simp -implicitDefEqProofs only [↓slp, slb, ↓reduceIte, reduceCtorEq, Nat.reduceEqDiff, Nat.reduceAdd, Nat.reduceMul, Nat.reduceLT, Nat.reduceLeDiff, Nat.reduceBEq, Nat.reduceBNe, Int.reduceLE, Int.reduceLT, Int.reduceToNat, Int.reduceEq]
  (repeat (first | (refine aSeq (fun X hX => ?_)) | (refine aBlk ?_) | (refine aSkip ?_) | ((first | refine aReg ?_ | refine aDrw (fun m2 => m2 = _) (by kernel_rfl) rfl ?_); simp -implicitDefEqProofs only [forall_eq, ↓slp, slb, ↓reduceIte, reduceCtorEq, Nat.reduceEqDiff, Nat.reduceAdd, Nat.reduceMul, Nat.reduceLT, Nat.reduceLeDiff, Nat.reduceBEq, Nat.reduceBNe, Int.reduceLE, Int.reduceLT, Int.reduceToNat, Int.reduceEq, tfLxJo]; try simp only [Ex.fold, Ex.foldcs, ← Va.pv.eq_1]) | (refine aExit ?_; simp only [slx, ↓reduceIte, Nat.reduceEqDiff, reduceCtorEq]) | (refine aRet ?_; try simp only [slx, ↓reduceIte, Nat.reduceEqDiff, reduceCtorEq]) | (refine hX _ _ ?_; clear hX X) | (clear hX X; refine hX _ _ ?_; clear hX X) | (clear hX X; clear hX X; refine hX _ _ ?_; clear hX X) | (intro hlen; unfold maxLen at hlen) | (apply And.intro; (focus (first | omega | assumption | (repeat' apply And.intro) <;> first | omega | assumption)))))
  obtain ⟨I, hI⟩ : ∃ I : F → M → Prop, ∀ f m', I f m' = (∃ (k : Nat) (o : Own) (T : ByteArray) (ws : List ByteArray), k ≤ ks.length ∧ f 0 = .sl .no (ks.map pU) ∧ f 1 = .sl .no (p.map pU) ∧ f 5 = .v (.string T) ∧ f 6 = .sl o (ws.map pS) ∧ f 7 = pI k ∧ Toks M0 m' ∧ Mine M0 m' o 1 ∧
    ws.length = k ∧ T.size ≤ 33 * k ∧ (∀ x ∈ ws, WordOK x.data.toList) ∧ Reads T.data.toList (ws.map fun x => tkL x.data.toList)) := ⟨_, fun _ _ => rfl⟩
  refine aLoop I (fun f m => ks.length - numOf (f 7)) ?_ ?_
  · rw [hI]; exact ⟨0, .full, ⟨#[]⟩, [], by omega, rfl, rfl, rfl, rfl, rfl, .refl _, .full, rfl, by decide, by simp, reads_nil⟩
  intro f m' hrel
  rw [hI] at hrel
  obtain ⟨k, o, T, ws, hk, h0, h1, h5, h6, h7, ht, hm, hws, hT, hwo, hR⟩ := hrel
  (repeat (first | (refine aSeq (fun X hX => ?_)) | (refine aBlk ?_) | (refine aSkip ?_) | ((first | refine aReg ?_ | refine aDrw (fun m2 => m2 = _) (by kernel_rfl) rfl ?_); simp -implicitDefEqProofs only [forall_eq, ↓slp, slb, ↓reduceIte, reduceCtorEq, Nat.reduceEqDiff, Nat.reduceAdd, Nat.reduceMul, Nat.reduceLT, Nat.reduceLeDiff, Nat.reduceBEq, Nat.reduceBNe, Int.reduceLE, Int.reduceLT, Int.reduceToNat, Int.reduceEq, tfLxJo, h0, h7, pI]; try simp only [Ex.fold, Ex.foldcs, ← Va.pv.eq_1]) | (refine aExit ?_; simp only [slx, ↓reduceIte, Nat.reduceEqDiff, reduceCtorEq]) | (refine aRet ?_; try simp only [slx, ↓reduceIte, Nat.reduceEqDiff, reduceCtorEq]) | (refine hX _ _ ?_; clear hX X) | (clear hX X; refine hX _ _ ?_; clear hX X) | (clear hX X; clear hX X; refine hX _ _ ?_; clear hX X) | (intro hlen; unfold maxLen at hlen) | (apply And.intro; (focus (first | omega | assumption | (repeat' apply And.intro) <;> first | omega | assumption)))))
  refine aIf ?_; simp -implicitDefEqProofs only [↓slp, slb, ↓reduceIte, reduceCtorEq, Nat.reduceEqDiff, Nat.reduceAdd, Nat.reduceMul, Nat.reduceLT, Nat.reduceLeDiff, Nat.reduceBEq, Nat.reduceBNe, Int.reduceLE, Int.reduceLT, Int.reduceToNat, Int.reduceEq]; refine ⟨fun hb => ?_, fun hb => ?_⟩
  · have hlt : k < ks.length := by simpa using hb
    have x0 := getD_map pU ks k hlt
    have hm3 : IntKind.i64.wrap ((k : Int) * 3) = ((k * 3 : Nat) : Int) := by rw [wrap64 (by omega)]; omega
    have hi : IntKind.i64.wrap ((k : Int) + 1) = ((k + 1 : Nat) : Int) := by rw [wrap64 (by omega)]; omega
    have hc1 : (pU ks[k]).cells = [pU ks[k]] := rfl
    cases c2 : decide (((k * 3 : Nat) : Int) > (p.length : Int)) with
    | true =>
      (repeat (first | (refine aSeq (fun X hX => ?_)) | (refine aBlk ?_) | (refine aSkip ?_) | ((first | refine aReg ?_ | refine aDrw (fun m2 => m2 = _) (by kernel_rfl) rfl ?_); simp -implicitDefEqProofs only [forall_eq, ↓slp, slb, ↓reduceIte, reduceCtorEq, Nat.reduceEqDiff, Nat.reduceAdd, Nat.reduceMul, Nat.reduceLT, Nat.reduceLeDiff, Nat.reduceBEq, Nat.reduceBNe, Int.reduceLE, Int.reduceLT, Int.reduceToNat, Int.reduceEq, tfLxJo, h0, h1, h7, pI, hm3, c2]; try simp only [Ex.fold, Ex.foldcs, ← Va.pv.eq_1]) | (refine aExit ?_; simp only [slx, ↓reduceIte, Nat.reduceEqDiff, reduceCtorEq]) | (refine aRet ?_; try simp only [slx, ↓reduceIte, Nat.reduceEqDiff, reduceCtorEq]) | (refine hX _ _ ?_; clear hX X) | (clear hX X; refine hX _ _ ?_; clear hX X) | (clear hX X; clear hX X; refine hX _ _ ?_; clear hX X) | (intro hlen; unfold maxLen at hlen) | (apply And.intro; (focus (first | omega | assumption | (repeat' apply And.intro) <;> first | omega | assumption)))))
      refine aIf ?_; simp -implicitDefEqProofs only [↓slp, slb, ↓reduceIte, reduceCtorEq, Nat.reduceEqDiff, Nat.reduceAdd, Nat.reduceMul, Nat.reduceLT, Nat.reduceLeDiff, Nat.reduceBEq, Nat.reduceBNe, Int.reduceLE, Int.reduceLT, Int.reduceToNat, Int.reduceEq]
      (repeat (first | (refine aSeq (fun X hX => ?_)) | (refine aBlk ?_) | (refine aSkip ?_) | ((first | refine aReg ?_ | refine aDrw (fun m2 => m2 = _) (by kernel_rfl) rfl ?_); simp -implicitDefEqProofs only [forall_eq, ↓slp, slb, ↓reduceIte, reduceCtorEq, Nat.reduceEqDiff, Nat.reduceAdd, Nat.reduceMul, Nat.reduceLT, Nat.reduceLeDiff, Nat.reduceBEq, Nat.reduceBNe, Int.reduceLE, Int.reduceLT, Int.reduceToNat, Int.reduceEq, tfLxJo, h0, h1, h7, pI, hm3, c2, x0, hc1]; try simp only [Ex.fold, Ex.foldcs, ← Va.pv.eq_1]) | (refine aExit ?_; simp only [slx, ↓reduceIte, Nat.reduceEqDiff, reduceCtorEq]) | (refine aRet ?_; try simp only [slx, ↓reduceIte, Nat.reduceEqDiff, reduceCtorEq]) | (refine hX _ _ ?_; clear hX X) | (clear hX X; refine hX _ _ ?_; clear hX X) | (clear hX X; clear hX X; refine hX _ _ ?_; clear hX X) | (intro hlen; unfold maxLen at hlen) | (apply And.intro; (focus (first | omega | assumption | (repeat' apply And.intro) <;> first | omega | assumption)))))
      have hsl : List.drop (p.length) (List.take p.length (List.map pU p)) = (p.drop (p.length)).map pU := by
        rw [← List.map_take, List.take_length, List.map_drop]
      refine ⟨⟨by omega, Int.le_refl _, _, rfl, fun x hx => ?_⟩, ?_⟩
      · obtain ⟨a, _, rfl⟩ := List.mem_map.1 hx
        rfl
      rw [hsl]
      have hkb := hks _ (List.getElem_mem hlt)
      refine callE (wordA_any ks[k] hkb.1 hkb.2 .no (p.drop (p.length)) (fun x hx => hp x (List.mem_of_mem_drop hx)) (by rw [List.length_drop]; omega) _) ?_
      have hW := wordB_ok ks[k] (p.drop (p.length))
      generalize wordB ks[k] (p.drop (p.length)) = Wb at *
      simp -implicitDefEqProofs only [↓slp, slb, ↓reduceIte, reduceCtorEq, Nat.reduceEqDiff, Nat.reduceAdd, Nat.reduceMul, Nat.reduceLT, Nat.reduceLeDiff, Nat.reduceBEq, Nat.reduceBNe, Int.reduceLE, Int.reduceLT, Int.reduceToNat, Int.reduceEq, tfLxJo]; try simp only [Ex.fold, Ex.foldcs, ← Va.pv.eq_1]
      (repeat (first | (refine aSeq (fun X hX => ?_)) | (refine aBlk ?_) | (refine aSkip ?_) | (refine aExit ?_; simp only [slx, ↓reduceIte, Nat.reduceEqDiff, reduceCtorEq]) | (refine aRet ?_; try simp only [slx, ↓reduceIte, Nat.reduceEqDiff, reduceCtorEq]) | (refine hX _ _ ?_; clear hX X) | (clear hX X; refine hX _ _ ?_; clear hX X)))
      refine aReg ?_; simp -implicitDefEqProofs only [↓slp, slb, ↓reduceIte, reduceCtorEq, Nat.reduceEqDiff, Nat.reduceAdd, Nat.reduceMul, Nat.reduceLT, Nat.reduceLeDiff, Nat.reduceBEq, Nat.reduceBNe, Int.reduceLE, Int.reduceLT, Int.reduceToNat, Int.reduceEq, tfLxJo, h6]
      have hfr := hm.free
      have hll : ∀ x ∈ ws.map pS, x.cells.length = 1 := fun x hx => by
        obtain ⟨a, _, rfl⟩ := List.mem_map.1 hx
        rfl
      have hmx : ws.length + 1 ≤ maxLen := by unfold maxLen; omega
      have ht1 := ht.use (s := 1) hm
      have hm1 := Mine.new ht o 1
      have h32 : (⟨#[32]⟩ : ByteArray).size = 1 := rfl
      have hwl : Wb.size ≤ 32 := hW.2.1
      have hsz : (T ++ (Wb ++ ⟨#[32]⟩)).size ≤ 33 * (k + 1) := by
        rw [ByteArray.size_append, ByteArray.size_append, h32]; omega
      have hrd : Reads (T ++ (Wb ++ ⟨#[32]⟩)).data.toList ((ws ++ [Wb]).map fun x => tkL x.data.toList) := by
        have hdT : (T ++ (Wb ++ ⟨#[32]⟩)).data.toList = T.data.toList ++ (Wb.data.toList ++ [32]) := by simp [ByteArray.data_append]
        rw [hdT, List.map_append]
        exact (reads_word hR hW).1
      (repeat (first | (intro hlen; unfold maxLen at hlen) | (apply And.intro; (focus (first | omega | assumption | trivial | (repeat' apply And.intro) <;> first | omega | assumption | trivial)))))
      have hz1 : ((T.size + (Wb ++ ⟨#[32]⟩ : ByteArray).size : Nat) : Int) ≤ 9223372036854775807 := by
        rw [ByteArray.size_append, h32]; omega
      (repeat (first | (refine aSeq (fun X hX => ?_)) | (refine aBlk ?_) | (refine aSkip ?_) | ((first | refine aReg ?_ | refine aDrw (fun m2 => m2 = _) (by kernel_rfl) rfl ?_); simp -implicitDefEqProofs only [forall_eq, ↓slp, slb, ↓reduceIte, reduceCtorEq, Nat.reduceEqDiff, Nat.reduceAdd, Nat.reduceMul, Nat.reduceLT, Nat.reduceLeDiff, Nat.reduceBEq, Nat.reduceBNe, Int.reduceLE, Int.reduceLT, Int.reduceToNat, Int.reduceEq, tfLxJo, h5, h6, h7, hi, pI]; try simp only [Ex.fold, Ex.foldcs, ← Va.pv.eq_1]) | (refine aExit ?_; simp only [slx, ↓reduceIte, Nat.reduceEqDiff, reduceCtorEq]) | (refine aRet ?_; try simp only [slx, ↓reduceIte, Nat.reduceEqDiff, reduceCtorEq]) | (refine hX _ _ ?_; clear hX X) | (clear hX X; refine hX _ _ ?_; clear hX X) | (clear hX X; clear hX X; refine hX _ _ ?_; clear hX X) | (intro hlen; unfold maxLen at hlen) | (apply And.intro; (focus (first | omega | assumption | (repeat' apply And.intro) <;> first | omega | assumption)))))
      (repeat (first | (intro hlen; unfold maxLen at hlen) | (apply And.intro; (focus (first | omega | assumption | trivial | (repeat' apply And.intro) <;> first | omega | assumption | trivial)))))
      (repeat (first | (refine aSeq (fun X hX => ?_)) | (refine aBlk ?_) | (refine aSkip ?_) | ((first | refine aReg ?_ | refine aDrw (fun m2 => m2 = _) (by kernel_rfl) rfl ?_); simp -implicitDefEqProofs only [forall_eq, ↓slp, slb, ↓reduceIte, reduceCtorEq, Nat.reduceEqDiff, Nat.reduceAdd, Nat.reduceMul, Nat.reduceLT, Nat.reduceLeDiff, Nat.reduceBEq, Nat.reduceBNe, Int.reduceLE, Int.reduceLT, Int.reduceToNat, Int.reduceEq, tfLxJo, h5, h6, h7, hi, pI]; try simp only [Ex.fold, Ex.foldcs, ← Va.pv.eq_1]) | (refine aExit ?_; simp only [slx, ↓reduceIte, Nat.reduceEqDiff, reduceCtorEq]) | (refine aRet ?_; try simp only [slx, ↓reduceIte, Nat.reduceEqDiff, reduceCtorEq]) | (refine hX _ _ ?_; clear hX X) | (clear hX X; refine hX _ _ ?_; clear hX X) | (clear hX X; clear hX X; refine hX _ _ ?_; clear hX X) | (intro hlen; unfold maxLen at hlen) | (apply And.intro; (focus (first | omega | assumption | (repeat' apply And.intro) <;> first | omega | assumption)))))
      rw [hI]
      exact ⟨⟨k + 1, .tok m'.nt, _, ws ++ [Wb], hlt, h0, h1, rfl, by rw [List.map_append]; rfl, rfl, ht1, hm1, by simp [hws], hsz, fun x hx => (List.mem_append.1 hx).elim (hwo x) (fun h => by simp at h; rw [h]; exact hW), hrd⟩, by first | omega | (simp only [↓slp, slb, ↓reduceIte, reduceCtorEq, Nat.reduceEqDiff, Nat.reduceAdd, Nat.reduceMul, Nat.reduceLT, Nat.reduceLeDiff, Nat.reduceBEq, Nat.reduceBNe, Int.reduceLE, Int.reduceLT, Int.reduceToNat, Int.reduceEq, h7]; omega)⟩
    | false =>
      have hq : k * 3 ≤ p.length := by simp at c2; omega
      (repeat (first | (refine aSeq (fun X hX => ?_)) | (refine aBlk ?_) | (refine aSkip ?_) | ((first | refine aReg ?_ | refine aDrw (fun m2 => m2 = _) (by kernel_rfl) rfl ?_); simp -implicitDefEqProofs only [forall_eq, ↓slp, slb, ↓reduceIte, reduceCtorEq, Nat.reduceEqDiff, Nat.reduceAdd, Nat.reduceMul, Nat.reduceLT, Nat.reduceLeDiff, Nat.reduceBEq, Nat.reduceBNe, Int.reduceLE, Int.reduceLT, Int.reduceToNat, Int.reduceEq, tfLxJo, h0, h1, h7, pI, hm3, c2]; try simp only [Ex.fold, Ex.foldcs, ← Va.pv.eq_1]) | (refine aExit ?_; simp only [slx, ↓reduceIte, Nat.reduceEqDiff, reduceCtorEq]) | (refine aRet ?_; try simp only [slx, ↓reduceIte, Nat.reduceEqDiff, reduceCtorEq]) | (refine hX _ _ ?_; clear hX X) | (clear hX X; refine hX _ _ ?_; clear hX X) | (clear hX X; clear hX X; refine hX _ _ ?_; clear hX X) | (intro hlen; unfold maxLen at hlen) | (apply And.intro; (focus (first | omega | assumption | (repeat' apply And.intro) <;> first | omega | assumption)))))
      refine aIf ?_; simp -implicitDefEqProofs only [↓slp, slb, ↓reduceIte, reduceCtorEq, Nat.reduceEqDiff, Nat.reduceAdd, Nat.reduceMul, Nat.reduceLT, Nat.reduceLeDiff, Nat.reduceBEq, Nat.reduceBNe, Int.reduceLE, Int.reduceLT, Int.reduceToNat, Int.reduceEq]
      (repeat (first | (refine aSeq (fun X hX => ?_)) | (refine aBlk ?_) | (refine aSkip ?_) | ((first | refine aReg ?_ | refine aDrw (fun m2 => m2 = _) (by kernel_rfl) rfl ?_); simp -implicitDefEqProofs only [forall_eq, ↓slp, slb, ↓reduceIte, reduceCtorEq, Nat.reduceEqDiff, Nat.reduceAdd, Nat.reduceMul, Nat.reduceLT, Nat.reduceLeDiff, Nat.reduceBEq, Nat.reduceBNe, Int.reduceLE, Int.reduceLT, Int.reduceToNat, Int.reduceEq, tfLxJo, h0, h1, h7, pI, hm3, c2, x0, hc1]; try simp only [Ex.fold, Ex.foldcs, ← Va.pv.eq_1]) | (refine aExit ?_; simp only [slx, ↓reduceIte, Nat.reduceEqDiff, reduceCtorEq]) | (refine aRet ?_; try simp only [slx, ↓reduceIte, Nat.reduceEqDiff, reduceCtorEq]) | (refine hX _ _ ?_; clear hX X) | (clear hX X; refine hX _ _ ?_; clear hX X) | (clear hX X; clear hX X; refine hX _ _ ?_; clear hX X) | (intro hlen; unfold maxLen at hlen) | (apply And.intro; (focus (first | omega | assumption | (repeat' apply And.intro) <;> first | omega | assumption)))))
      have hsl : List.drop (k * 3) (List.take p.length (List.map pU p)) = (p.drop (k * 3)).map pU := by
        rw [← List.map_take, List.take_length, List.map_drop]
      refine ⟨⟨by omega, Int.le_refl _, _, rfl, fun x hx => ?_⟩, ?_⟩
      · obtain ⟨a, _, rfl⟩ := List.mem_map.1 hx
        rfl
      rw [hsl]
      have hkb := hks _ (List.getElem_mem hlt)
      refine callE (wordA_any ks[k] hkb.1 hkb.2 .no (p.drop (k * 3)) (fun x hx => hp x (List.mem_of_mem_drop hx)) (by rw [List.length_drop]; omega) _) ?_
      have hW := wordB_ok ks[k] (p.drop (k * 3))
      generalize wordB ks[k] (p.drop (k * 3)) = Wb at *
      simp -implicitDefEqProofs only [↓slp, slb, ↓reduceIte, reduceCtorEq, Nat.reduceEqDiff, Nat.reduceAdd, Nat.reduceMul, Nat.reduceLT, Nat.reduceLeDiff, Nat.reduceBEq, Nat.reduceBNe, Int.reduceLE, Int.reduceLT, Int.reduceToNat, Int.reduceEq, tfLxJo]; try simp only [Ex.fold, Ex.foldcs, ← Va.pv.eq_1]
      (repeat (first | (refine aSeq (fun X hX => ?_)) | (refine aBlk ?_) | (refine aSkip ?_) | (refine aExit ?_; simp only [slx, ↓reduceIte, Nat.reduceEqDiff, reduceCtorEq]) | (refine aRet ?_; try simp only [slx, ↓reduceIte, Nat.reduceEqDiff, reduceCtorEq]) | (refine hX _ _ ?_; clear hX X) | (clear hX X; refine hX _ _ ?_; clear hX X)))
      refine aReg ?_; simp -implicitDefEqProofs only [↓slp, slb, ↓reduceIte, reduceCtorEq, Nat.reduceEqDiff, Nat.reduceAdd, Nat.reduceMul, Nat.reduceLT, Nat.reduceLeDiff, Nat.reduceBEq, Nat.reduceBNe, Int.reduceLE, Int.reduceLT, Int.reduceToNat, Int.reduceEq, tfLxJo, h6]
      have hfr := hm.free
      have hll : ∀ x ∈ ws.map pS, x.cells.length = 1 := fun x hx => by
        obtain ⟨a, _, rfl⟩ := List.mem_map.1 hx
        rfl
      have hmx : ws.length + 1 ≤ maxLen := by unfold maxLen; omega
      have ht1 := ht.use (s := 1) hm
      have hm1 := Mine.new ht o 1
      have h32 : (⟨#[32]⟩ : ByteArray).size = 1 := rfl
      have hwl : Wb.size ≤ 32 := hW.2.1
      have hsz : (T ++ (Wb ++ ⟨#[32]⟩)).size ≤ 33 * (k + 1) := by
        rw [ByteArray.size_append, ByteArray.size_append, h32]; omega
      have hrd : Reads (T ++ (Wb ++ ⟨#[32]⟩)).data.toList ((ws ++ [Wb]).map fun x => tkL x.data.toList) := by
        have hdT : (T ++ (Wb ++ ⟨#[32]⟩)).data.toList = T.data.toList ++ (Wb.data.toList ++ [32]) := by simp [ByteArray.data_append]
        rw [hdT, List.map_append]
        exact (reads_word hR hW).1
      (repeat (first | (intro hlen; unfold maxLen at hlen) | (apply And.intro; (focus (first | omega | assumption | trivial | (repeat' apply And.intro) <;> first | omega | assumption | trivial)))))
      have hz1 : ((T.size + (Wb ++ ⟨#[32]⟩ : ByteArray).size : Nat) : Int) ≤ 9223372036854775807 := by
        rw [ByteArray.size_append, h32]; omega
      (repeat (first | (refine aSeq (fun X hX => ?_)) | (refine aBlk ?_) | (refine aSkip ?_) | ((first | refine aReg ?_ | refine aDrw (fun m2 => m2 = _) (by kernel_rfl) rfl ?_); simp -implicitDefEqProofs only [forall_eq, ↓slp, slb, ↓reduceIte, reduceCtorEq, Nat.reduceEqDiff, Nat.reduceAdd, Nat.reduceMul, Nat.reduceLT, Nat.reduceLeDiff, Nat.reduceBEq, Nat.reduceBNe, Int.reduceLE, Int.reduceLT, Int.reduceToNat, Int.reduceEq, tfLxJo, h5, h6, h7, hi, pI]; try simp only [Ex.fold, Ex.foldcs, ← Va.pv.eq_1]) | (refine aExit ?_; simp only [slx, ↓reduceIte, Nat.reduceEqDiff, reduceCtorEq]) | (refine aRet ?_; try simp only [slx, ↓reduceIte, Nat.reduceEqDiff, reduceCtorEq]) | (refine hX _ _ ?_; clear hX X) | (clear hX X; refine hX _ _ ?_; clear hX X) | (clear hX X; clear hX X; refine hX _ _ ?_; clear hX X) | (intro hlen; unfold maxLen at hlen) | (apply And.intro; (focus (first | omega | assumption | (repeat' apply And.intro) <;> first | omega | assumption)))))
      (repeat (first | (intro hlen; unfold maxLen at hlen) | (apply And.intro; (focus (first | omega | assumption | trivial | (repeat' apply And.intro) <;> first | omega | assumption | trivial)))))
      (repeat (first | (refine aSeq (fun X hX => ?_)) | (refine aBlk ?_) | (refine aSkip ?_) | ((first | refine aReg ?_ | refine aDrw (fun m2 => m2 = _) (by kernel_rfl) rfl ?_); simp -implicitDefEqProofs only [forall_eq, ↓slp, slb, ↓reduceIte, reduceCtorEq, Nat.reduceEqDiff, Nat.reduceAdd, Nat.reduceMul, Nat.reduceLT, Nat.reduceLeDiff, Nat.reduceBEq, Nat.reduceBNe, Int.reduceLE, Int.reduceLT, Int.reduceToNat, Int.reduceEq, tfLxJo, h5, h6, h7, hi, pI]; try simp only [Ex.fold, Ex.foldcs, ← Va.pv.eq_1]) | (refine aExit ?_; simp only [slx, ↓reduceIte, Nat.reduceEqDiff, reduceCtorEq]) | (refine aRet ?_; try simp only [slx, ↓reduceIte, Nat.reduceEqDiff, reduceCtorEq]) | (refine hX _ _ ?_; clear hX X) | (clear hX X; refine hX _ _ ?_; clear hX X) | (clear hX X; clear hX X; refine hX _ _ ?_; clear hX X) | (intro hlen; unfold maxLen at hlen) | (apply And.intro; (focus (first | omega | assumption | (repeat' apply And.intro) <;> first | omega | assumption)))))
      rw [hI]
      exact ⟨⟨k + 1, .tok m'.nt, _, ws ++ [Wb], hlt, h0, h1, rfl, by rw [List.map_append]; rfl, rfl, ht1, hm1, by simp [hws], hsz, fun x hx => (List.mem_append.1 hx).elim (hwo x) (fun h => by simp at h; rw [h]; exact hW), hrd⟩, by first | omega | (simp only [↓slp, slb, ↓reduceIte, reduceCtorEq, Nat.reduceEqDiff, Nat.reduceAdd, Nat.reduceMul, Nat.reduceLT, Nat.reduceLeDiff, Nat.reduceBEq, Nat.reduceBNe, Int.reduceLE, Int.reduceLT, Int.reduceToNat, Int.reduceEq, h7]; omega)⟩
  · obtain rfl : k = ks.length := by simp at hb; omega
    obtain ⟨hok, hst⟩ := (lexAll_strip T (by omega)).2 _ (reads_whole hR)
    have hT48 : T.size ≤ 281474976710656 := by omega
    (repeat (first | (refine aSeq (fun X hX => ?_)) | (refine aBlk ?_) | (refine aSkip ?_) | ((first | refine aReg ?_ | refine aDrw (fun m2 => m2 = _) (by kernel_rfl) rfl ?_); simp -implicitDefEqProofs only [forall_eq, ↓slp, slb, ↓reduceIte, reduceCtorEq, Nat.reduceEqDiff, Nat.reduceAdd, Nat.reduceMul, Nat.reduceLT, Nat.reduceLeDiff, Nat.reduceBEq, Nat.reduceBNe, Int.reduceLE, Int.reduceLT, Int.reduceToNat, Int.reduceEq, tfLxJo, h5]; try simp only [Ex.fold, Ex.foldcs, ← Va.pv.eq_1]) | (refine aExit ?_; simp only [slx, ↓reduceIte, Nat.reduceEqDiff, reduceCtorEq]) | (refine aRet ?_; try simp only [slx, ↓reduceIte, Nat.reduceEqDiff, reduceCtorEq]) | (refine hX _ _ ?_; clear hX X) | (clear hX X; refine hX _ _ ?_; clear hX X) | (clear hX X; clear hX X; refine hX _ _ ?_; clear hX X) | (intro hlen; unfold maxLen at hlen) | (apply And.intro; (focus (first | omega | assumption | (repeat' apply And.intro) <;> first | omega | assumption)))))
    refine callE (words_ok T hT48 hok _) ?_
    generalize (lexAll T).toks = l at *
    obtain ⟨hll, hJ⟩ := joinK_all ws hwo l hst
    have hw1 : IntKind.i64.wrap ((ws.length : Int) + 1) = (l.length : Int) := by rw [wrap64 (by omega)]; omega
    have hn0 : ((l.length : Int) != (l.length : Int)) = false := by simp
    simp -implicitDefEqProofs only [↓slp, slb, ↓reduceIte, reduceCtorEq, Nat.reduceEqDiff, Nat.reduceAdd, Nat.reduceMul, Nat.reduceLT, Nat.reduceLeDiff, Nat.reduceBEq, Nat.reduceBNe, Int.reduceLE, Int.reduceLT, Int.reduceToNat, Int.reduceEq, tfLxJo, h6, hw1]; try simp only [Ex.fold, Ex.foldcs, ← Va.pv.eq_1]
    (repeat (first | (refine aSeq (fun X hX => ?_)) | (refine aBlk ?_) | (refine aSkip ?_) | ((first | refine aReg ?_ | refine aDrw (fun m2 => m2 = _) (by kernel_rfl) rfl ?_); simp -implicitDefEqProofs only [forall_eq, ↓slp, slb, ↓reduceIte, reduceCtorEq, Nat.reduceEqDiff, Nat.reduceAdd, Nat.reduceMul, Nat.reduceLT, Nat.reduceLeDiff, Nat.reduceBEq, Nat.reduceBNe, Int.reduceLE, Int.reduceLT, Int.reduceToNat, Int.reduceEq, tfLxJo, h6, hw1, hn0]; try simp only [Ex.fold, Ex.foldcs, ← Va.pv.eq_1]) | (refine aExit ?_; simp only [slx, ↓reduceIte, Nat.reduceEqDiff, reduceCtorEq]) | (refine aRet ?_; try simp only [slx, ↓reduceIte, Nat.reduceEqDiff, reduceCtorEq]) | (refine hX _ _ ?_; clear hX X) | (clear hX X; refine hX _ _ ?_; clear hX X) | (clear hX X; clear hX X; refine hX _ _ ?_; clear hX X) | (intro hlen; unfold maxLen at hlen) | (apply And.intro; (focus (first | omega | assumption | (repeat' apply And.intro) <;> first | omega | assumption)))))
    refine aIf ?_; simp -implicitDefEqProofs only [↓slp, slb, ↓reduceIte, reduceCtorEq, Nat.reduceEqDiff, Nat.reduceAdd, Nat.reduceMul, Nat.reduceLT, Nat.reduceLeDiff, Nat.reduceBEq, Nat.reduceBNe, Int.reduceLE, Int.reduceLT, Int.reduceToNat, Int.reduceEq]
    (repeat (first | (refine aSeq (fun X hX => ?_)) | (refine aBlk ?_) | (refine aSkip ?_) | ((first | refine aReg ?_ | refine aDrw (fun m2 => m2 = _) (by kernel_rfl) rfl ?_); simp -implicitDefEqProofs only [forall_eq, ↓slp, slb, ↓reduceIte, reduceCtorEq, Nat.reduceEqDiff, Nat.reduceAdd, Nat.reduceMul, Nat.reduceLT, Nat.reduceLeDiff, Nat.reduceBEq, Nat.reduceBNe, Int.reduceLE, Int.reduceLT, Int.reduceToNat, Int.reduceEq, tfLxJo, h6]; try simp only [Ex.fold, Ex.foldcs, ← Va.pv.eq_1]) | (refine aExit ?_; simp only [slx, ↓reduceIte, Nat.reduceEqDiff, reduceCtorEq]) | (refine aRet ?_; try simp only [slx, ↓reduceIte, Nat.reduceEqDiff, reduceCtorEq]) | (refine hX _ _ ?_; clear hX X) | (clear hX X; refine hX _ _ ?_; clear hX X) | (clear hX X; clear hX X; refine hX _ _ ?_; clear hX X) | (intro hlen; unfold maxLen at hlen) | (apply And.intro; (focus (first | omega | assumption | (repeat' apply And.intro) <;> first | omega | assumption)))))
    obtain ⟨I2, hI2⟩ : ∃ I2 : F → M → Prop, ∀ g m2, I2 g m2 = (∃ (k : Nat) (J : ByteArray), k ≤ ws.length ∧ g 6 = .sl o (ws.map pS) ∧ g 10 = .sl .no (l.map tokPV) ∧ g 12 = .v (.string J) ∧ g 13 = pI k ∧ J.data.toList = joinW ws k ∧ m2 = m') := ⟨_, fun _ _ => rfl⟩
    refine aLoop I2 (fun f m => ws.length - numOf (f 13)) ?_ ?_
    · rw [hI2]; exact ⟨0, ⟨#[]⟩, by omega, h6, rfl, rfl, rfl, rfl, rfl⟩
    intro g m2 hrel
    rw [hI2] at hrel
    obtain ⟨k, J, hk2, g6, g10, g12, g13, hJd, hm2⟩ := hrel
    clear h0 h1 h5 h6 h7 hb hI hk
    cases c2 : decide ((k : Int) < (ws.length : Int)) with
    | false =>
      obtain rfl : k = ws.length := by simp at c2; omega
      (repeat (first | (refine aSeq (fun X hX => ?_)) | (refine aBlk ?_) | (refine aSkip ?_) | ((first | refine aReg ?_ | refine aDrw (fun m2 => m2 = _) (by kernel_rfl) rfl ?_); simp -implicitDefEqProofs only [forall_eq, ↓slp, slb, ↓reduceIte, reduceCtorEq, Nat.reduceEqDiff, Nat.reduceAdd, Nat.reduceMul, Nat.reduceLT, Nat.reduceLeDiff, Nat.reduceBEq, Nat.reduceBNe, Int.reduceLE, Int.reduceLT, Int.reduceToNat, Int.reduceEq, tfLxJo, g6, g10, g12, g13, pI, c2]; try simp only [Ex.fold, Ex.foldcs, ← Va.pv.eq_1]) | (refine aExit ?_; simp only [slx, ↓reduceIte, Nat.reduceEqDiff, reduceCtorEq]) | (refine aRet ?_; try simp only [slx, ↓reduceIte, Nat.reduceEqDiff, reduceCtorEq]) | (refine hX _ _ ?_; clear hX X) | (clear hX X; refine hX _ _ ?_; clear hX X) | (clear hX X; clear hX X; refine hX _ _ ?_; clear hX X) | (intro hlen; unfold maxLen at hlen) | (apply And.intro; (focus (first | omega | assumption | (repeat' apply And.intro) <;> first | omega | assumption)))))
      refine aIf ?_; simp -implicitDefEqProofs only [↓slp, slb, ↓reduceIte, reduceCtorEq, Nat.reduceEqDiff, Nat.reduceAdd, Nat.reduceMul, Nat.reduceLT, Nat.reduceLeDiff, Nat.reduceBEq, Nat.reduceBNe, Int.reduceLE, Int.reduceLT, Int.reduceToNat, Int.reduceEq]
      (repeat (first | (refine aSeq (fun X hX => ?_)) | (refine aBlk ?_) | (refine aSkip ?_) | ((first | refine aReg ?_ | refine aDrw (fun m2 => m2 = _) (by kernel_rfl) rfl ?_); simp -implicitDefEqProofs only [forall_eq, ↓slp, slb, ↓reduceIte, reduceCtorEq, Nat.reduceEqDiff, Nat.reduceAdd, Nat.reduceMul, Nat.reduceLT, Nat.reduceLeDiff, Nat.reduceBEq, Nat.reduceBNe, Int.reduceLE, Int.reduceLT, Int.reduceToNat, Int.reduceEq, tfLxJo, g6, g10, g12, g13, pI, c2]; try simp only [Ex.fold, Ex.foldcs, ← Va.pv.eq_1]) | (refine aExit ?_; simp only [slx, ↓reduceIte, Nat.reduceEqDiff, reduceCtorEq]) | (refine aRet ?_; try simp only [slx, ↓reduceIte, Nat.reduceEqDiff, reduceCtorEq]) | (refine hX _ _ ?_; clear hX X) | (clear hX X; refine hX _ _ ?_; clear hX X) | (clear hX X; clear hX X; refine hX _ _ ?_; clear hX X) | (intro hlen; unfold maxLen at hlen) | (apply And.intro; (focus (first | omega | assumption | (repeat' apply And.intro) <;> first | omega | assumption)))))
      have hl48 : l.length ≤ 140737488355328 := by omega
      have hjl : (joinK l l.length).length ≤ 140737488355328 := by
        rw [hJ]
        exact Nat.le_trans (joinW_len ws hwo _ (Nat.le_refl _)) (by omega)
      have hJJ : (⟨(joinK l l.length).toArray⟩ : ByteArray) = J := bytes_eq (by rw [hJd, ← hJ])
      have jA : ∀ m, ACalls Try.prog 13 [.sl .no (l.map tokPV)] m (fun v m' => v = .v (.string J) ∧ m' = m) := fun m => by
        have := join_any .no l hl48 hjl m
        rwa [hJJ] at this
      have hJs : J.size ≤ 33 * ws.length := by
        rw [size_data J _ hJd]; exact joinW_len ws hwo _ (Nat.le_refl _)
      obtain ⟨hokJ, hstJ⟩ := (lexAll_strip J (by omega)).2 _ (by rw [hJd]; exact joinW_lex ws hwo)
      have hJ48 : J.size ≤ 281474976710656 := by omega
      refine callE (jA _) ?_
      simp -implicitDefEqProofs only [↓slp, slb, ↓reduceIte, reduceCtorEq, Nat.reduceEqDiff, Nat.reduceAdd, Nat.reduceMul, Nat.reduceLT, Nat.reduceLeDiff, Nat.reduceBEq, Nat.reduceBNe, Int.reduceLE, Int.reduceLT, Int.reduceToNat, Int.reduceEq, tfLxJo]; try simp only [Ex.fold, Ex.foldcs, ← Va.pv.eq_1]
      (repeat (first | (refine aSeq (fun X hX => ?_)) | (refine aBlk ?_) | (refine aSkip ?_) | ((first | refine aReg ?_ | refine aDrw (fun m2 => m2 = _) (by kernel_rfl) rfl ?_); simp -implicitDefEqProofs only [forall_eq, ↓slp, slb, ↓reduceIte, reduceCtorEq, Nat.reduceEqDiff, Nat.reduceAdd, Nat.reduceMul, Nat.reduceLT, Nat.reduceLeDiff, Nat.reduceBEq, Nat.reduceBNe, Int.reduceLE, Int.reduceLT, Int.reduceToNat, Int.reduceEq, tfLxJo]; try simp only [Ex.fold, Ex.foldcs, ← Va.pv.eq_1]) | (refine aExit ?_; simp only [slx, ↓reduceIte, Nat.reduceEqDiff, reduceCtorEq]) | (refine aRet ?_; try simp only [slx, ↓reduceIte, Nat.reduceEqDiff, reduceCtorEq]) | (refine hX _ _ ?_; clear hX X) | (clear hX X; refine hX _ _ ?_; clear hX X) | (clear hX X; clear hX X; refine hX _ _ ?_; clear hX X) | (intro hlen; unfold maxLen at hlen) | (apply And.intro; (focus (first | omega | assumption | (repeat' apply And.intro) <;> first | omega | assumption)))))
      refine callE (words_ok J hJ48 hokJ _) ?_
      generalize (lexAll J).toks = mt at *
      have hlm : mt.length = l.length := by
        have h1 := congrArg List.length hstJ
        have h2 := congrArg List.length hst
        rw [← h2] at h1
        simpa using h1
      have hne : ((mt.length : Int) == (l.length : Int)) = true := by rw [hlm]; simp
      have hJe : (J.toList == J.toList) = true := by simp
      simp -implicitDefEqProofs only [↓slp, slb, ↓reduceIte, reduceCtorEq, Nat.reduceEqDiff, Nat.reduceAdd, Nat.reduceMul, Nat.reduceLT, Nat.reduceLeDiff, Nat.reduceBEq, Nat.reduceBNe, Int.reduceLE, Int.reduceLT, Int.reduceToNat, Int.reduceEq, tfLxJo, hne, g10, g12, hJe]; try simp only [Ex.fold, Ex.foldcs, ← Va.pv.eq_1]
      (repeat (first | (refine aSeq (fun X hX => ?_)) | (refine aBlk ?_) | (refine aSkip ?_) | ((first | refine aReg ?_ | refine aDrw (fun m2 => m2 = _) (by kernel_rfl) rfl ?_); simp -implicitDefEqProofs only [forall_eq, ↓slp, slb, ↓reduceIte, reduceCtorEq, Nat.reduceEqDiff, Nat.reduceAdd, Nat.reduceMul, Nat.reduceLT, Nat.reduceLeDiff, Nat.reduceBEq, Nat.reduceBNe, Int.reduceLE, Int.reduceLT, Int.reduceToNat, Int.reduceEq, tfLxJo, hne, g10, g12, hJe]; try simp only [Ex.fold, Ex.foldcs, ← Va.pv.eq_1]) | (refine aExit ?_; simp only [slx, ↓reduceIte, Nat.reduceEqDiff, reduceCtorEq]) | (refine aRet ?_; try simp only [slx, ↓reduceIte, Nat.reduceEqDiff, reduceCtorEq]) | (refine hX _ _ ?_; clear hX X) | (clear hX X; refine hX _ _ ?_; clear hX X) | (clear hX X; clear hX X; refine hX _ _ ?_; clear hX X) | (intro hlen; unfold maxLen at hlen) | (apply And.intro; (focus (first | omega | assumption | (repeat' apply And.intro) <;> first | omega | assumption)))))
      refine callE (jA _) ?_
      simp -implicitDefEqProofs only [↓slp, slb, ↓reduceIte, reduceCtorEq, Nat.reduceEqDiff, Nat.reduceAdd, Nat.reduceMul, Nat.reduceLT, Nat.reduceLeDiff, Nat.reduceBEq, Nat.reduceBNe, Int.reduceLE, Int.reduceLT, Int.reduceToNat, Int.reduceEq, tfLxJo, hne, g10, g12, hJe]; try simp only [Ex.fold, Ex.foldcs, ← Va.pv.eq_1]
      (repeat (first | (refine aSeq (fun X hX => ?_)) | (refine aBlk ?_) | (refine aSkip ?_) | ((first | refine aReg ?_ | refine aDrw (fun m2 => m2 = _) (by kernel_rfl) rfl ?_); simp -implicitDefEqProofs only [forall_eq, ↓slp, slb, ↓reduceIte, reduceCtorEq, Nat.reduceEqDiff, Nat.reduceAdd, Nat.reduceMul, Nat.reduceLT, Nat.reduceLeDiff, Nat.reduceBEq, Nat.reduceBNe, Int.reduceLE, Int.reduceLT, Int.reduceToNat, Int.reduceEq, tfLxJo, hne, g10, g12, hJe]; try simp only [Ex.fold, Ex.foldcs, ← Va.pv.eq_1]) | (refine aExit ?_; simp only [slx, ↓reduceIte, Nat.reduceEqDiff, reduceCtorEq]) | (refine aRet ?_; try simp only [slx, ↓reduceIte, Nat.reduceEqDiff, reduceCtorEq]) | (refine hX _ _ ?_; clear hX X) | (clear hX X; refine hX _ _ ?_; clear hX X) | (clear hX X; clear hX X; refine hX _ _ ?_; clear hX X) | (intro hlen; unfold maxLen at hlen) | (apply And.intro; (focus (first | omega | assumption | (repeat' apply And.intro) <;> first | omega | assumption)))))
      refine aIf ?_; simp -implicitDefEqProofs only [↓slp, slb, ↓reduceIte, reduceCtorEq, Nat.reduceEqDiff, Nat.reduceAdd, Nat.reduceMul, Nat.reduceLT, Nat.reduceLeDiff, Nat.reduceBEq, Nat.reduceBNe, Int.reduceLE, Int.reduceLT, Int.reduceToNat, Int.reduceEq]
      (repeat (first | (refine aSeq (fun X hX => ?_)) | (refine aBlk ?_) | (refine aSkip ?_) | ((first | refine aReg ?_ | refine aDrw (fun m2 => m2 = _) (by kernel_rfl) rfl ?_); simp -implicitDefEqProofs only [forall_eq, ↓slp, slb, ↓reduceIte, reduceCtorEq, Nat.reduceEqDiff, Nat.reduceAdd, Nat.reduceMul, Nat.reduceLT, Nat.reduceLeDiff, Nat.reduceBEq, Nat.reduceBNe, Int.reduceLE, Int.reduceLT, Int.reduceToNat, Int.reduceEq, tfLxJo]; try simp only [Ex.fold, Ex.foldcs, ← Va.pv.eq_1]) | (refine aExit ?_; simp only [slx, ↓reduceIte, Nat.reduceEqDiff, reduceCtorEq]) | (refine aRet ?_; try simp only [slx, ↓reduceIte, Nat.reduceEqDiff, reduceCtorEq]) | (refine hX _ _ ?_; clear hX X) | (clear hX X; refine hX _ _ ?_; clear hX X) | (clear hX X; clear hX X; refine hX _ _ ?_; clear hX X) | (intro hlen; unfold maxLen at hlen) | (apply And.intro; (focus (first | omega | assumption | (repeat' apply And.intro) <;> first | omega | assumption)))))
      obtain ⟨I3, hI3⟩ : ∃ I3 : F → M → Prop, ∀ g m3, I3 g m3 = (∃ (k : Nat), k ≤ l.length ∧ g 10 = .sl .no (l.map tokPV) ∧ g 14 = .sl .no (mt.map tokPV) ∧ g 15 = pI k ∧ m3 = m') := ⟨_, fun _ _ => rfl⟩
      refine aLoop I3 (fun f m => l.length - numOf (f 15)) ?_ ?_
      · rw [hI3]; exact ⟨0, by omega, g10, rfl, rfl, hm2⟩
      intro g3 m3 hrel
      rw [hI3] at hrel
      obtain ⟨k, hk5, g10, g14, g15, hm3⟩ := hrel
      cases c4 : decide ((k : Int) < (l.length : Int)) with
      | false =>
        (repeat (first | (refine aSeq (fun X hX => ?_)) | (refine aBlk ?_) | (refine aSkip ?_) | ((first | refine aReg ?_ | refine aDrw (fun m2 => m2 = _) (by kernel_rfl) rfl ?_); simp -implicitDefEqProofs only [forall_eq, ↓slp, slb, ↓reduceIte, reduceCtorEq, Nat.reduceEqDiff, Nat.reduceAdd, Nat.reduceMul, Nat.reduceLT, Nat.reduceLeDiff, Nat.reduceBEq, Nat.reduceBNe, Int.reduceLE, Int.reduceLT, Int.reduceToNat, Int.reduceEq, tfLxJo, g10, g14, g15, pI, c4]; try simp only [Ex.fold, Ex.foldcs, ← Va.pv.eq_1]) | (refine aExit ?_; simp only [slx, ↓reduceIte, Nat.reduceEqDiff, reduceCtorEq]) | (refine aRet ?_; try simp only [slx, ↓reduceIte, Nat.reduceEqDiff, reduceCtorEq]) | (refine hX _ _ ?_; clear hX X) | (clear hX X; refine hX _ _ ?_; clear hX X) | (clear hX X; clear hX X; refine hX _ _ ?_; clear hX X) | (intro hlen; unfold maxLen at hlen) | (apply And.intro; (focus (first | omega | assumption | (repeat' apply And.intro) <;> first | omega | assumption)))))
        refine aIf ?_; simp -implicitDefEqProofs only [↓slp, slb, ↓reduceIte, reduceCtorEq, Nat.reduceEqDiff, Nat.reduceAdd, Nat.reduceMul, Nat.reduceLT, Nat.reduceLeDiff, Nat.reduceBEq, Nat.reduceBNe, Int.reduceLE, Int.reduceLT, Int.reduceToNat, Int.reduceEq]
        (repeat (first | (refine aSeq (fun X hX => ?_)) | (refine aBlk ?_) | (refine aSkip ?_) | ((first | refine aReg ?_ | refine aDrw (fun m2 => m2 = _) (by kernel_rfl) rfl ?_); simp -implicitDefEqProofs only [forall_eq, ↓slp, slb, ↓reduceIte, reduceCtorEq, Nat.reduceEqDiff, Nat.reduceAdd, Nat.reduceMul, Nat.reduceLT, Nat.reduceLeDiff, Nat.reduceBEq, Nat.reduceBNe, Int.reduceLE, Int.reduceLT, Int.reduceToNat, Int.reduceEq, tfLxJo, g10, g14, g15, pI, c4]; try simp only [Ex.fold, Ex.foldcs, ← Va.pv.eq_1]) | (refine aExit ?_; simp only [slx, ↓reduceIte, Nat.reduceEqDiff, reduceCtorEq]) | (refine aRet ?_; try simp only [slx, ↓reduceIte, Nat.reduceEqDiff, reduceCtorEq]) | (refine hX _ _ ?_; clear hX X) | (clear hX X; refine hX _ _ ?_; clear hX X) | (clear hX X; clear hX X; refine hX _ _ ?_; clear hX X) | (intro hlen; unfold maxLen at hlen) | (apply And.intro; (focus (first | omega | assumption | (repeat' apply And.intro) <;> first | omega | assumption)))))
        simp only [aPost, Try.results5, aRes_n, aRes_t, aRes_c, pack_one, pack_two]
        exact leave_toks0 (hm3 ▸ ht) rfl rfl
      | true =>
        have hk6 : k < l.length := by simpa using c4
        have hk7 : k < mt.length := by omega
        have z1 := get_tok l k hk6
        have z2 := tok_cells' l[k]
        have z3 := get_tok mt k hk7
        have z4 := tok_cells' mt[k]
        have hi : IntKind.i64.wrap ((k : Int) + 1) = ((k + 1 : Nat) : Int) := by rw [wrap64 (by omega)]; omega
        have hsame : l[k].strip = mt[k].strip := by
          have h3 : (l.map Tok.strip)[k]? = (mt.map Tok.strip)[k]? := by rw [hst, hstJ]
          simpa [hk6, hk7] using h3
        (repeat (first | (refine aSeq (fun X hX => ?_)) | (refine aBlk ?_) | (refine aSkip ?_) | ((first | refine aReg ?_ | refine aDrw (fun m2 => m2 = _) (by kernel_rfl) rfl ?_); simp -implicitDefEqProofs only [forall_eq, ↓slp, slb, ↓reduceIte, reduceCtorEq, Nat.reduceEqDiff, Nat.reduceAdd, Nat.reduceMul, Nat.reduceLT, Nat.reduceLeDiff, Nat.reduceBEq, Nat.reduceBNe, Int.reduceLE, Int.reduceLT, Int.reduceToNat, Int.reduceEq, tfLxJo, g10, g14, g15, pI, c4]; try simp only [Ex.fold, Ex.foldcs, ← Va.pv.eq_1]) | (refine aExit ?_; simp only [slx, ↓reduceIte, Nat.reduceEqDiff, reduceCtorEq]) | (refine aRet ?_; try simp only [slx, ↓reduceIte, Nat.reduceEqDiff, reduceCtorEq]) | (refine hX _ _ ?_; clear hX X) | (clear hX X; refine hX _ _ ?_; clear hX X) | (clear hX X; clear hX X; refine hX _ _ ?_; clear hX X) | (intro hlen; unfold maxLen at hlen) | (apply And.intro; (focus (first | omega | assumption | (repeat' apply And.intro) <;> first | omega | assumption)))))
        refine aIf ?_; simp -implicitDefEqProofs only [↓slp, slb, ↓reduceIte, reduceCtorEq, Nat.reduceEqDiff, Nat.reduceAdd, Nat.reduceMul, Nat.reduceLT, Nat.reduceLeDiff, Nat.reduceBEq, Nat.reduceBNe, Int.reduceLE, Int.reduceLT, Int.reduceToNat, Int.reduceEq]
        (repeat (first | (refine aSeq (fun X hX => ?_)) | (refine aBlk ?_) | (refine aSkip ?_) | ((first | refine aReg ?_ | refine aDrw (fun m2 => m2 = _) (by kernel_rfl) rfl ?_); simp -implicitDefEqProofs only [forall_eq, ↓slp, slb, ↓reduceIte, reduceCtorEq, Nat.reduceEqDiff, Nat.reduceAdd, Nat.reduceMul, Nat.reduceLT, Nat.reduceLeDiff, Nat.reduceBEq, Nat.reduceBNe, Int.reduceLE, Int.reduceLT, Int.reduceToNat, Int.reduceEq, tfLxJo, g10, g14, g15, pI, z1, z2, z3, z4]; try simp only [Ex.fold, Ex.foldcs, ← Va.pv.eq_1]) | (refine aExit ?_; simp only [slx, ↓reduceIte, Nat.reduceEqDiff, reduceCtorEq]) | (refine aRet ?_; try simp only [slx, ↓reduceIte, Nat.reduceEqDiff, reduceCtorEq]) | (refine hX _ _ ?_; clear hX X) | (clear hX X; refine hX _ _ ?_; clear hX X) | (clear hX X; clear hX X; refine hX _ _ ?_; clear hX X) | (intro hlen; unfold maxLen at hlen) | (apply And.intro; (focus (first | omega | assumption | (repeat' apply And.intro) <;> first | omega | assumption)))))
        refine callE (sameT_any l[k] mt[k] hsame _) ?_
        simp -implicitDefEqProofs only [↓slp, slb, ↓reduceIte, reduceCtorEq, Nat.reduceEqDiff, Nat.reduceAdd, Nat.reduceMul, Nat.reduceLT, Nat.reduceLeDiff, Nat.reduceBEq, Nat.reduceBNe, Int.reduceLE, Int.reduceLT, Int.reduceToNat, Int.reduceEq, tfLxJo, pB, forall_eq, g10, g14, g15]; try simp only [Ex.fold, Ex.foldcs, ← Va.pv.eq_1]
        (repeat (first | (refine aSeq (fun X hX => ?_)) | (refine aBlk ?_) | (refine aSkip ?_) | ((first | refine aReg ?_ | refine aDrw (fun m2 => m2 = _) (by kernel_rfl) rfl ?_); simp -implicitDefEqProofs only [forall_eq, ↓slp, slb, ↓reduceIte, reduceCtorEq, Nat.reduceEqDiff, Nat.reduceAdd, Nat.reduceMul, Nat.reduceLT, Nat.reduceLeDiff, Nat.reduceBEq, Nat.reduceBNe, Int.reduceLE, Int.reduceLT, Int.reduceToNat, Int.reduceEq, tfLxJo, g10, g14, g15]; try simp only [Ex.fold, Ex.foldcs, ← Va.pv.eq_1]) | (refine aExit ?_; simp only [slx, ↓reduceIte, Nat.reduceEqDiff, reduceCtorEq]) | (refine aRet ?_; try simp only [slx, ↓reduceIte, Nat.reduceEqDiff, reduceCtorEq]) | (refine hX _ _ ?_; clear hX X) | (clear hX X; refine hX _ _ ?_; clear hX X) | (clear hX X; clear hX X; refine hX _ _ ?_; clear hX X) | (intro hlen; unfold maxLen at hlen) | (apply And.intro; (focus (first | omega | assumption | (repeat' apply And.intro) <;> first | omega | assumption)))))
        refine aIf ?_; simp -implicitDefEqProofs only [↓slp, slb, ↓reduceIte, reduceCtorEq, Nat.reduceEqDiff, Nat.reduceAdd, Nat.reduceMul, Nat.reduceLT, Nat.reduceLeDiff, Nat.reduceBEq, Nat.reduceBNe, Int.reduceLE, Int.reduceLT, Int.reduceToNat, Int.reduceEq]
        (repeat (first | (refine aSeq (fun X hX => ?_)) | (refine aBlk ?_) | (refine aSkip ?_) | ((first | refine aReg ?_ | refine aDrw (fun m2 => m2 = _) (by kernel_rfl) rfl ?_); simp -implicitDefEqProofs only [forall_eq, ↓slp, slb, ↓reduceIte, reduceCtorEq, Nat.reduceEqDiff, Nat.reduceAdd, Nat.reduceMul, Nat.reduceLT, Nat.reduceLeDiff, Nat.reduceBEq, Nat.reduceBNe, Int.reduceLE, Int.reduceLT, Int.reduceToNat, Int.reduceEq, tfLxJo, g10, g14, g15, pI, hi]; try simp only [Ex.fold, Ex.foldcs, ← Va.pv.eq_1]) | (refine aExit ?_; simp only [slx, ↓reduceIte, Nat.reduceEqDiff, reduceCtorEq]) | (refine aRet ?_; try simp only [slx, ↓reduceIte, Nat.reduceEqDiff, reduceCtorEq]) | (refine hX _ _ ?_; clear hX X) | (clear hX X; refine hX _ _ ?_; clear hX X) | (clear hX X; clear hX X; refine hX _ _ ?_; clear hX X) | (intro hlen; unfold maxLen at hlen) | (apply And.intro; (focus (first | omega | assumption | (repeat' apply And.intro) <;> first | omega | assumption)))))
        rw [hI3]
        exact ⟨⟨k + 1, hk6, g10, g14, rfl, hm3⟩, by first | omega | (simp only [↓slp, slb, ↓reduceIte, reduceCtorEq, Nat.reduceEqDiff, Nat.reduceAdd, Nat.reduceMul, Nat.reduceLT, Nat.reduceLeDiff, Nat.reduceBEq, Nat.reduceBNe, Int.reduceLE, Int.reduceLT, Int.reduceToNat, Int.reduceEq, g15]; omega)⟩
    | true =>
      have hk3 : k < ws.length := by simpa using c2
      have hk4 : k < l.length := by omega
      have y1 := get_tok l k hk4
      have y2 := tok_cells' l[k]
      have y3 := getD_map pS ws k hk3
      have y4 : (pS ws[k]).cells = [pS ws[k]] := rfl
      have hi : IntKind.i64.wrap ((k : Int) + 1) = ((k + 1 : Nat) : Int) := by rw [wrap64 (by omega)]; omega
      (repeat (first | (refine aSeq (fun X hX => ?_)) | (refine aBlk ?_) | (refine aSkip ?_) | ((first | refine aReg ?_ | refine aDrw (fun m2 => m2 = _) (by kernel_rfl) rfl ?_); simp -implicitDefEqProofs only [forall_eq, ↓slp, slb, ↓reduceIte, reduceCtorEq, Nat.reduceEqDiff, Nat.reduceAdd, Nat.reduceMul, Nat.reduceLT, Nat.reduceLeDiff, Nat.reduceBEq, Nat.reduceBNe, Int.reduceLE, Int.reduceLT, Int.reduceToNat, Int.reduceEq, tfLxJo, g6, g10, g12, g13, pI, c2]; try simp only [Ex.fold, Ex.foldcs, ← Va.pv.eq_1]) | (refine aExit ?_; simp only [slx, ↓reduceIte, Nat.reduceEqDiff, reduceCtorEq]) | (refine aRet ?_; try simp only [slx, ↓reduceIte, Nat.reduceEqDiff, reduceCtorEq]) | (refine hX _ _ ?_; clear hX X) | (clear hX X; refine hX _ _ ?_; clear hX X) | (clear hX X; clear hX X; refine hX _ _ ?_; clear hX X) | (intro hlen; unfold maxLen at hlen) | (apply And.intro; (focus (first | omega | assumption | (repeat' apply And.intro) <;> first | omega | assumption)))))
      refine aIf ?_; simp -implicitDefEqProofs only [↓slp, slb, ↓reduceIte, reduceCtorEq, Nat.reduceEqDiff, Nat.reduceAdd, Nat.reduceMul, Nat.reduceLT, Nat.reduceLeDiff, Nat.reduceBEq, Nat.reduceBNe, Int.reduceLE, Int.reduceLT, Int.reduceToNat, Int.reduceEq]
      have htx : (l[k].text.toList == ws[k].toList) = true := by rw [tok_text hst k hk4 hk3]; simp
      have hwl := (hwo _ (List.getElem_mem hk3)).2.1
      have hwl2 : ws[k].size ≤ 32 := hwl
      have hJs : J.size ≤ 33 * k := by
        rw [size_data J _ hJd]; exact joinW_len ws hwo k hk2
      have h32 : (⟨#[32]⟩ : ByteArray).size = 1 := rfl
      have y5 : ws.getD k ⟨#[]⟩ = ws[k] := by simp [hk3]
      (repeat (first | (refine aSeq (fun X hX => ?_)) | (refine aBlk ?_) | (refine aSkip ?_) | ((first | refine aReg ?_ | refine aDrw (fun m2 => m2 = _) (by kernel_rfl) rfl ?_); simp -implicitDefEqProofs only [forall_eq, ↓slp, slb, ↓reduceIte, reduceCtorEq, Nat.reduceEqDiff, Nat.reduceAdd, Nat.reduceMul, Nat.reduceLT, Nat.reduceLeDiff, Nat.reduceBEq, Nat.reduceBNe, Int.reduceLE, Int.reduceLT, Int.reduceToNat, Int.reduceEq, tfLxJo, g6, g10, g12, g13, pI, y1, y2, y3, y4, htx]; try simp only [Ex.fold, Ex.foldcs, ← Va.pv.eq_1]) | (refine aExit ?_; simp only [slx, ↓reduceIte, Nat.reduceEqDiff, reduceCtorEq]) | (refine aRet ?_; try simp only [slx, ↓reduceIte, Nat.reduceEqDiff, reduceCtorEq]) | (refine hX _ _ ?_; clear hX X) | (clear hX X; refine hX _ _ ?_; clear hX X) | (clear hX X; clear hX X; refine hX _ _ ?_; clear hX X) | (intro hlen; unfold maxLen at hlen) | (apply And.intro; (focus (first | omega | assumption | (repeat' apply And.intro) <;> first | omega | assumption)))))
      refine aIf ?_; simp -implicitDefEqProofs only [↓slp, slb, ↓reduceIte, reduceCtorEq, Nat.reduceEqDiff, Nat.reduceAdd, Nat.reduceMul, Nat.reduceLT, Nat.reduceLeDiff, Nat.reduceBEq, Nat.reduceBNe, Int.reduceLE, Int.reduceLT, Int.reduceToNat, Int.reduceEq]
      (repeat (first | (refine aSeq (fun X hX => ?_)) | (refine aBlk ?_) | (refine aSkip ?_) | ((first | refine aReg ?_ | refine aDrw (fun m2 => m2 = _) (by kernel_rfl) rfl ?_); simp -implicitDefEqProofs only [forall_eq, ↓slp, slb, ↓reduceIte, reduceCtorEq, Nat.reduceEqDiff, Nat.reduceAdd, Nat.reduceMul, Nat.reduceLT, Nat.reduceLeDiff, Nat.reduceBEq, Nat.reduceBNe, Int.reduceLE, Int.reduceLT, Int.reduceToNat, Int.reduceEq, tfLxJo, g6, g10, g12, g13, pI]; try simp only [Ex.fold, Ex.foldcs, ← Va.pv.eq_1]) | (refine aExit ?_; simp only [slx, ↓reduceIte, Nat.reduceEqDiff, reduceCtorEq]) | (refine aRet ?_; try simp only [slx, ↓reduceIte, Nat.reduceEqDiff, reduceCtorEq]) | (refine hX _ _ ?_; clear hX X) | (clear hX X; refine hX _ _ ?_; clear hX X) | (clear hX X; clear hX X; refine hX _ _ ?_; clear hX X) | (intro hlen; unfold maxLen at hlen) | (apply And.intro; (focus (first | omega | assumption | (repeat' apply And.intro) <;> first | omega | assumption)))))
      cases c3 : decide ((k : Int) > 0) with
      | true =>
        have hJ2 : ((J ++ ⟨#[32]⟩) ++ ws[k]).data.toList = joinW ws (k + 1) := by
          have : 0 < k := by simpa using c3
          rw [joinW, if_pos this, y5, ← hJd]
          simp [ByteArray.data_append]
        have hz1 : ((J.size + (⟨#[32]⟩ : ByteArray).size : Nat) : Int) ≤ 9223372036854775807 := by omega
        have hz2 : (((J ++ ⟨#[32]⟩ : ByteArray).size + ws[k].size : Nat) : Int) ≤ 9223372036854775807 := by
          rw [ByteArray.size_append, h32]; omega
        refine aIf ?_; simp -implicitDefEqProofs only [↓slp, slb, ↓reduceIte, reduceCtorEq, Nat.reduceEqDiff, Nat.reduceAdd, Nat.reduceMul, Nat.reduceLT, Nat.reduceLeDiff, Nat.reduceBEq, Nat.reduceBNe, Int.reduceLE, Int.reduceLT, Int.reduceToNat, Int.reduceEq, c3]
        (repeat (first | (refine aSeq (fun X hX => ?_)) | (refine aBlk ?_) | (refine aSkip ?_) | ((first | refine aReg ?_ | refine aDrw (fun m2 => m2 = _) (by kernel_rfl) rfl ?_); simp -implicitDefEqProofs only [forall_eq, ↓slp, slb, ↓reduceIte, reduceCtorEq, Nat.reduceEqDiff, Nat.reduceAdd, Nat.reduceMul, Nat.reduceLT, Nat.reduceLeDiff, Nat.reduceBEq, Nat.reduceBNe, Int.reduceLE, Int.reduceLT, Int.reduceToNat, Int.reduceEq, tfLxJo, g6, g10, g12, g13, pI, y3, y4, hi]; try simp only [Ex.fold, Ex.foldcs, ← Va.pv.eq_1]) | (refine aExit ?_; simp only [slx, ↓reduceIte, Nat.reduceEqDiff, reduceCtorEq]) | (refine aRet ?_; try simp only [slx, ↓reduceIte, Nat.reduceEqDiff, reduceCtorEq]) | (refine hX _ _ ?_; clear hX X) | (clear hX X; refine hX _ _ ?_; clear hX X) | (clear hX X; clear hX X; refine hX _ _ ?_; clear hX X) | (intro hlen; unfold maxLen at hlen) | (apply And.intro; (focus (first | omega | assumption | (repeat' apply And.intro) <;> first | omega | assumption)))))
        rw [hI2]
        exact ⟨⟨k + 1, (J ++ ⟨#[32]⟩) ++ ws[k], hk3, g6, g10, rfl, rfl, hJ2, hm2⟩, by first | omega | (simp only [↓slp, slb, ↓reduceIte, reduceCtorEq, Nat.reduceEqDiff, Nat.reduceAdd, Nat.reduceMul, Nat.reduceLT, Nat.reduceLeDiff, Nat.reduceBEq, Nat.reduceBNe, Int.reduceLE, Int.reduceLT, Int.reduceToNat, Int.reduceEq, g13]; omega)⟩
      | false =>
        have hJ2 : (J ++ ws[k]).data.toList = joinW ws (k + 1) := by
          have : ¬ 0 < k := by simp at c3; omega
          rw [joinW, if_neg this, y5, ← hJd]
          simp [ByteArray.data_append]
        have hz2 : ((J.size + ws[k].size : Nat) : Int) ≤ 9223372036854775807 := by omega
        refine aIf ?_; simp -implicitDefEqProofs only [↓slp, slb, ↓reduceIte, reduceCtorEq, Nat.reduceEqDiff, Nat.reduceAdd, Nat.reduceMul, Nat.reduceLT, Nat.reduceLeDiff, Nat.reduceBEq, Nat.reduceBNe, Int.reduceLE, Int.reduceLT, Int.reduceToNat, Int.reduceEq, c3]
        (repeat (first | (refine aSeq (fun X hX => ?_)) | (refine aBlk ?_) | (refine aSkip ?_) | ((first | refine aReg ?_ | refine aDrw (fun m2 => m2 = _) (by kernel_rfl) rfl ?_); simp -implicitDefEqProofs only [forall_eq, ↓slp, slb, ↓reduceIte, reduceCtorEq, Nat.reduceEqDiff, Nat.reduceAdd, Nat.reduceMul, Nat.reduceLT, Nat.reduceLeDiff, Nat.reduceBEq, Nat.reduceBNe, Int.reduceLE, Int.reduceLT, Int.reduceToNat, Int.reduceEq, tfLxJo, g6, g10, g12, g13, pI, y3, y4, hi]; try simp only [Ex.fold, Ex.foldcs, ← Va.pv.eq_1]) | (refine aExit ?_; simp only [slx, ↓reduceIte, Nat.reduceEqDiff, reduceCtorEq]) | (refine aRet ?_; try simp only [slx, ↓reduceIte, Nat.reduceEqDiff, reduceCtorEq]) | (refine hX _ _ ?_; clear hX X) | (clear hX X; refine hX _ _ ?_; clear hX X) | (clear hX X; clear hX X; refine hX _ _ ?_; clear hX X) | (intro hlen; unfold maxLen at hlen) | (apply And.intro; (focus (first | omega | assumption | (repeat' apply And.intro) <;> first | omega | assumption)))))
        rw [hI2]
        exact ⟨⟨k + 1, J ++ ws[k], hk3, g6, g10, rfl, rfl, hJ2, hm2⟩, by first | omega | (simp only [↓slp, slb, ↓reduceIte, reduceCtorEq, Nat.reduceEqDiff, Nat.reduceAdd, Nat.reduceMul, Nat.reduceLT, Nat.reduceLeDiff, Nat.reduceBEq, Nat.reduceBNe, Int.reduceLE, Int.reduceLT, Int.reduceToNat, Int.reduceEq, g13]; omega)⟩
end Go.Proofs.Ytijdhfjdnndkmaa
