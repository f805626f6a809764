/-
 Any text's words, as the plain reader wants them; what both readers answer for any text.
-/
-- halved
import Derived.Test.YtohgdopfjkjppaaGreatDoorLrB
import Derived.Test.YtohgdopfjkjppaaGreatDoorRE
import Derived.Test.YtohgdopfjkjppaaGreatDoorPD
set_option linter.unusedSectionVars false
set_option linter.unusedVariables false
set_option linter.unusedSimpArgs false
namespace Go.Proofs.YtohgdopfjkjppaaGreatDoor
open Go Go.RowKit

theorem wrap32_rng (v : Int) : -2147483648 ≤ wrap32 v ∧ wrap32 v ≤ 2147483647 := by unfold wrap32; omega
theorem nx_word (l : List UInt8) (h : (lexNext l).code = 2) : (1 ≤ (lexNext l).kind ∧ (lexNext l).kind ≤ 5) ∧ -2147483648 ≤ (lexNext l).n ∧ (lexNext l).n ≤ 2147483647 := by
 revert h
 unfold lexNext numNext wordNext signNext
 repeat' split
 all_goals try simp
 exact wrap32_rng _
def Tok.tk (t : Tok) : Tk := ⟨t.kind, t.text, t.n, t.line, t.col⟩
structure TokOk (t : Tok) : Prop where
 kind : 1 ≤ t.kind ∧ t.kind ≤ 5
 text : t.text ≠ ⟨#[]⟩
 rng : -2147483648 ≤ t.n ∧ t.n ≤ 2147483647
theorem lexGo_toks (s : Str) (hz : s.size ≤ 65536) : ∀ (n i line frm : Nat) (toks : List Tok), s.size + 1 ≤ i + n → i ≤ s.size → toks.length ≤ i → (∀ t ∈ toks, TokOk t) →
    ((lexGo s n i line frm toks).ok = true → ∃ T e, (lexGo s n i line frm toks).toks = T ++ [e] ∧ e.kind = 0 ∧ e.n = 0 ∧ T.length ≤ 65536 ∧ ∀ t ∈ T, TokOk t) ∧
    ((lexGo s n i line frm toks).ok = false → (lexGo s n i line frm toks).kind = 1 ∨ (lexGo s n i line frm toks).kind = 3)
 | 0, i, line, frm, toks, h1, h2, h3, h4 => by omega
 | n + 1, i, line, frm, toks, h1, h2, h3, h4 => by
  rw [lexGo]
  split
  ·exact ⟨fun _ => ⟨toks, _, rfl, rfl, rfl, by omega, h4⟩, fun h => (by cases h)⟩
  ·rename_i hi
   have hlt : i < s.size := by omega
   have hd := drop_at s hlt
   have hlen : (s.data.toList.drop (i + 1)).length + 1 = s.size - i := by
    have : s.data.toList.length = s.size := by simp
    rw [List.length_drop]; omega
   have hf := next_fits (s.data.toList.getD i 0) (s.data.toList.drop (i + 1))
   rw [← hd] at hf
   split
   ·rename_i h0
    have hf := hf (.inl h0)
    exact lexGo_toks s hz n _ line frm toks (by omega) (by omega) (by omega) h4
   ·split
    ·exact lexGo_toks s hz n _ _ _ toks (by omega) (by omega) (by omega) h4
    ·split
     ·rename_i h2
      have hf := hf (.inr h2)
      have hw := nx_word _ h2
      refine lexGo_toks s hz n _ _ _ _ (by omega) (by omega) (by simp; omega) (fun t ht => ?_)
      rcases List.mem_append.1 ht with ht | ht
      ·exact h4 t ht
      ·obtain rfl := List.mem_singleton.1 ht
       refine ⟨hw.1, fun he => ?_, hw.2⟩
       have h9 : (s.extract i (i + (lexNext (s.data.toList.drop i)).k)).data.toList.length = 0 := by rw [show s.extract i (i + (lexNext (s.data.toList.drop i)).k) = ⟨#[]⟩ from he]; rfl
       have hsz : s.data.toList.length = s.size := by simp
       rw [cut_toList, List.length_take, List.length_drop] at h9
       omega
     ·rename_i c0 c1 c2
      have := next_code (s.data.toList.drop i)
      exact ⟨fun h => (by cases h), fun _ => next_kind _ (by omega)⟩
theorem lexAll_toks (s : Str) : ((lexAll s).ok = true → ∃ T e, (lexAll s).toks = T ++ [e] ∧ e.kind = 0 ∧ e.n = 0 ∧ T.length ≤ 65536 ∧ ∀ t ∈ T, TokOk t) ∧ ((lexAll s).ok = false → (lexAll s).kind = 1 ∨ (lexAll s).kind = 3) := by
 unfold lexAll
 split
 ·exact ⟨fun h => (by cases h), fun _ => .inr rfl⟩
 ·exact lexGo_toks s (by omega) _ _ _ _ _ (by omega) (by omega) (by simp) (fun t h => by cases h)
def words (s : Str) : List Tk := (lexAll s).toks.map Tok.tk
theorem words_ok (s : Str) (h : (lexAll s).ok = true) : TksOk (words s) := by
 obtain ⟨T, e, hT, hk, hn, hl, hT2⟩ := (lexAll_toks s).1 h
 have hw : words s = T.map Tok.tk ++ [e.tk] := by unfold words; rw [hT, List.map_append]; rfl
 rw [hw]
 have hel : ∀ t ∈ T.map Tok.tk ++ [e.tk], (∃ a ∈ T, t = a.tk) ∨ t = e.tk := fun t ht => by
  rcases List.mem_append.1 ht with ht | ht
  ·obtain ⟨a, ha, rfl⟩ := List.mem_map.1 ht
   exact .inl ⟨a, ha, rfl⟩
  ·exact .inr (List.mem_singleton.1 ht)
 refine ⟨by simp, by simp; omega, fun i h hk0 => ?_, fun t ht => ?_, fun t ht => ?_, fun t ht => ?_⟩
 ·simp only [List.length_append, List.length_map, List.length_cons, List.length_nil] at h ⊢
  by_cases hi : i = T.length
  ·exfalso
   apply hk0
   subst hi
   rw [List.getElem_append_right (by simp)]
   simp only [List.length_map, Nat.sub_self, List.getElem_cons_zero]
   exact hk
  ·omega
 ·rcases hel t ht with ⟨a, ha, rfl⟩ | rfl
  ·have := (hT2 a ha).kind
   exact ⟨by show 0 ≤ a.kind; omega, this.2⟩
  ·show 0 ≤ e.kind ∧ e.kind ≤ 5
   omega
 ·rcases hel t ht with ⟨a, ha, rfl⟩ | rfl
  ·exact fun _ => (hT2 a ha).text
  ·intro h1
   have : e.kind = 1 := h1
   omega
 ·rcases hel t ht with ⟨a, ha, rfl⟩ | rfl
  ·exact (hT2 a ha).rng
  ·show -2147483648 ≤ e.n ∧ e.n ≤ 2147483647
   omega
theorem toks_pv (s : Str) : (lexAll s).toks.map tokPV = (words s).map Tk.pv := by
 unfold words
 rw [List.map_map]
 rfl
def txtProg (s : Str) : (List En × List No) × Int × Int × Int := if (lexAll s).ok then rProgW (words s) else (([], []), (lexAll s).kind, (lexAll s).line, (lexAll s).col)
def txtExpr (s : Str) : Ex × Int × Int × Int := if (lexAll s).ok then rExprW (words s) else (z0, (lexAll s).kind, (lexAll s).line, (lexAll s).col)
section
variable (s : Str) (hs : s.size ≤ 281474976710656) (m : M)
include hs in
theorem parseProg_any : ACalls Tryz.prog 25 [pS s] m (fun v m' => v = .tp [.ag [.sl .no ((txtProg s).1.1.map En.pv), .sl .no ((txtProg s).1.2.map No.pv)], errW (txtProg s).2.1 (txtProg s).2.2.1 (txtProg s).2.2.2] ∧ m' = m) := by
 cases h : (lexAll s).ok with
 | true =>
  have hW : ∀ m, ACalls Tryz.prog 29 [pS s] m (fun v m' => v = .tp [.sl .no ((words s).map Tk.pv), .v .nilIface] ∧ m' = m) := fun m => (lexWords_any s hs m).mono fun v m' ⟨h1, h2⟩ => ⟨by rw [h1]; unfold wordsPV; rw [if_pos h, toks_pv], h2⟩
  have e : txtProg s = rProgW (words s) := by unfold txtProg; rw [if_pos h]
  rw [e]
  exact pProgram_any s (words_ok s h) hW m
 | false =>
  have hk := (lexAll_toks s).2 h
  have hW : ∀ m, ACalls Tryz.prog 29 [pS s] m (fun v m' => v = .tp [.sl .no [], pA (lexAll s).line (lexAll s).col (lexAll s).kind] ∧ m' = m) := fun m => (lexWords_any s hs m).mono fun v m' ⟨h1, h2⟩ => ⟨by rw [h1]; unfold wordsPV; rw [if_neg (by rw [h]; simp)], h2⟩
  have e : txtProg s = (([], []), (lexAll s).kind, (lexAll s).line, (lexAll s).col) := by unfold txtProg; rw [if_neg (by rw [h]; simp)]
  rw [e]
  exact pProgram_bad s (by omega) hW m
include hs in
theorem parseExpr_any : ACalls Tryz.prog 7 [pS s] m (fun v m' => v = .tp [(txtExpr s).1.pv, errW (txtExpr s).2.1 (txtExpr s).2.2.1 (txtExpr s).2.2.2] ∧ m' = m) := by
 cases h : (lexAll s).ok with
 | true =>
  have hW : ∀ m, ACalls Tryz.prog 29 [pS s] m (fun v m' => v = .tp [.sl .no ((words s).map Tk.pv), .v .nilIface] ∧ m' = m) := fun m => (lexWords_any s hs m).mono fun v m' ⟨h1, h2⟩ => ⟨by rw [h1]; unfold wordsPV; rw [if_pos h, toks_pv], h2⟩
  have e : txtExpr s = rExprW (words s) := by unfold txtExpr; rw [if_pos h]
  rw [e]
  exact pExpr_any s (words_ok s h) hW m
 | false =>
  have hk := (lexAll_toks s).2 h
  have hW : ∀ m, ACalls Tryz.prog 29 [pS s] m (fun v m' => v = .tp [.sl .no [], pA (lexAll s).line (lexAll s).col (lexAll s).kind] ∧ m' = m) := fun m => (lexWords_any s hs m).mono fun v m' ⟨h1, h2⟩ => ⟨by rw [h1]; unfold wordsPV; rw [if_neg (by rw [h]; simp)], h2⟩
  have e : txtExpr s = (z0, (lexAll s).kind, (lexAll s).line, (lexAll s).col) := by unfold txtExpr; rw [if_neg (by rw [h]; simp)]
  rw [e]
  exact pExpr_bad s (by omega) hW m
theorem refProg_any : ACalls Tryz.prog 26 [pS s] m (fun v m' => v = .tp [.ag [.sl .no ((txtProg s).1.1.map En.pv), .sl .no ((txtProg s).1.2.map No.pv)], .v (.int .i64 (txtProg s).2.1), posPV (txtProg s).2.2.1 (txtProg s).2.2.2] ∧ m' = m) := by
 cases h : (lexAll s).ok with
 | true =>
  have hW : ∀ m, ACalls Tryz.prog 18 [pS s] m (fun v m' => v = .tp [.sl .no ((words s).map Tk.pv), .v (.int .i64 0), posPV 0 0] ∧ m' = m) := fun m => (rwords_any s m).mono fun v m' ⟨h1, h2⟩ => ⟨by rw [h1]; unfold refPV; rw [if_pos h, toks_pv], h2⟩
  have e : txtProg s = rProgW (words s) := by unfold txtProg; rw [if_pos h]
  rw [e]
  exact qProgram_any s (words_ok s h) hW m
 | false =>
  have hk := (lexAll_toks s).2 h
  have hW : ∀ m, ACalls Tryz.prog 18 [pS s] m (fun v m' => v = .tp [.sl .no (([] : List Tk).map Tk.pv), .v (.int .i64 (lexAll s).kind), posPV (lexAll s).line (lexAll s).col] ∧ m' = m) := fun m => (rwords_any s m).mono fun v m' ⟨h1, h2⟩ => ⟨by rw [h1]; unfold refPV; rw [if_neg (by rw [h]; simp)]; rfl, h2⟩
  have e : txtProg s = (([], []), (lexAll s).kind, (lexAll s).line, (lexAll s).col) := by unfold txtProg; rw [if_neg (by rw [h]; simp)]
  rw [e]
  exact qProgram_bad s (by omega) hW m
end
end Go.Proofs.YtohgdopfjkjppaaGreatDoor
