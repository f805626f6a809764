/-
 Texts that belong together: LexW, LexX, LxB.
-/
-- halved
import Derived.Test.YtohgdopfjkjppaaGreatDoorLexM2
import Derived.WalkKit
import Derived.WalkSpells
import Derived.WalkLawsBesides
import Derived.Lib.Hide
import Derived.Deep.Light
import Derived.Deep.QuietTactic
import Derived.BigQuiet
import Derived.Deep.RegionHeld3
import Derived.Deep.AppendLies
import Derived.Test.YtohgdopfjkjppaaGreatDoorLvA
set_option linter.unusedVariables false
set_option linter.unusedSimpArgs false
namespace Go.Proofs.YtohgdopfjkjppaaGreatDoor
open Go.RowKit

theorem put_said : PutSaid := fun B R s i line frm n kind v toks out w h hs hi hf hl ht => put_any B R s i line frm n kind v toks out w h hs hi hf hl ht

structure LexR where
 ok : Bool
 toks : List Tok
 kind : Int
 line : Int
 col : Int

def lexGo (s : ByteArray) : Nat → Nat → Nat → Nat → List Tok → LexR
 | 0, _, _, _, toks => ⟨true, toks, 0, 0, 0⟩
 | f + 1, i, line, frm, toks =>
  if s.size ≤ i then ⟨true, toks ++ [⟨0, ⟨#[]⟩, 0, line, (i : Int) - frm + 1⟩], 0, 0, 0⟩
  else if (lexNext (s.data.toList.drop i)).code = 0 then lexGo s f (i + (lexNext (s.data.toList.drop i)).k) line frm toks
  else if (lexNext (s.data.toList.drop i)).code = 1 then lexGo s f (i + 1) (line + 1) (i + 1) toks
  else if (lexNext (s.data.toList.drop i)).code = 2 then
   lexGo s f (i + (lexNext (s.data.toList.drop i)).k) line frm (toks ++ [⟨(lexNext (s.data.toList.drop i)).kind, s.extract i (i + (lexNext (s.data.toList.drop i)).k), (lexNext (s.data.toList.drop i)).n, line, (i : Int) - frm + 1⟩])
  else ⟨false, [], (lexNext (s.data.toList.drop i)).kind, line, (i : Int) - frm + 1⟩

def lexAll (s : ByteArray) : LexR := if 65536 < s.size then ⟨false, [], 3, 1, 1⟩ else lexGo s (s.size + 1) 0 1 0 []

theorem numGo_len : ∀ (l : List UInt8) (n v a b : Nat), numGo l n v = some (a, b) → n ≤ a ∧ a ≤ n + l.length
 | [], n, v, a, b, h => by simp [numGo] at h; omega
 | c :: r, n, v, a, b, h => by
  unfold numGo at h
  split at h
  ·split at h
   ·cases h
   ·have := numGo_len r (n + 1) _ a b h
    simp; omega
  ·simp at h; simp; omega
theorem takeWhile_len (p : UInt8 → Bool) (l : List UInt8) : (l.takeWhile p).length ≤ l.length := (List.takeWhile_prefix p).length_le

theorem next_fits (c : UInt8) (r : List UInt8) (h : (lexNext (c :: r)).code = 0 ∨ (lexNext (c :: r)).code = 2) : 1 ≤ (lexNext (c :: r)).k ∧ (lexNext (c :: r)).k ≤ r.length + 1 := by
 unfold lexNext at *
 have hh : headN (c :: r) = c.toNat := rfl
 simp only [hh] at *
 by_cases h1 : c.toNat = 10
 ·rw [if_pos h1] at h; simp at h
 ·rw [if_neg h1] at *
  by_cases h2 : c.toNat = 32 ∨ c.toNat = 9
  ·rw [if_pos h2]; simp
  ·rw [if_neg h2] at *
   by_cases h3 : Lib.hasPrefix (c :: r) [45, 45] = true
   ·rw [if_pos h3]
    have hc : c ≠ 10 := fun e => h1 (by rw [e]; rfl)
    constructor
    ·rw [List.takeWhile_cons, if_pos (by simpa using hc)]; simp
    ·exact takeWhile_len _ _
   ·rw [if_neg h3] at *
    by_cases h4 : isDigit c.toNat = true
    ·rw [if_pos h4] at *
     unfold numNext at *
     cases hg : numGo (c :: r) 0 0 with
     | none => rw [hg] at h; simp at h
     | some p =>
      obtain ⟨n, v⟩ := p
      have hl := numGo_len _ _ _ _ _ hg
      have hn : 1 ≤ n := by
       unfold numGo at hg
       rw [if_pos h4] at hg
       split at hg
       ·cases hg
       ·exact (numGo_len _ _ _ _ _ hg).1
      rw [hg] at h
      simp only at h ⊢
      split at h
      ·simp at h
      ·rename_i hx; rw [if_neg hx]; simp at hl; exact ⟨hn, by simpa using hl⟩
    ·rw [if_neg h4] at *
     by_cases h5 : isLetter c.toNat = true
     ·rw [if_pos h5] at *
      have hw : 1 ≤ wordLen (c :: r) := by rw [wordLen_cons c r (by rw [h5]; rfl)]; omega
      have hw2 : wordLen (c :: r) ≤ r.length + 1 := takeWhile_len _ _
      unfold wordNext at *
      split at h
      ·simp at h
      ·rename_i q1
       rw [if_neg q1]
       split at h
       ·rename_i q2; rw [if_pos q2]; exact ⟨hw, hw2⟩
       ·rename_i q2; rw [if_neg q2]
        split at h
        ·rename_i q3; rw [if_pos q3]; exact ⟨hw, hw2⟩
        ·rename_i q3; rw [if_neg q3]
         split at h
         ·simp at h
         ·rename_i q4; rw [if_neg q4]; exact ⟨hw, hw2⟩
     ·rw [if_neg h5] at *
      unfold signNext at *
      split at h
      ·rename_i q1
       rw [if_pos q1]
       refine ⟨by simp, ?_⟩
       obtain ⟨p, hp, hq⟩ := List.any_eq_true.1 q1
       have hl := (List.isPrefixOf_iff_prefix.1 hq).length_le
       have h2 : p.length = 2 := by
        simp only [twoSigns, List.mem_cons, List.not_mem_nil, or_false] at hp
        rcases hp with rfl | rfl | rfl | rfl <;> rfl
       rw [h2] at hl; simpa using hl
      ·rename_i q1
       rw [if_neg q1]
       split at h
       ·rename_i q2; rw [if_pos q2]; simp
       ·simp at h
theorem next_code (l : List UInt8) : (lexNext l).code ≤ 3 := by
 unfold lexNext
 split
 ·simp
 ·split
  ·simp
  ·split
   ·simp
   ·split
    ·exact num_code l
    ·split
     ·exact word_code l
     ·exact sign_code l

def IsFault (B : Nat) (w : World) (v : Value) (kind line col : Int) : Prop :=
 ∃ g, v = .iface 59 (.pointer (some ⟨g, 0, none⟩)) ∧ B ≤ g ∧ w.heap[g]? = some (.cells #[.int .i64 line, .int .i64 col, .string ⟨#[]⟩, .bool false, .iface 34 (.int .i64 kind)] 63 (0, 0))

theorem IsFault.mono {B B' : Nat} {w : World} {v : Value} {kind line col : Int} (h : IsFault B w v kind line col) (hB : B' ≤ B) : IsFault B' w v kind line col := by
 obtain ⟨g, h1, h2, h3⟩ := h
 exact ⟨g, h1, Nat.le_trans hB h2, h3⟩
set_option maxHeartbeats 1000000 in
theorem new_any (kind line col : Int) (hk : kind ≠ 0) (w : World) :
    Calls Tryz.prog 36 #[.int .i64 kind, .agg #[.int .i64 line, .int .i64 col]] w fun e w' => ∃ v, e = .returned v ∧ IsFault w.heap.size w' v kind line col ∧ Below w.heap.size w w' := by
 have h0 : (kind == 0) = false := by simpa using hk
 go_enter Tryz.func36, Tryz.ntmps36
 go_wp2
 go_ret
 refine ⟨_, rfl, ⟨_, rfl, ?_, ?_⟩, ?_⟩
 ·simp
 ·have h1 := heap_alloc_new (w.alloc (.cells #[.int .i64 line, .int .i64 col] 27)) (.cells #[.int .i64 line, .int .i64 col, .string ⟨#[]⟩, .bool false, .iface 34 (.int .i64 kind)] 63)
  simpa using h1
 ·exact ((Below.refl _ _).alloc (Nat.le_refl _) _).alloc (by simp) _

theorem RdAt.pos {w : World} {R : Nat} {s : ByteArray} {i line frm : Nat} {out : Value} (h : RdAt w R s i line frm out) : posOf R w = i := by
 unfold posOf; rw [h.cells.2.1]; exact Int.toNat_natCast i
theorem num_kind (l : List UInt8) (h : (numNext l).code = 3) : (numNext l).kind = 1 ∨ (numNext l).kind = 3 := by
 unfold numNext at *
 split
 ·simp
 ·split <;> simp_all
theorem word_kind (l : List UInt8) (h : (wordNext l).code = 3) : (wordNext l).kind = 1 ∨ (wordNext l).kind = 3 := by
 unfold wordNext at *
 split at h
 ·rename_i q; rw [if_pos q]; simp
 ·rename_i q; rw [if_neg q]
  split at h
  ·simp at h
  ·rename_i q; rw [if_neg q]
   split at h
   ·simp at h
   ·rename_i q; rw [if_neg q]
    split at h
    ·rename_i q; rw [if_pos q]; simp
    ·simp at h
theorem sign_kind (l : List UInt8) (h : (signNext l).code = 3) : (signNext l).kind = 1 ∨ (signNext l).kind = 3 := by
 unfold signNext at *
 split at h
 ·simp at h
 ·rename_i q; rw [if_neg q]
  split at h
  ·simp at h
  ·rename_i q; rw [if_neg q]; simp
theorem next_kind (l : List UInt8) (h : (lexNext l).code = 3) : (lexNext l).kind = 1 ∨ (lexNext l).kind = 3 := by
 unfold lexNext at *
 split at h
 ·simp at h
 ·rename_i q; rw [if_neg q]
  split at h
  ·simp at h
  ·rename_i q; rw [if_neg q]
   split at h
   ·simp at h
   ·rename_i q; rw [if_neg q]
    split at h
    ·rename_i q; rw [if_pos q]; exact num_kind l h
    ·rename_i q; rw [if_neg q]
     split at h
     ·rename_i q; rw [if_pos q]; exact word_kind l h
     ·rename_i q; rw [if_neg q]; exact sign_kind l h

def WordsP (w : World) (r : LexR) (e : Ending) (w' : World) : Prop :=
 Below w.heap.size w w' ∧ (r.ok = true → ∃ out, e = .returned (.tuple #[out, .nilIface]) ∧ w'.ownsRow w.heap.size 80 5 out r.toks.length (tokCells r.toks)) ∧
 (r.ok = false → ∃ v, e = .returned (.tuple #[.slice none 0 0, v]) ∧ IsFault w.heap.size w' v r.kind r.line r.col)

set_option maxHeartbeats 4000000 in
theorem words_any (s : ByteArray) (w : World) (m : Int) (hm : w.cell? ⟨1, 0, none⟩ = some (.int .i64 m)) (hs : s.size ≤ 281474976710656) :
    Calls Tryz.prog 29 #[.string s] w (WordsP w (lexAll s)) := by
 have h0 : 1 < w.heap.size := World.block_lt_of_cell? w _ hm
 have HM := Lib.hid hm
 clear hm
 by_cases hbig : 65536 < s.size
 ·have hlex := Lib.hid (show lexAll s = ⟨false, [], 3, 1, 1⟩ by unfold lexAll; rw [if_pos hbig])
  go_enter Tryz.func29, Tryz.ntmps29
  go_wp2_with fail
  refine (new_any _ _ _ (by decide) _).mono ?_
  rintro e w1 ⟨v, rfl, hv, hb⟩
  go_wp2_with fail
  go_ret2
  rw [hlex.out]
  exact ⟨hb, fun h => absurd h (by simp), fun _ => ⟨v, rfl, hv⟩⟩
 ·have hlex := Lib.hid (show lexAll s = lexGo s (s.size + 1) 0 1 0 [] by unfold lexAll; rw [if_neg hbig])
  go_enter Tryz.func29, Tryz.ntmps29
  go_wp2_with fail
  obtain ⟨i0, hi0, hz0, hz1, hz2⟩ := info_parts info_tok
  have hrd0 : Rd w.heap.size (w.alloc (.cells #[.string s, .int .i64 0, .int .i64 1, .int .i64 0, .slice none 0 0] 119)) w.heap.size s 0 1 0 [] (.slice none 0 0) :=
   ⟨heap_alloc_new w _, ⟨rfl, Or.inl ⟨rfl, rfl⟩⟩, Nat.le_refl _⟩
  go_loopw [5] (fun _ wr => Below w.heap.size w wr ∧ ∃ (i line frm f : Nat) (toks : List Tok) (out : Value), Rd w.heap.size wr w.heap.size s i line frm toks out ∧ i ≤ s.size ∧ frm ≤ i ∧ line ≤ i + 1 ∧ toks.length ≤ i ∧ s.size + 1 ≤ f + i ∧
   Hid (lexAll s = lexGo s f i line frm toks)) (fun _ wr => s.size - posOf w.heap.size wr)
  case atStart => exact ⟨(Below.refl _ _).alloc (Nat.le_refl _) _, 0, 1, 0, s.size + 1, [], _, hrd0, by omega, by omega, by omega, by simp, by omega, hlex⟩
  case round =>
   clear hrd0 hlex
   obtain ⟨hB, i, line, frm, f, toks, out, hrd, hi, hfrm, hline, htk, hf, hgo⟩ := hrel
   obtain ⟨d0, d1, _, _, d4⟩ := hrd.at_.cells
   have HRD := Lib.hid hrd
   have HBW := Lib.hid hB
   have HMr := Lib.hid ((hB.cell (p := ⟨1, 0, none⟩) h0).trans HM.out)
   have hpo : posOf w.heap.size wr = i := hrd.at_.pos
   obtain ⟨f', rfl⟩ : ∃ f', f = f' + 1 := ⟨f - 1, by omega⟩
   have p1 : (0 : Int) ≤ (i : Int) := Int.natCast_nonneg _
   clear hrd hB
   by_cases hlt : i < s.size
   ·have hdc := drop_cons s i hlt
    have hfit := next_fits s[i] (s.data.toList.drop (i + 1))
    rw [← hdc] at hfit
    have hll : (s.data.toList.drop (i + 1)).length = s.size - (i + 1) := by rw [List.length_drop, Array.length_toList]; rfl
    rw [hll] at hfit
    have HF := Lib.hid hfit
    have hc3 := next_code (s.data.toList.drop i)
    have hkd := Lib.hid (next_kind (s.data.toList.drop i))
    have hstep : Hid (lexAll s = lexGo s (f' + 1) i line frm toks) := hgo
    clear hdc hfit hll
    go_wp2_with fail
    refine (one_any put_said w.heap.size w.heap.size s i line frm toks out _ (by exact HRD.out) m (by exact HMr.out) (by omega) hlt hfrm (by omega) htk).mono ?_
    rintro e w1 ⟨hb1, q0, q1, q2, q3⟩
    have hc4 : (lexNext (s.data.toList.drop i)).code = 0 ∨ (lexNext (s.data.toList.drop i)).code = 1 ∨ (lexNext (s.data.toList.drop i)).code = 2 ∨ (lexNext (s.data.toList.drop i)).code = 3 := by omega
    rcases hc4 with hc | hc | hc | hc
    ·obtain ⟨rfl, out1, hr1⟩ := q0 hc
     have hfit := HF.out (Or.inl hc)
     have hgo2 : Hid (lexAll s = lexGo s f' (i + (lexNext (s.data.toList.drop i)).k) line frm toks) := Lib.hid (by
      rw [hstep.out, lexGo, if_neg (by omega), if_pos hc])
     have HR1 := Lib.hid hr1
     have HB1 := Lib.hid hb1
     clear q0 q1 q2 q3 hr1 hb1 hc
     generalize (lexNext (s.data.toList.drop i)).k = k at *
     go_wp2_with fail
     refine ⟨⟨HBW.out.trans HB1.out, i + k, line, frm, f', toks, out1, HR1.out, by omega, by omega, by omega, by omega, by omega, hgo2⟩, ?_⟩
     have hp1 : posOf w.heap.size w1 = i + k := HR1.out.at_.pos
     rw [hp1, hpo]; omega
    ·obtain ⟨rfl, out1, hr1⟩ := q1 hc
     have hgo2 : Hid (lexAll s = lexGo s f' (i + 1) (line + 1) (i + 1) toks) := Lib.hid (by
      rw [hstep.out, lexGo, if_neg (by omega), if_neg (by omega), if_pos hc])
     have HR1 := Lib.hid hr1
     have HB1 := Lib.hid hb1
     clear q0 q1 q2 q3 hr1 hb1 hc
     go_wp2_with fail
     refine ⟨⟨HBW.out.trans HB1.out, i + 1, line + 1, i + 1, f', toks, out1, HR1.out, by omega, by omega, by omega, by omega, by omega, hgo2⟩, ?_⟩
     have hp1 : posOf w.heap.size w1 = i + 1 := HR1.out.at_.pos
     rw [hp1, hpo]; omega
    ·obtain ⟨rfl, out1, hr1⟩ := q2 hc
     have hfit := HF.out (Or.inr hc)
     have hgo2 := Lib.hid (show lexAll s = lexGo s f' (i + (lexNext (s.data.toList.drop i)).k) line frm (toks ++ [⟨(lexNext (s.data.toList.drop i)).kind, s.extract i (i + (lexNext (s.data.toList.drop i)).k), (lexNext (s.data.toList.drop i)).n, line, (i : Int) - frm + 1⟩]) by
      rw [hstep.out, lexGo, if_neg (by omega), if_neg (by omega), if_neg (by omega), if_pos hc])
     have HR1 := Lib.hid hr1
     have HB1 := Lib.hid hb1
     clear q0 q1 q2 q3 hr1 hb1 hc
     generalize hK : (lexNext (s.data.toList.drop i)).k = k at *
     generalize (lexNext (s.data.toList.drop i)).kind = kd at *
     generalize (lexNext (s.data.toList.drop i)).n = nn at *
     clear hK
     go_wp2_with fail
     refine ⟨⟨HBW.out.trans HB1.out, i + k, line, frm, f', _, out1, HR1.out, by omega, by omega, by omega, by simp; omega, by omega, hgo2⟩, ?_⟩
     have hp1 : posOf w.heap.size w1 = i + k := HR1.out.at_.pos
     rw [hp1, hpo]; omega
    ·obtain ⟨rfl, out1, hr1⟩ := q3 hc
     have hk0 : (lexNext (s.data.toList.drop i)).kind ≠ 0 := by rcases hkd.out hc with h | h <;> rw [h] <;> decide
     have hgo2 := Lib.hid (show lexAll s = ⟨false, [], (lexNext (s.data.toList.drop i)).kind, line, (i : Int) - frm + 1⟩ by
      rw [hstep.out, lexGo, if_neg (by omega), if_neg (by omega), if_neg (by omega), if_neg (by omega)])
     have HR1 := Lib.hid hr1
     have HB1 := Lib.hid hb1
     have hR1 := hr1.at_.lt
     clear q0 q1 q2 q3 hr1 hb1 hc hkd
     generalize (lexNext (s.data.toList.drop i)).kind = kd at *
     have hk1 : (kd != 0) = true := by simpa using hk0
     go_wp2_with fail
     refine (pos_any w.heap.size s i line frm out1 _ (by exact HR1.out.at_) (by omega) hfrm).mono ?_
     rintro e w2 ⟨rfl, hb2⟩
     go_wp2_with fail
     refine (new_any _ _ _ hk0 _).mono ?_
     rintro e w3 ⟨v, rfl, hv, hb3⟩
     go_wp2_with fail
     go_ret2
     rw [hgo2.out]
     refine ⟨((HBW.out.trans HB1.out).trans (hb2.mono (Nat.le_of_lt hR1))).trans (hb3.mono (Nat.le_trans (Nat.le_of_lt hR1) hb2.size)), fun h => absurd h (by simp), fun _ => ⟨v, rfl, hv.mono (Nat.le_trans (Nat.le_of_lt hR1) hb2.size)⟩⟩
   ·have hgo2 := Lib.hid (show lexAll s = ⟨true, toks ++ [⟨0, ⟨#[]⟩, 0, line, (i : Int) - frm + 1⟩], 0, 0, 0⟩ by rw [hgo.out, lexGo, if_pos (by omega)])
    go_wp2_with fail
    have hR := HRD.out.at_.lt
    have hne := ne_of_tok HRD.out
    clear hgo d0 d1 hpo
    refine wp_region_D (fun w' => w'.cell? ⟨w.heap.size, 4, none⟩ = some out) (fun _ => false) (by kernel_rfl) (by exact d4) (fun hHeld => ?_)
    refine wpAnyD_take (i := 0) (v := ?v0) rfl (by kernel_rfl) (by kernel_rfl) (by kernel_rfl) (by kernel_rfl) (fun _ _ _ h => h) (Or.inl ⟨by rfl, ?h0⟩) hHeld ?_
    case h0 => (intro w hSw; (try dsimp only at hSw); go_simp; try with_reducible rfl)
    try simp only [Act.put, List.setIfInBounds_toArray, List.set_cons_zero, List.set_cons_succ, List.getElem_toArray, List.getElem_cons_zero, List.getElem_cons_succ]
    refine wpAnyD_take (i := 1) (v := ?v1) rfl (by kernel_rfl) (by kernel_rfl) (by kernel_rfl) (by kernel_rfl) (fun _ _ _ h => h) (Or.inl ⟨by rfl, ?h1⟩) hHeld ?_
    case h1 => (intro w hSw; (try dsimp only at hSw); go_simp; try with_reducible rfl)
    try simp only [Act.put, List.setIfInBounds_toArray, List.set_cons_zero, List.set_cons_succ, List.getElem_toArray, List.getElem_cons_zero, List.getElem_cons_succ]
    refine wpAnyD_take (i := 2) (v := ?v2) rfl (by kernel_rfl) (by kernel_rfl) (by kernel_rfl) (by kernel_rfl) (fun _ _ _ h => h) (Or.inl ⟨by rfl, ?h2⟩) hHeld ?_
    case h2 => (intro w hSw; (try dsimp only at hSw); go_simp; try with_reducible rfl)
    try simp only [Act.put, List.setIfInBounds_toArray, List.set_cons_zero, List.set_cons_succ, List.getElem_toArray, List.getElem_cons_zero, List.getElem_cons_succ]
    refine wpAnyD_take (i := 3) (v := ?v3) rfl (by kernel_rfl) (by kernel_rfl) (by kernel_rfl) (by kernel_rfl) (fun _ _ _ h => h) (Or.inl ⟨by rfl, ?h3⟩) hHeld ?_
    case h3 => (intro w hSw; (try dsimp only at hSw); go_simp; try with_reducible rfl)
    try simp only [Act.put, List.setIfInBounds_toArray, List.set_cons_zero, List.set_cons_succ, List.getElem_toArray, List.getElem_cons_zero, List.getElem_cons_succ]
    refine wpAnyD_take (i := 4) (v := ?v4) rfl (by kernel_rfl) (by kernel_rfl) (by kernel_rfl) (by kernel_rfl) (fun _ _ _ h => h) (Or.inl ⟨by rfl, ?h4⟩) hHeld ?_
    case h4 => (intro w hSw; (try dsimp only at hSw); go_simp; try with_reducible rfl)
    try simp only [Act.put, List.setIfInBounds_toArray, List.set_cons_zero, List.set_cons_succ, List.getElem_toArray, List.getElem_cons_zero, List.getElem_cons_succ]
    refine wpAnyD_one (i := 5) (by kernel_rfl) rfl (fun K hK => ?_)
    go_simp
    refine (pos_any w.heap.size s i line frm out _ (by exact HRD.out.at_) (by omega) hfrm).mono ?_
    rintro e w1 ⟨rfl, hb⟩
    have r1 : RdAt w1 w.heap.size s i line frm out := (hb.block w.heap.size hR).trans HRD.out.at_
    have hR1 : w.heap.size < w1.heap.size := Nat.lt_of_lt_of_le hR hb.size
    have own1 := Lib.hid (own_below (W := wr.drew) HRD.out.own hb)
    have R1 := Lib.hid r1
    clear r1
    go_simp
    refine hK.out _ _ (fun _ => ?_) (fun hHeld1 => ?_)
    ·exact R1.out.cells.2.2.2.2
    replace hHeld := hHeld1 rfl
    clear hHeld1
    clear hK K
    try simp only [Act.put, List.setIfInBounds_toArray, List.set_cons_zero, List.set_cons_succ, List.getElem_toArray, List.getElem_cons_zero, List.getElem_cons_succ]
    refine wpAnyD_take (i := 6) (v := ?v6) rfl (by kernel_rfl) (by kernel_rfl) (by kernel_rfl) (by kernel_rfl) (fun _ _ _ h => h) (Or.inl ⟨by rfl, ?h6⟩) hHeld ?_
    case h6 => (intro w hSw; (try dsimp only at hSw); go_simp; try with_reducible rfl)
    try simp only [Act.put, List.setIfInBounds_toArray, List.set_cons_zero, List.set_cons_succ, List.getElem_toArray, List.getElem_cons_zero, List.getElem_cons_succ]
    refine wpAnyD_one (i := 7) (by kernel_rfl) rfl (fun K hK => ?_)
    go_simp
    refine hK.out _ _ (fun _ => ?_) (fun hHeld1 => ?_)
    ·exact (RdAt.cells (w := w1.alloc _) ((Below.heap_alloc w1 _ w.heap.size hR1).trans R1.out)).2.2.2.2
    replace hHeld := hHeld1 rfl
    clear hHeld1
    clear hK K
    try simp only [Act.put, List.setIfInBounds_toArray, List.set_cons_zero, List.set_cons_succ, List.getElem_toArray, List.getElem_cons_zero, List.getElem_cons_succ]
    refine wpAnyD_one (i := 8) (by kernel_rfl) rfl (fun K hK => ?_)
    refine step_append_lies _ (by rfl) _ _ _ (by rfl) w.heap.size 80 i0 _ 5 48 Tryz.underlying73 hi0 hz0 hz1 hz2 rfl (by omega) out toks.length (tokCells toks) (by rfl) (own1.out.alloc _) ⟨w1.heap.size, 0, none⟩ 1 1 (Tok.cells ⟨0, ⟨#[]⟩, 0, line, i - frm + 1⟩) (by rfl) (by rfl) (World.news_of_block (cs := (Tok.cells ⟨0, ⟨#[]⟩, 0, line, i - frm + 1⟩).toArray) (t := 80) (fr := (0, 0)) (heap_alloc_new w1 _)) (by simp [Value.oneCell', Tok.cells]) (by omega) (by simp [maxLen]; omega) (by omega) (by simp; omega) (w1.heap.size + 1) (by simp) ?_
    intro gg cap w2 hown1 hgrow hat hlt2
    have r2 : RdAt w2 w.heap.size s i line frm out := ((hgrow.block w.heap.size (by simp; omega) hne).trans (Below.heap_alloc w1 _ w.heap.size hR1)).trans R1.out
    have R2 := Lib.hid r2
    clear r2
    refine hK.out _ _ (fun _ => ?_) (fun hHeld1 => ?_)
    ·exact R2.out.cells.2.2.2.2
    replace hHeld := hHeld1 rfl
    clear hHeld1
    clear hK K
    try simp only [Act.put, List.setIfInBounds_toArray, List.set_cons_zero, List.set_cons_succ, List.getElem_toArray, List.getElem_cons_zero, List.getElem_cons_succ]
    refine wpAnyD_take (i := 9) (v := ?v9) rfl (by kernel_rfl) (by kernel_rfl) (by kernel_rfl) (by kernel_rfl) (fun _ _ _ h => h) (Or.inl ⟨by rfl, ?h9⟩) hHeld ?_
    case h9 => (intro w hSw; (try dsimp only at hSw); go_simp; try with_reducible rfl)
    try simp only [Act.put, List.setIfInBounds_toArray, List.set_cons_zero, List.set_cons_succ, List.getElem_toArray, List.getElem_cons_zero, List.getElem_cons_succ]
    refine wpAnyD_take (i := 10) (v := ?v10) rfl (by kernel_rfl) (by kernel_rfl) (by kernel_rfl) (by kernel_rfl) (fun _ _ _ h => h) (Or.inl ⟨by rfl, ?h10⟩) hHeld ?_
    case h10 => (intro w hSw; (try dsimp only at hSw); go_simp; try with_reducible rfl)
    try simp only [Act.put, List.setIfInBounds_toArray, List.set_cons_zero, List.set_cons_succ, List.getElem_toArray, List.getElem_cons_zero, List.getElem_cons_succ]
    refine wpAnyD_done (by kernel_rfl) ?_ _
    have HO := Lib.hid hown1
    clear hHeld
    go_wp2_with fail
    go_ret2
    have hb1 : Below w.heap.size wr w1 := ⟨hb.os, hb.tape, hb.output, hb.size, fun k hk => hb.block k (Nat.lt_of_lt_of_le hk (Nat.le_of_lt hR))⟩
    have hb2 : Below w.heap.size wr w2 := (hb1.alloc (by omega) _).grown hgrow (by simp; omega) (fun k hk => (HRD.out.own.lt k hk).1)
    rw [hgo2.out]
    refine ⟨HBW.out.trans hb2, fun _ => ⟨_, rfl, ?_⟩, fun h => absurd h (by simp)⟩
    have e1 : (toks ++ [(⟨0, ⟨#[]⟩, 0, line, (i : Int) - frm + 1⟩ : Tok)]).length = toks.length + 1 := by simp
    have e2 : tokCells (toks ++ [(⟨0, ⟨#[]⟩, 0, line, (i : Int) - frm + 1⟩ : Tok)]) = tokCells toks ++ Tok.cells ⟨0, ⟨#[]⟩, 0, line, (i : Int) - frm + 1⟩ := by simp [tokCells]
    simp only [e1, e2]
    exact HO.out

open Go Go.RowKit

def Ghost.grow (G : Ghost) (a b : Nat) : Ghost := { G with set := fun k o => G.set k o ∨ (a ≤ k ∧ k < b) }
theorem Inv.grown {G : Ghost} {m : M} {w w' : World} (hI : Inv G m w) (hb : Below w.heap.size w w') : Inv (G.grow w.heap.size w'.heap.size) m w' ∧ Ext G w (G.grow w.heap.size w'.heap.size) w' := by
 have hE : Ext G w (G.grow w.heap.size w'.heap.size) w' := ⟨rfl, Nat.le_refl _, fun _ _ => rfl, fun _ _ => rfl, Nat.le_refl _, fun _ _ => rfl, fun _ _ h => .inl h, fun b o hs => hb.cell (p := ⟨b, o, none⟩) (hI.set b o hs), hb.mono hI.base⟩
 refine ⟨⟨hI.nb, hI.nt, Nat.le_trans hI.base hb.size, fun id c hc => ?_, fun id c hc o ho => ?_, hI.inj, fun t s ht => ?_, hI.tokd, fun b o hs => ?_, hI.layE hE⟩, hE⟩
 ·obtain ⟨o, a1, a2, a5⟩ := hI.box id c hc
  exact ⟨o, (hb.block _ (hI.blt hc)).trans a1, a2.mono hE, a5⟩
 ·rcases ho with ho | ⟨ho, _⟩
  ·exact hI.boxset id c hc o ho
  ·have := hI.blt hc
   have : G.box id < w.heap.size := this
   have h2 : w.heap.size ≤ G.box id := ho
   omega
 ·obtain ⟨q0, q⟩ := hI.tok t s ht
  refine ⟨q0, fun b o hbo => ?_⟩
  obtain ⟨q1, q2, q3, q4, q5⟩ := q b o hbo
  have hlt : b < w.heap.size := by
   obtain ⟨u, hu⟩ := Option.isSome_iff_exists.1 q3
   exact World.block_lt_of_cell? w _ hu
  exact ⟨q1, fun hs => hs.elim q2 (fun h => by omega), by rw [hb.cell (p := ⟨b, o, none⟩) hlt]; exact q3, by rw [hb.frozen (p := ⟨b, o, none⟩) hlt]; exact q4, q5⟩
 ·rcases hs with hs | ⟨_, hs⟩
  ·exact Nat.lt_of_lt_of_le (hI.set b o hs) hb.size
  ·exact hs

def tokPV (t : Tok) : PV := .ag [.v (.int .u8 t.kind), .v (.string t.text), .v (.int .i32 t.n), .v (.int .i64 t.line), .v (.int .i64 t.col)]
def wordsPV (r : LexR) : PV := if r.ok then .tp [.sl .no (r.toks.map tokPV), .v .nilIface] else .tp [.sl .no [], .ifc 59 (.ep [.v (.int .i64 r.line), .v (.int .i64 r.col), .v (.string ⟨#[]⟩), .v (.bool false), .ifc 34 (.v (.int .i64 r.kind))])]
theorem tokCells_at : ∀ (l : List Tok) (i j : Nat) (hi : i < l.length) (hj : j < 5), (tokCells l)[i * 5 + j]? = (l[i].cells)[j]?
 | [], i, j, hi, _ => by simp at hi
 | t :: l, 0, j, _, hj => by
  have h5 : t.cells.length = 5 := rfl
  simp only [tokCells, List.flatMap_cons, List.getElem_cons_zero]
  rw [List.getElem?_append_left (by omega)]
  simp
 | t :: l, i + 1, j, hi, hj => by
  have h5 : t.cells.length = 5 := rfl
  have := tokCells_at l i j (by simpa using hi) hj
  simp only [tokCells, List.flatMap_cons, List.getElem_cons_succ] at this ⊢
  rw [List.getElem?_append_right (by omega), ← this]
  congr 1
  omega
theorem rep_toks {G : Ghost} {w w' : World} {B : Nat} {out : Value} {toks : List Tok} (ho : w'.ownsRow B 80 5 out toks.length (tokCells toks)) (hB : w.heap.size ≤ B) :
    Rep (G.grow w.heap.size w'.heap.size) w' (.sl .no (toks.map tokPV)) out := by
 obtain ⟨hlen, h | ⟨g, cap, cur, rfl, hg, hh, hn, hcap, hsz, htk⟩⟩ := ho
 ·obtain ⟨rfl, h0⟩ := h
  obtain rfl := List.eq_nil_of_length_eq_zero h0
  exact .snil _ _ (fun t ht => by cases ht)
 ·have hglt : g < w'.heap.size := (Array.getElem?_eq_some_iff.1 hh).1
  have hcell : ∀ k, k < toks.length * 5 → w'.cell? ⟨g, k, none⟩ = some ((tokCells toks).getD k undef) := fun k hk => by
   have hk1 : k < (tokCells toks).length := by rw [hlen]; exact hk
   have hk2 : k < cur.size := by rw [hsz]; have := Nat.mul_le_mul_right 5 hn; omega
   have e : (tokCells toks)[k] = cur[k] := by
    have h1 : (cur.toList.take (toks.length * 5))[k]? = (tokCells toks)[k]? := by rw [htk]
    rw [List.getElem?_take_of_lt hk, List.getElem?_eq_getElem hk1] at h1
    simp [hk2] at h1
    exact h1.symm
   simp [World.cell?, hh, hk1, hk2, e]
  have := Rep.sl (G := G.grow w.heap.size w'.heap.size) (w := w') .no (toks.map tokPV) g 0 cap 5 (fun k => (tokCells toks).getD k undef) (fun i hi => by simp [tokPV, PV.cells]) (fun k hk => ?_) (fun i hi => by simp [tokPV]; rfl) (fun i hi j hj => ?_) (by simpa using hn) hcap (fun h => by cases h) (fun t ht => by cases ht)
  ·simpa using this
  ·refine ⟨by simpa using hcell k (by simpa using hk), .inr (.inr ⟨Nat.le_trans hB hg, hglt⟩)⟩
  ·have hi' : i < toks.length := by simpa using hi
   have hj' : j < 5 := by simpa [tokPV, PV.cells] using hj
   have hat := tokCells_at toks i j hi' hj'
   have e : (tokCells toks).getD (i * 5 + j) undef = (toks[i].cells).getD j undef := by simp [List.getD, hat]
   simp only [e]
   simp only [List.getElem_map]
   match j, hj' with
   | 0, _ => exact .v rfl
   | 1, _ => exact .v rfl
   | 2, _ => exact .v rfl
   | 3, _ => exact .v rfl
   | 4, _ => exact .v rfl
theorem rep_fault {G : Ghost} {w w' : World} {v : Value} {kind line col : Int} (h : IsFault w.heap.size w' v kind line col) :
    Rep (G.grow w.heap.size w'.heap.size) w' (.ifc 59 (.ep [.v (.int .i64 line), .v (.int .i64 col), .v (.string ⟨#[]⟩), .v (.bool false), .ifc 34 (.v (.int .i64 kind))])) v := by
 obtain ⟨g, rfl, hg, hh⟩ := h
 have hglt : g < w'.heap.size := (Array.getElem?_eq_some_iff.1 hh).1
 refine .ifc _ _ _ (.ep _ g 0 (fun k => (#[.int .i64 line, .int .i64 col, .string ⟨#[]⟩, .bool false, .iface 34 (.int .i64 kind)] : Array Value).getD k undef) (fun k hk => ⟨?_, .inr (.inr ⟨hg, hglt⟩)⟩) (fun i hi => ?_) (fun i hi => ?_))
 ·have hk' : k < 5 := by simpa using hk
  match k, hk' with
  | 0, _ => simp [World.cell?, hh]
  | 1, _ => simp [World.cell?, hh]
  | 2, _ => simp [World.cell?, hh]
  | 3, _ => simp [World.cell?, hh]
  | 4, _ => simp [World.cell?, hh]
 ·have hk' : i < 5 := by simpa using hi
  match i, hk' with
  | 0, _ => exact ⟨rfl, rfl⟩
  | 1, _ => exact ⟨rfl, rfl⟩
  | 2, _ => exact ⟨rfl, rfl⟩
  | 3, _ => exact ⟨rfl, rfl⟩
  | 4, _ => exact ⟨rfl, rfl⟩
 ·have hk' : i < 5 := by simpa using hi
  match i, hk' with
  | 0, _ => exact .v rfl
  | 1, _ => exact .v rfl
  | 2, _ => exact .v rfl
  | 3, _ => exact .v rfl
  | 4, _ => exact .ifc _ _ _ (.v rfl)
theorem lexWords_any (s : ByteArray) (hs : s.size ≤ 281474976710656) (m : M) : ACalls Tryz.prog 29 [.v (.string s)] m (fun v m' => v = wordsPV (lexAll s) ∧ m' = m) := by
 refine ⟨by kernel_rfl, fun G w vs hI hl hr => ?_⟩
 obtain ⟨v0, rfl⟩ : ∃ v0, vs = [v0] := by
  match vs, hl with
  | [v0], _ => exact ⟨v0, rfl⟩
 have h0 := hr 0 (by simp) (by simp)
 simp only [List.getElem_cons_zero] at h0
 have e0 : v0 = .string s := h0.atomEq
 subst e0
 obtain ⟨u0, e1, n, e2⟩ := (hI.lay (1, fun v => ∃ n, v = .int .i64 n) (by simp [laidC])).1
 subst e2
 refine (words_any s w n e1 hs).mono ?_
 rintro e w' ⟨hb, hok, hno⟩
 obtain ⟨hI', hE⟩ := hI.grown hb
 cases hq : (lexAll s).ok with
 | true =>
  obtain ⟨out, rfl, ho⟩ := hok hq
  refine .inl ⟨_, _, m, _, rfl, ⟨rfl, rfl⟩, ?_, hI', hE⟩
  unfold wordsPV
  rw [if_pos hq]
  refine .tp _ [out, .nilIface] rfl (fun j h1 h2 => ?_)
  have hj : j < 2 := by simpa using h1
  match j, hj with
  | 0, _ => exact rep_toks ho (Nat.le_refl _)
  | 1, _ => exact .v rfl
 | false =>
  obtain ⟨v, rfl, hv⟩ := hno hq
  refine .inl ⟨_, _, m, _, rfl, ⟨rfl, rfl⟩, ?_, hI', hE⟩
  unfold wordsPV
  rw [if_neg (by simp [hq])]
  refine .tp _ [.slice none 0 0, v] rfl (fun j h1 h2 => ?_)
  have hj : j < 2 := by simpa using h1
  match j, hj with
  | 0, _ => exact .snil _ _ (fun t ht => by cases ht)
  | 1, _ => exact rep_fault hv
end Go.Proofs.YtohgdopfjkjppaaGreatDoor
