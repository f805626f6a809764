/-
  The walk over lex.Words, and what it leaves.
-/
import Derived.Test.YtijdhfjdnndkmaaLexW
import Derived.WalkKit
import Derived.WalkSpells
import Derived.WalkLawsBesides
import Derived.Lib.Hide
import Derived.Deep.Light
import Derived.Deep.QuietTactic
import Derived.BigQuiet
import Derived.Deep.RegionHeld3
import Derived.Deep.AppendLies
set_option linter.unusedVariables false
set_option linter.unusedSimpArgs false
namespace Go.Proofs.Ytijdhfjdnndkmaa
open Go.RowKit

/-- An error of a kind at a place. -/
def IsFault (B : Nat) (w : World) (v : Value) (kind line col : Int) : Prop :=
  ∃ g, v = .iface 57 (.pointer (some ⟨g, 0, none⟩)) ∧ B ≤ g ∧ w.heap[g]? = some (.cells #[.int .i64 line, .int .i64 col, .string ⟨#[]⟩, .bool false, .iface 43 (.int .i64 kind)] 59 (0, 0))

theorem IsFault.mono {B B' : Nat} {w : World} {v : Value} {kind line col : Int} (h : IsFault B w v kind line col) (hB : B' ≤ B) : IsFault B' w v kind line col := by
  obtain ⟨g, h1, h2, h3⟩ := h
  exact ⟨g, h1, Nat.le_trans hB h2, h3⟩
set_option maxHeartbeats 1000000 in
theorem new_any (kind line col : Int) (hk : kind ≠ 0) (w : World) :
    Calls Try.prog 15 #[.int .i64 kind, .agg #[.int .i64 line, .int .i64 col]] w fun e w' => ∃ v, e = .returned v ∧ IsFault w.heap.size w' v kind line col ∧ Below w.heap.size w w' := by
  have h0 : (kind == 0) = false := by simpa using hk
  go_enter Try.func15, Try.ntmps15
  go_wp2
  go_ret
  refine ⟨_, rfl, ⟨_, rfl, ?_, ?_⟩, ?_⟩
  · simp
  · have h1 := heap_alloc_new (w.alloc (.cells #[.int .i64 line, .int .i64 col] 36)) (.cells #[.int .i64 line, .int .i64 col, .string ⟨#[]⟩, .bool false, .iface 43 (.int .i64 kind)] 59)
    simpa using h1
  · exact ((Below.refl _ _).alloc (Nat.le_refl _) _).alloc (by simp) _

theorem RdAt.pos {w : World} {R : Nat} {s : ByteArray} {i line frm : Nat} {out : Value} (h : RdAt w R s i line frm out) : posOf R w = i := by
  unfold posOf; rw [h.cells.2.1]; exact Int.toNat_natCast i
theorem num_kind (l : List UInt8) (h : (numNext l).code = 3) : (numNext l).kind = 1 ∨ (numNext l).kind = 3 := by
  unfold numNext at *
  split
  · simp
  · split <;> simp_all
theorem word_kind (l : List UInt8) (h : (wordNext l).code = 3) : (wordNext l).kind = 1 ∨ (wordNext l).kind = 3 := by
  unfold wordNext at *
  split at h
  · rename_i q; rw [if_pos q]; simp
  · rename_i q; rw [if_neg q]
    split at h
    · simp at h
    · rename_i q; rw [if_neg q]
      split at h
      · simp at h
      · rename_i q; rw [if_neg q]
        split at h
        · rename_i q; rw [if_pos q]; simp
        · simp at h
theorem sign_kind (l : List UInt8) (h : (signNext l).code = 3) : (signNext l).kind = 1 ∨ (signNext l).kind = 3 := by
  unfold signNext at *
  split at h
  · simp at h
  · rename_i q; rw [if_neg q]
    split at h
    · simp at h
    · rename_i q; rw [if_neg q]; simp
theorem next_kind (l : List UInt8) (h : (lexNext l).code = 3) : (lexNext l).kind = 1 ∨ (lexNext l).kind = 3 := by
  unfold lexNext at *
  split at h
  · simp at h
  · rename_i q; rw [if_neg q]
    split at h
    · simp at h
    · rename_i q; rw [if_neg q]
      split at h
      · simp at h
      · rename_i q; rw [if_neg q]
        split at h
        · rename_i q; rw [if_pos q]; exact num_kind l h
        · rename_i q; rw [if_neg q]
          split at h
          · rename_i q; rw [if_pos q]; exact word_kind l h
          · rename_i q; rw [if_neg q]; exact sign_kind l h

/-- What Words leaves. -/
def WordsP (w : World) (r : LexR) (e : Ending) (w' : World) : Prop :=
  Below w.heap.size w w' ∧ (r.ok = true → ∃ out, e = .returned (.tuple #[out, .nilIface]) ∧ w'.ownsRow w.heap.size 38 5 out r.toks.length (tokCells r.toks)) ∧
  (r.ok = false → ∃ v, e = .returned (.tuple #[.slice none 0 0, v]) ∧ IsFault w.heap.size w' v r.kind r.line r.col)

set_option maxHeartbeats 4000000 in
theorem words_any (s : ByteArray) (w : World) (m : Int) (hm : w.cell? ⟨0, 0, none⟩ = some (.int .i64 m)) (hs : s.size ≤ 281474976710656) :
    Calls Try.prog 11 #[.string s] w (WordsP w (lexAll s)) := by
  have h0 : 0 < w.heap.size := World.block_lt_of_cell? w _ hm
  have HM := Lib.hid hm
  clear hm
  by_cases hbig : 65536 < s.size
  · have hlex := Lib.hid (show lexAll s = ⟨false, [], 3, 1, 1⟩ by unfold lexAll; rw [if_pos hbig])
    go_enter Try.func11, Try.ntmps11
    go_wp2_with fail
    refine (new_any _ _ _ (by decide) _).mono ?_
    rintro e w1 ⟨v, rfl, hv, hb⟩
    go_wp2_with fail
    go_ret2
    rw [hlex.out]
    exact ⟨hb, fun h => absurd h (by simp), fun _ => ⟨v, rfl, hv⟩⟩
  · have hlex := Lib.hid (show lexAll s = lexGo s (s.size + 1) 0 1 0 [] by unfold lexAll; rw [if_neg hbig])
    go_enter Try.func11, Try.ntmps11
    go_wp2_with fail
    obtain ⟨i0, hi0, hz0, hz1, hz2⟩ := info_parts info_tok
    have hrd0 : Rd w.heap.size (w.alloc (.cells #[.string s, .int .i64 0, .int .i64 1, .int .i64 0, .slice none 0 0] 46)) w.heap.size s 0 1 0 [] (.slice none 0 0) :=
      ⟨heap_alloc_new w _, ⟨rfl, Or.inl ⟨rfl, rfl⟩⟩, Nat.le_refl _⟩
    go_loopw [5] (fun _ wr => Below w.heap.size w wr ∧ ∃ (i line frm f : Nat) (toks : List Tok) (out : Value), Rd w.heap.size wr w.heap.size s i line frm toks out ∧ i ≤ s.size ∧ frm ≤ i ∧ line ≤ i + 1 ∧ toks.length ≤ i ∧ s.size + 1 ≤ f + i ∧
      Hid (lexAll s = lexGo s f i line frm toks)) (fun _ wr => s.size - posOf w.heap.size wr)
    case atStart => exact ⟨(Below.refl _ _).alloc (Nat.le_refl _) _, 0, 1, 0, s.size + 1, [], _, hrd0, by omega, by omega, by omega, by simp, by omega, hlex⟩
    case round =>
      clear hrd0 hlex
      obtain ⟨hB, i, line, frm, f, toks, out, hrd, hi, hfrm, hline, htk, hf, hgo⟩ := hrel
      obtain ⟨d0, d1, _, _, d4⟩ := hrd.at_.cells
      have HRD := Lib.hid hrd
      have HBW := Lib.hid hB
      have HMr := Lib.hid ((hB.cell (p := ⟨0, 0, none⟩) h0).trans HM.out)
      have hpo : posOf w.heap.size wr = i := hrd.at_.pos
      obtain ⟨f', rfl⟩ : ∃ f', f = f' + 1 := ⟨f - 1, by omega⟩
      have p1 : (0 : Int) ≤ (i : Int) := Int.natCast_nonneg _
      clear hrd hB
      by_cases hlt : i < s.size
      · have hdc := drop_cons s i hlt
        have hfit := next_fits s[i] (s.data.toList.drop (i + 1))
        rw [← hdc] at hfit
        have hll : (s.data.toList.drop (i + 1)).length = s.size - (i + 1) := by rw [List.length_drop, Array.length_toList]; rfl
        rw [hll] at hfit
        have HF := Lib.hid hfit
        have hc3 := next_code (s.data.toList.drop i)
        have hkd := Lib.hid (next_kind (s.data.toList.drop i))
        have hstep : Hid (lexAll s = lexGo s (f' + 1) i line frm toks) := hgo
        clear hdc hfit hll
        go_wp2_with fail
        refine (one_any put_said w.heap.size w.heap.size s i line frm toks out _ (by exact HRD.out) m (by exact HMr.out) (by omega) hlt hfrm (by omega) htk).mono ?_
        rintro e w1 ⟨hb1, q0, q1, q2, q3⟩
        have hc4 : (lexNext (s.data.toList.drop i)).code = 0 ∨ (lexNext (s.data.toList.drop i)).code = 1 ∨ (lexNext (s.data.toList.drop i)).code = 2 ∨ (lexNext (s.data.toList.drop i)).code = 3 := by omega
        rcases hc4 with hc | hc | hc | hc
        · obtain ⟨rfl, out1, hr1⟩ := q0 hc
          have hfit := HF.out (Or.inl hc)
          have hgo2 : Hid (lexAll s = lexGo s f' (i + (lexNext (s.data.toList.drop i)).k) line frm toks) := Lib.hid (by
            rw [hstep.out, lexGo, if_neg (by omega), if_pos hc])
          have HR1 := Lib.hid hr1
          have HB1 := Lib.hid hb1
          clear q0 q1 q2 q3 hr1 hb1 hc
          generalize (lexNext (s.data.toList.drop i)).k = k at *
          go_wp2_with fail
          refine ⟨⟨HBW.out.trans HB1.out, i + k, line, frm, f', toks, out1, HR1.out, by omega, by omega, by omega, by omega, by omega, hgo2⟩, ?_⟩
          have hp1 : posOf w.heap.size w1 = i + k := HR1.out.at_.pos
          rw [hp1, hpo]; omega
        · obtain ⟨rfl, out1, hr1⟩ := q1 hc
          have hgo2 : Hid (lexAll s = lexGo s f' (i + 1) (line + 1) (i + 1) toks) := Lib.hid (by
            rw [hstep.out, lexGo, if_neg (by omega), if_neg (by omega), if_pos hc])
          have HR1 := Lib.hid hr1
          have HB1 := Lib.hid hb1
          clear q0 q1 q2 q3 hr1 hb1 hc
          go_wp2_with fail
          refine ⟨⟨HBW.out.trans HB1.out, i + 1, line + 1, i + 1, f', toks, out1, HR1.out, by omega, by omega, by omega, by omega, by omega, hgo2⟩, ?_⟩
          have hp1 : posOf w.heap.size w1 = i + 1 := HR1.out.at_.pos
          rw [hp1, hpo]; omega
        · obtain ⟨rfl, out1, hr1⟩ := q2 hc
          have hfit := HF.out (Or.inr hc)
          have hgo2 := Lib.hid (show lexAll s = lexGo s f' (i + (lexNext (s.data.toList.drop i)).k) line frm (toks ++ [⟨(lexNext (s.data.toList.drop i)).kind, s.extract i (i + (lexNext (s.data.toList.drop i)).k), (lexNext (s.data.toList.drop i)).n, line, (i : Int) - frm + 1⟩]) by
            rw [hstep.out, lexGo, if_neg (by omega), if_neg (by omega), if_neg (by omega), if_pos hc])
          have HR1 := Lib.hid hr1
          have HB1 := Lib.hid hb1
          clear q0 q1 q2 q3 hr1 hb1 hc
          generalize hK : (lexNext (s.data.toList.drop i)).k = k at *
          generalize (lexNext (s.data.toList.drop i)).kind = kd at *
          generalize (lexNext (s.data.toList.drop i)).n = nn at *
          clear hK
          go_wp2_with fail
          refine ⟨⟨HBW.out.trans HB1.out, i + k, line, frm, f', _, out1, HR1.out, by omega, by omega, by omega, by simp; omega, by omega, hgo2⟩, ?_⟩
          have hp1 : posOf w.heap.size w1 = i + k := HR1.out.at_.pos
          rw [hp1, hpo]; omega
        · obtain ⟨rfl, out1, hr1⟩ := q3 hc
          have hk0 : (lexNext (s.data.toList.drop i)).kind ≠ 0 := by rcases hkd.out hc with h | h <;> rw [h] <;> decide
          have hgo2 := Lib.hid (show lexAll s = ⟨false, [], (lexNext (s.data.toList.drop i)).kind, line, (i : Int) - frm + 1⟩ by
            rw [hstep.out, lexGo, if_neg (by omega), if_neg (by omega), if_neg (by omega), if_neg (by omega)])
          have HR1 := Lib.hid hr1
          have HB1 := Lib.hid hb1
          have hR1 := hr1.at_.lt
          clear q0 q1 q2 q3 hr1 hb1 hc hkd
          generalize (lexNext (s.data.toList.drop i)).kind = kd at *
          have hk1 : (kd != 0) = true := by simpa using hk0
          go_wp2_with fail
          refine (pos_any w.heap.size s i line frm out1 _ (by exact HR1.out.at_) (by omega) hfrm).mono ?_
          rintro e w2 ⟨rfl, hb2⟩
          go_wp2_with fail
          refine (new_any _ _ _ hk0 _).mono ?_
          rintro e w3 ⟨v, rfl, hv, hb3⟩
          go_wp2_with fail
          go_ret2
          rw [hgo2.out]
          refine ⟨((HBW.out.trans HB1.out).trans (hb2.mono (Nat.le_of_lt hR1))).trans (hb3.mono (Nat.le_trans (Nat.le_of_lt hR1) hb2.size)), fun h => absurd h (by simp), fun _ => ⟨v, rfl, hv.mono (Nat.le_trans (Nat.le_of_lt hR1) hb2.size)⟩⟩
      · have hgo2 := Lib.hid (show lexAll s = ⟨true, toks ++ [⟨0, ⟨#[]⟩, 0, line, (i : Int) - frm + 1⟩], 0, 0, 0⟩ by rw [hgo.out, lexGo, if_pos (by omega)])
        go_wp2_with fail
        have hR := HRD.out.at_.lt
        have hne := ne_of_tok HRD.out
        clear hgo d0 d1 hpo
        refine wp_region_D (fun w' => w'.cell? ⟨w.heap.size, 4, none⟩ = some out) (fun _ => false) (by kernel_rfl) (by exact d4) (fun hHeld => ?_)
        refine wpAnyD_take (i := 0) (v := ?v0) rfl (by kernel_rfl) (by kernel_rfl) (by kernel_rfl) (by kernel_rfl) (fun _ _ _ h => h) (Or.inl ⟨by rfl, ?h0⟩) hHeld ?_
        case h0 => (intro w hSw; (try dsimp only at hSw); go_simp; try with_reducible rfl)
        try simp only [Act.put, List.setIfInBounds_toArray, List.set_cons_zero, List.set_cons_succ, List.getElem_toArray, List.getElem_cons_zero, List.getElem_cons_succ]
        refine wpAnyD_take (i := 1) (v := ?v1) rfl (by kernel_rfl) (by kernel_rfl) (by kernel_rfl) (by kernel_rfl) (fun _ _ _ h => h) (Or.inl ⟨by rfl, ?h1⟩) hHeld ?_
        case h1 => (intro w hSw; (try dsimp only at hSw); go_simp; try with_reducible rfl)
        try simp only [Act.put, List.setIfInBounds_toArray, List.set_cons_zero, List.set_cons_succ, List.getElem_toArray, List.getElem_cons_zero, List.getElem_cons_succ]
        refine wpAnyD_take (i := 2) (v := ?v2) rfl (by kernel_rfl) (by kernel_rfl) (by kernel_rfl) (by kernel_rfl) (fun _ _ _ h => h) (Or.inl ⟨by rfl, ?h2⟩) hHeld ?_
        case h2 => (intro w hSw; (try dsimp only at hSw); go_simp; try with_reducible rfl)
        try simp only [Act.put, List.setIfInBounds_toArray, List.set_cons_zero, List.set_cons_succ, List.getElem_toArray, List.getElem_cons_zero, List.getElem_cons_succ]
        refine wpAnyD_take (i := 3) (v := ?v3) rfl (by kernel_rfl) (by kernel_rfl) (by kernel_rfl) (by kernel_rfl) (fun _ _ _ h => h) (Or.inl ⟨by rfl, ?h3⟩) hHeld ?_
        case h3 => (intro w hSw; (try dsimp only at hSw); go_simp; try with_reducible rfl)
        try simp only [Act.put, List.setIfInBounds_toArray, List.set_cons_zero, List.set_cons_succ, List.getElem_toArray, List.getElem_cons_zero, List.getElem_cons_succ]
        refine wpAnyD_take (i := 4) (v := ?v4) rfl (by kernel_rfl) (by kernel_rfl) (by kernel_rfl) (by kernel_rfl) (fun _ _ _ h => h) (Or.inl ⟨by rfl, ?h4⟩) hHeld ?_
        case h4 => (intro w hSw; (try dsimp only at hSw); go_simp; try with_reducible rfl)
        try simp only [Act.put, List.setIfInBounds_toArray, List.set_cons_zero, List.set_cons_succ, List.getElem_toArray, List.getElem_cons_zero, List.getElem_cons_succ]
        refine wpAnyD_one (i := 5) (by kernel_rfl) rfl (fun K hK => ?_)
        go_simp
        refine (pos_any w.heap.size s i line frm out _ (by exact HRD.out.at_) (by omega) hfrm).mono ?_
        rintro e w1 ⟨rfl, hb⟩
        have r1 : RdAt w1 w.heap.size s i line frm out := (hb.block w.heap.size hR).trans HRD.out.at_
        have hR1 : w.heap.size < w1.heap.size := Nat.lt_of_lt_of_le hR hb.size
        have own1 := Lib.hid (own_below (W := wr.drew) HRD.out.own hb)
        have R1 := Lib.hid r1
        clear r1
        go_simp
        refine hK.out _ _ (fun _ => ?_) (fun hHeld1 => ?_)
        · exact R1.out.cells.2.2.2.2
        replace hHeld := hHeld1 rfl
        clear hHeld1
        clear hK K
        try simp only [Act.put, List.setIfInBounds_toArray, List.set_cons_zero, List.set_cons_succ, List.getElem_toArray, List.getElem_cons_zero, List.getElem_cons_succ]
        refine wpAnyD_take (i := 6) (v := ?v6) rfl (by kernel_rfl) (by kernel_rfl) (by kernel_rfl) (by kernel_rfl) (fun _ _ _ h => h) (Or.inl ⟨by rfl, ?h6⟩) hHeld ?_
        case h6 => (intro w hSw; (try dsimp only at hSw); go_simp; try with_reducible rfl)
        try simp only [Act.put, List.setIfInBounds_toArray, List.set_cons_zero, List.set_cons_succ, List.getElem_toArray, List.getElem_cons_zero, List.getElem_cons_succ]
        refine wpAnyD_one (i := 7) (by kernel_rfl) rfl (fun K hK => ?_)
        go_simp
        refine hK.out _ _ (fun _ => ?_) (fun hHeld1 => ?_)
        · exact (RdAt.cells (w := w1.alloc _) ((Below.heap_alloc w1 _ w.heap.size hR1).trans R1.out)).2.2.2.2
        replace hHeld := hHeld1 rfl
        clear hHeld1
        clear hK K
        try simp only [Act.put, List.setIfInBounds_toArray, List.set_cons_zero, List.set_cons_succ, List.getElem_toArray, List.getElem_cons_zero, List.getElem_cons_succ]
        refine wpAnyD_one (i := 8) (by kernel_rfl) rfl (fun K hK => ?_)
        refine step_append_lies _ (by rfl) _ _ _ (by rfl) w.heap.size 38 i0 _ 5 48 Try.underlying29 hi0 hz0 hz1 hz2 rfl (by omega) out toks.length (tokCells toks) (by rfl) (own1.out.alloc _) ⟨w1.heap.size, 0, none⟩ 1 1 (Tok.cells ⟨0, ⟨#[]⟩, 0, line, i - frm + 1⟩) (by rfl) (by rfl) (World.news_of_block (cs := (Tok.cells ⟨0, ⟨#[]⟩, 0, line, i - frm + 1⟩).toArray) (t := 38) (fr := (0, 0)) (heap_alloc_new w1 _)) (by simp [Value.oneCell', Tok.cells]) (by omega) (by simp [maxLen]; omega) (by omega) (by simp; omega) (w1.heap.size + 1) (by simp) ?_
        intro gg cap w2 hown1 hgrow hat hlt2
        have r2 : RdAt w2 w.heap.size s i line frm out := ((hgrow.block w.heap.size (by simp; omega) hne).trans (Below.heap_alloc w1 _ w.heap.size hR1)).trans R1.out
        have R2 := Lib.hid r2
        clear r2
        refine hK.out _ _ (fun _ => ?_) (fun hHeld1 => ?_)
        · exact R2.out.cells.2.2.2.2
        replace hHeld := hHeld1 rfl
        clear hHeld1
        clear hK K
        try simp only [Act.put, List.setIfInBounds_toArray, List.set_cons_zero, List.set_cons_succ, List.getElem_toArray, List.getElem_cons_zero, List.getElem_cons_succ]
        refine wpAnyD_take (i := 9) (v := ?v9) rfl (by kernel_rfl) (by kernel_rfl) (by kernel_rfl) (by kernel_rfl) (fun _ _ _ h => h) (Or.inl ⟨by rfl, ?h9⟩) hHeld ?_
        case h9 => (intro w hSw; (try dsimp only at hSw); go_simp; try with_reducible rfl)
        try simp only [Act.put, List.setIfInBounds_toArray, List.set_cons_zero, List.set_cons_succ, List.getElem_toArray, List.getElem_cons_zero, List.getElem_cons_succ]
        refine wpAnyD_take (i := 10) (v := ?v10) rfl (by kernel_rfl) (by kernel_rfl) (by kernel_rfl) (by kernel_rfl) (fun _ _ _ h => h) (Or.inl ⟨by rfl, ?h10⟩) hHeld ?_
        case h10 => (intro w hSw; (try dsimp only at hSw); go_simp; try with_reducible rfl)
        try simp only [Act.put, List.setIfInBounds_toArray, List.set_cons_zero, List.set_cons_succ, List.getElem_toArray, List.getElem_cons_zero, List.getElem_cons_succ]
        refine wpAnyD_done (by kernel_rfl) ?_ _
        have HO := Lib.hid hown1
        clear hHeld
        go_wp2_with fail
        go_ret2
        have hb1 : Below w.heap.size wr w1 := ⟨hb.os, hb.tape, hb.output, hb.size, fun k hk => hb.block k (Nat.lt_of_lt_of_le hk (Nat.le_of_lt hR))⟩
        have hb2 : Below w.heap.size wr w2 := (hb1.alloc (by omega) _).grown hgrow (by simp; omega) (fun k hk => (HRD.out.own.lt k hk).1)
        rw [hgo2.out]
        refine ⟨HBW.out.trans hb2, fun _ => ⟨_, rfl, ?_⟩, fun h => absurd h (by simp)⟩
        have e1 : (toks ++ [(⟨0, ⟨#[]⟩, 0, line, (i : Int) - frm + 1⟩ : Tok)]).length = toks.length + 1 := by simp
        have e2 : tokCells (toks ++ [(⟨0, ⟨#[]⟩, 0, line, (i : Int) - frm + 1⟩ : Tok)]) = tokCells toks ++ Tok.cells ⟨0, ⟨#[]⟩, 0, line, (i : Int) - frm + 1⟩ := by simp [tokCells]
        simp only [e1, e2]
        exact HO.out
end Go.Proofs.Ytijdhfjdnndkmaa
