/-
  The walk over (*reader).put.
-/
import Derived.Test.YtijdhfjdnndkmaaLexA
import Derived.Test.YtijdhfjdnndkmaaHeld
import Derived.WalkKit
import Derived.WalkSpells
import Derived.WalkLawsBesides
import Derived.Lib.Hide
import Derived.Deep.Light
import Derived.Deep.QuietTactic
import Derived.BigQuiet
import Derived.Deep.RegionHeld3
import Derived.Deep.AppendLies
import Derived.Deep.RegionLaw
set_option linter.unusedVariables false
set_option linter.unusedSimpArgs false
namespace Go.Proofs.Ytijdhfjdnndkmaa
open Go.RowKit

theorem RdAt.set4 {w : World} {R : Nat} {s : ByteArray} {i line frm : Nat} {out : Value} (h : RdAt w R s i line frm out) (v : Value) : RdAt (w.setCell ⟨R, 4, none⟩ v) R s i line frm v := by
  unfold RdAt at *
  simp [World.setCell, Array.getElem?_modify, h]
theorem RdAt.set1 {w : World} {R : Nat} {s : ByteArray} {i line frm : Nat} {out : Value} (h : RdAt w R s i line frm out) (j : Nat) : RdAt (w.setCell ⟨R, 1, none⟩ (.int .i64 j)) R s j line frm out := by
  unfold RdAt at *
  simp [World.setCell, Array.getElem?_modify, h]
theorem own_set {w : World} {base e size n : Nat} {v : Value} {xs : List Value} (h : w.ownsRow base e size v n xs) {p : Addr} (hne : some p.block ≠ v.ownBlock) (u : Value) : (w.setCell p u).ownsRow base e size v n xs := by
  refine ⟨h.1, h.2.imp id ?_⟩
  rintro ⟨g, cap, cur, hv, hB, hh, hr⟩
  refine ⟨g, cap, cur, hv, hB, (Below.heap_setCell w p u g ?_).trans hh, hr⟩
  intro e
  apply hne
  rw [hv, ← e]; rfl
theorem rd_own_ne {w : World} {R : Nat} {s : ByteArray} {i line frm n base : Nat} {out v : Value} {xs : List Value} (h1 : RdAt w R s i line frm out) (h : w.ownsRow base 38 5 v n xs) : some R ≠ v.ownBlock := by
  rcases h.2 with ⟨rfl, _⟩ | ⟨g, cap, cur, rfl, _, hh, _⟩
  · simp [Value.ownBlock]
  · intro he
    have : R = g := by simpa [Value.ownBlock] using he
    subst this
    unfold RdAt at h1
    rw [h1] at hh
    injection hh with hh
    injection hh with _ ht
    exact absurd ht (by decide)

set_option maxHeartbeats 2000000 in
theorem put_any (B R : Nat) (s : ByteArray) (i line frm n : Nat) (kind v : Int) (toks : List Tok) (out : Value) (w : World) (h : Rd B w R s i line frm toks out)
    (hs : s.size ≤ 65536) (hi : i + n ≤ s.size) (hf : frm ≤ i) (hl : line ≤ 70000) (ht : toks.length ≤ i) :
    Calls Try.prog 31 #[.pointer (some ⟨R, 0, none⟩), .int .u8 kind, .int .i64 n, .int .i32 v] w fun e w' => e = .returned (.tuple #[]) ∧
      ∃ out', Rd B w' R s (i + n) line frm (toks ++ [⟨kind, s.extract i (i + n), v, line, i - frm + 1⟩]) out' ∧ Below B w w' := by
  obtain ⟨i0, hi0, hz0, hz1, hz2⟩ := info_parts info_tok
  have hR := RdAt.lt h.at_
  have hne := ne_of_tok h
  have hown := h.own
  have hat := h.at_
  have c0 : w.cell? ⟨R, 0, none⟩ = some (.string s) := by unfold RdAt at hat; simp [World.cell?, hat]
  have c1 : w.cell? ⟨R, 1, none⟩ = some (.int .i64 i) := by unfold RdAt at hat; simp [World.cell?, hat]
  have c2 : w.cell? ⟨R, 2, none⟩ = some (.int .i64 line) := by unfold RdAt at hat; simp [World.cell?, hat]
  have c3 : w.cell? ⟨R, 3, none⟩ = some (.int .i64 frm) := by unfold RdAt at hat; simp [World.cell?, hat]
  have c4 : w.cell? ⟨R, 4, none⟩ = some out := by unfold RdAt at hat; simp [World.cell?, hat]
  have hB := h.le
  have g1 : (0 : Int) ≤ (i : Int) := Int.natCast_nonneg _
  have g2 : (i : Int) ≤ (i : Int) + (n : Int) := by omega
  have g3 : (i : Int) + (n : Int) ≤ (s.size : Int) := by omega
  have g4 : IntKind.i64.wrap ((i : Int) + (n : Int)) = (i : Int) + (n : Int) := IntWalk.i64_in _ (by omega)
  have g5 : ((i : Int) + (n : Int)).toNat = i + n := by omega
  have g6 : (0 : Int) ≤ (i : Int) + (n : Int) := by omega
  have HAT := Lib.hid hat
  have HOWN := Lib.hid hown
  have H := Lib.hid h
  clear hat hown h
  go_enter Try.func31, Try.ntmps31
  go_wp2_with fail
  refine wp_region_D (fun w' => w'.cell? ⟨R, 0, none⟩ = some (.string s) ∧ w'.cell? ⟨R, 1, none⟩ = some (.int .i64 i) ∧ w'.cell? ⟨R, 2, none⟩ = some (.int .i64 line) ∧ w'.cell? ⟨R, 3, none⟩ = some (.int .i64 frm) ∧ w'.cell? ⟨R, 4, none⟩ = some out) (fun j => j == 29) (by kernel_rfl) ?_ (fun hHeld => ?_)
  · exact ⟨c0, c1, c2, c3, c4⟩
  refine wpAnyD_take (i := 0) (v := ?v0) rfl (by kernel_rfl) (by kernel_rfl) (by kernel_rfl) (by kernel_rfl) (fun _ _ _ h => h) (Or.inl ⟨by rfl, ?h0⟩) hHeld ?_
  case h0 => (intro w hSw; (try dsimp only at hSw); go_simp; try with_reducible rfl)
  try simp only [Act.put, List.setIfInBounds_toArray, List.set_cons_zero, List.set_cons_succ]
  refine wpAnyD_take (i := 1) (v := ?v1) rfl (by kernel_rfl) (by kernel_rfl) (by kernel_rfl) (by kernel_rfl) (fun _ _ _ h => h) (Or.inl ⟨by rfl, ?h1⟩) hHeld ?_
  case h1 => (intro w hSw; (try dsimp only at hSw); go_simp; try with_reducible rfl)
  try simp only [Act.put, List.setIfInBounds_toArray, List.set_cons_zero, List.set_cons_succ]
  refine wpAnyD_take (i := 2) (v := ?v2) rfl (by kernel_rfl) (by kernel_rfl) (by kernel_rfl) (by kernel_rfl) (fun _ _ _ h => h) (Or.inl ⟨by rfl, ?h2⟩) hHeld ?_
  case h2 => (intro w hSw; (try dsimp only at hSw); go_simp; try with_reducible rfl)
  try simp only [Act.put, List.setIfInBounds_toArray, List.set_cons_zero, List.set_cons_succ]
  refine wpAnyD_take (i := 3) (v := ?v3) rfl (by kernel_rfl) (by kernel_rfl) (by kernel_rfl) (by kernel_rfl) (fun _ _ _ h => h) (Or.inl ⟨by rfl, ?h3⟩) hHeld ?_
  case h3 => (intro w hSw; (try dsimp only at hSw); go_simp; try with_reducible rfl)
  try simp only [Act.put, List.setIfInBounds_toArray, List.set_cons_zero, List.set_cons_succ]
  refine wpAnyD_take (i := 4) (v := ?v4) rfl (by kernel_rfl) (by kernel_rfl) (by kernel_rfl) (by kernel_rfl) (fun _ _ _ h => h) (Or.inl ⟨by rfl, ?h4⟩) hHeld ?_
  case h4 => (intro w hSw; (try dsimp only at hSw); go_simp; try with_reducible rfl)
  try simp only [Act.put, List.setIfInBounds_toArray, List.set_cons_zero, List.set_cons_succ]
  refine wpAnyD_take (i := 5) (v := ?v5) rfl (by kernel_rfl) (by kernel_rfl) (by kernel_rfl) (by kernel_rfl) (fun _ _ _ h => h) (Or.inl ⟨by rfl, ?h5⟩) hHeld ?_
  case h5 => (intro w hSw; (try dsimp only at hSw); go_simp; try with_reducible rfl)
  try simp only [Act.put, List.setIfInBounds_toArray, List.set_cons_zero, List.set_cons_succ]
  refine wpAnyD_take (i := 6) (v := ?v6) rfl (by kernel_rfl) (by kernel_rfl) (by kernel_rfl) (by kernel_rfl) (fun _ _ _ h => h) (Or.inl ⟨by rfl, ?h6⟩) hHeld ?_
  case h6 => (intro w hSw; (try dsimp only at hSw); go_simp; try with_reducible rfl)
  try simp only [Act.put, List.setIfInBounds_toArray, List.set_cons_zero, List.set_cons_succ]
  refine wpAnyD_take (i := 7) (v := ?v7) rfl (by kernel_rfl) (by kernel_rfl) (by kernel_rfl) (by kernel_rfl) (fun _ _ _ h => h) (Or.inl ⟨by rfl, ?h7⟩) hHeld ?_
  case h7 => (intro w hSw; (try dsimp only at hSw); go_simp; try with_reducible rfl)
  try simp only [Act.put, List.setIfInBounds_toArray, List.set_cons_zero, List.set_cons_succ]
  refine wpAnyD_take (i := 8) (v := ?v8) rfl (by kernel_rfl) (by kernel_rfl) (by kernel_rfl) (by kernel_rfl) (fun _ _ _ h => h) (Or.inl ⟨by rfl, ?h8⟩) hHeld ?_
  case h8 => (intro w hSw; (try dsimp only at hSw); go_simp; try with_reducible rfl)
  try simp only [Act.put, List.setIfInBounds_toArray, List.set_cons_zero, List.set_cons_succ]
  refine wpAnyD_take (i := 9) (v := ?v9) rfl (by kernel_rfl) (by kernel_rfl) (by kernel_rfl) (by kernel_rfl) (fun _ _ _ h => h) (Or.inl ⟨by rfl, ?h9⟩) hHeld ?_
  case h9 => (intro w hSw; (try dsimp only at hSw); go_simp; try with_reducible rfl)
  try simp only [Act.put, List.setIfInBounds_toArray, List.set_cons_zero, List.set_cons_succ]
  refine wpAnyD_take (i := 10) (v := ?v10) rfl (by kernel_rfl) (by kernel_rfl) (by kernel_rfl) (by kernel_rfl) (fun _ _ _ h => h) (Or.inl ⟨by rfl, ?h10⟩) hHeld ?_
  case h10 => (intro w hSw; (try dsimp only at hSw); go_simp; try with_reducible rfl)
  try simp only [Act.put, List.setIfInBounds_toArray, List.set_cons_zero, List.set_cons_succ]
  refine wpAnyD_take (i := 11) (v := ?v11) rfl (by kernel_rfl) (by kernel_rfl) (by kernel_rfl) (by kernel_rfl) (fun _ _ _ h => h) (Or.inl ⟨by rfl, ?h11⟩) hHeld ?_
  case h11 => (intro w hSw; (try dsimp only at hSw); go_simp; try with_reducible rfl)
  try simp only [Act.put, List.setIfInBounds_toArray, List.set_cons_zero, List.set_cons_succ]
  refine wpAnyD_take (i := 12) (v := ?v12) rfl (by kernel_rfl) (by kernel_rfl) (by kernel_rfl) (by kernel_rfl) (fun _ _ _ h => h) (Or.inl ⟨by rfl, ?h12⟩) hHeld ?_
  case h12 => (intro w hSw; (try dsimp only at hSw); go_simp; try with_reducible rfl)
  try simp only [Act.put, List.setIfInBounds_toArray, List.set_cons_zero, List.set_cons_succ]
  refine wpAnyD_take (i := 13) (v := ?v13) rfl (by kernel_rfl) (by kernel_rfl) (by kernel_rfl) (by kernel_rfl) (fun _ _ _ h => h) (Or.inl ⟨by rfl, ?h13⟩) hHeld ?_
  case h13 => (intro w hSw; (try dsimp only at hSw); go_simp; try with_reducible rfl)
  try simp only [Act.put, List.setIfInBounds_toArray, List.set_cons_zero, List.set_cons_succ]
  refine wpAnyD_take (i := 14) (v := ?v14) rfl (by kernel_rfl) (by kernel_rfl) (by kernel_rfl) (by kernel_rfl) (fun _ _ _ h => h) (Or.inl ⟨by rfl, ?h14⟩) hHeld ?_
  case h14 => (intro w hSw; (try dsimp only at hSw); go_simp; try with_reducible rfl)
  try simp only [Act.put, List.setIfInBounds_toArray, List.set_cons_zero, List.set_cons_succ]
  refine wpAnyD_take (i := 15) (v := ?v15) rfl (by kernel_rfl) (by kernel_rfl) (by kernel_rfl) (by kernel_rfl) (fun _ _ _ h => h) (Or.inl ⟨by rfl, ?h15⟩) hHeld ?_
  case h15 => (intro w hSw; (try dsimp only at hSw); go_simp; try with_reducible rfl)
  try simp only [Act.put, List.setIfInBounds_toArray, List.set_cons_zero, List.set_cons_succ]
  refine wpAnyD_take (i := 16) (v := ?v16) rfl (by kernel_rfl) (by kernel_rfl) (by kernel_rfl) (by kernel_rfl) (fun _ _ _ h => h) (Or.inl ⟨by rfl, ?h16⟩) hHeld ?_
  case h16 => (intro w hSw; (try dsimp only at hSw); go_simp; try with_reducible rfl)
  try simp only [Act.put, List.setIfInBounds_toArray, List.set_cons_zero, List.set_cons_succ]
  refine wpAnyD_take (i := 17) (v := ?v17) rfl (by kernel_rfl) (by kernel_rfl) (by kernel_rfl) (by kernel_rfl) (fun _ _ _ h => h) (Or.inl ⟨by rfl, ?h17⟩) hHeld ?_
  case h17 => (intro w hSw; (try dsimp only at hSw); go_simp; try with_reducible rfl)
  try simp only [Act.put, List.setIfInBounds_toArray, List.set_cons_zero, List.set_cons_succ]
  refine wpAnyD_take (i := 18) (v := ?v18) rfl (by kernel_rfl) (by kernel_rfl) (by kernel_rfl) (by kernel_rfl) (fun _ _ _ h => h) (Or.inl ⟨by rfl, ?h18⟩) hHeld ?_
  case h18 => (intro w hSw; (try dsimp only at hSw); go_simp; try with_reducible rfl)
  try simp only [Act.put, List.setIfInBounds_toArray, List.set_cons_zero, List.set_cons_succ]
  refine wpAnyD_take (i := 19) (v := ?v19) rfl (by kernel_rfl) (by kernel_rfl) (by kernel_rfl) (by kernel_rfl) (fun _ _ _ h => h) (Or.inl ⟨by rfl, ?h19⟩) hHeld ?_
  case h19 => (intro w hSw; (try dsimp only at hSw); go_simp; try with_reducible rfl)
  try simp only [Act.put, List.setIfInBounds_toArray, List.set_cons_zero, List.set_cons_succ]
  refine wpAnyD_take (i := 20) (v := ?v20) rfl (by kernel_rfl) (by kernel_rfl) (by kernel_rfl) (by kernel_rfl) (fun _ _ _ h => h) (Or.inl ⟨by rfl, ?h20⟩) hHeld ?_
  case h20 => (intro w hSw; (try dsimp only at hSw); go_simp; try with_reducible rfl)
  try simp only [Act.put, List.setIfInBounds_toArray, List.set_cons_zero, List.set_cons_succ]
  refine wpAnyD_take (i := 21) (v := ?v21) rfl (by kernel_rfl) (by kernel_rfl) (by kernel_rfl) (by kernel_rfl) (fun _ _ _ h => h) (Or.inl ⟨by rfl, ?h21⟩) hHeld ?_
  case h21 => (intro w hSw; (try dsimp only at hSw); go_simp; try with_reducible rfl)
  try simp only [Act.put, List.setIfInBounds_toArray, List.set_cons_zero, List.set_cons_succ]
  refine wpAnyD_take (i := 22) (v := ?v22) rfl (by kernel_rfl) (by kernel_rfl) (by kernel_rfl) (by kernel_rfl) (fun _ _ _ h => h) (Or.inl ⟨by rfl, ?h22⟩) hHeld ?_
  case h22 => (intro w hSw; (try dsimp only at hSw); go_simp; try with_reducible rfl)
  try simp only [Act.put, List.setIfInBounds_toArray, List.set_cons_zero, List.set_cons_succ]
  refine wpAnyD_one (i := 23) (by kernel_rfl) rfl (fun K hK => ?_)
  go_simp
  refine (pos_any R s i line frm out _ (by exact HAT.out) (by omega) hf).mono ?_
  rintro e w1 ⟨rfl, hb⟩
  have r1 : RdAt w1 R s i line frm out := (hb.block R hR).trans HAT.out
  have hR1 : R < w1.heap.size := Nat.lt_of_lt_of_le hR hb.size
  have own1 := Lib.hid (own_below (W := w.drew) HOWN.out hb)
  have R1 := Lib.hid r1
  clear r1
  go_simp
  refine hK.out _ _ (fun _ => ?_) (fun hHeld1 => ?_)
  · exact R1.out.cells
  replace hHeld := hHeld1 rfl
  clear hHeld1
  clear hK K
  try simp only [Act.put, List.setIfInBounds_toArray, List.set_cons_zero, List.set_cons_succ]
  refine wpAnyD_take (i := 24) (v := ?v24) rfl (by kernel_rfl) (by kernel_rfl) (by kernel_rfl) (by kernel_rfl) (fun _ _ _ h => h) (Or.inl ⟨by rfl, ?h24⟩) hHeld ?_
  case h24 => (intro w hSw; (try dsimp only at hSw); go_simp; try with_reducible rfl)
  try simp only [Act.put, List.setIfInBounds_toArray, List.set_cons_zero, List.set_cons_succ]
  refine wpAnyD_one (i := 25) (by kernel_rfl) rfl (fun K hK => ?_)
  go_simp
  refine hK.out _ _ (fun _ => ?_) (fun hHeld1 => ?_)
  · exact (RdAt.cells (w := w1.alloc _) ((Below.heap_alloc w1 _ R hR1).trans R1.out))
  replace hHeld := hHeld1 rfl
  clear hHeld1
  clear hK K
  try simp only [Act.put, List.setIfInBounds_toArray, List.set_cons_zero, List.set_cons_succ]
  refine wpAnyD_one (i := 26) (by kernel_rfl) rfl (fun K hK => ?_)
  refine step_append_lies _ (by rfl) _ _ _ (by rfl) B 38 i0 _ 5 48 Try.underlying29 hi0 hz0 hz1 hz2 rfl (by omega) out toks.length (tokCells toks) (by rfl) (own1.out.alloc _) ⟨w1.heap.size, 0, none⟩ 1 1 (Tok.cells ⟨kind, s.extract i (i + n), v, line, i - frm + 1⟩) (by rfl) (by rfl) (World.news_of_block (cs := (Tok.cells ⟨kind, s.extract i (i + n), v, line, i - frm + 1⟩).toArray) (t := 38) (fr := (0, 0)) (heap_alloc_new w1 _)) (by simp [Value.oneCell', Tok.cells]) (by omega) (by simp [maxLen]; omega) (by omega) (by simp; omega) (w1.heap.size + 1) (by simp) ?_
  intro gg cap w2 hown1 hgrow hat hlt
  have r2 : RdAt w2 R s i line frm out := ((hgrow.block R (by simp; omega) hne).trans (Below.heap_alloc w1 _ R hR1)).trans R1.out
  have R2 := Lib.hid r2
  clear r2
  refine hK.out _ _ (fun _ => ?_) (fun hHeld1 => ?_)
  · exact R2.out.cells
  replace hHeld := hHeld1 rfl
  clear hHeld1
  clear hK K
  try simp only [Act.put, List.setIfInBounds_toArray, List.set_cons_zero, List.set_cons_succ]
  refine wpAnyD_one (i := 27) (by kernel_rfl) rfl (fun K hK => ?_)
  go_simp
  refine hK.out _ _ (fun _ => ?_) (fun hHeld1 => ?_)
  · exact hHeld
  replace hHeld := hHeld1 rfl
  clear hHeld1
  clear hK K
  try simp only [Act.put, List.setIfInBounds_toArray, List.set_cons_zero, List.set_cons_succ]
  refine wpAnyD_one (i := 28) (by kernel_rfl) rfl (fun K hK => ?_)
  go_simp
  refine hK.out _ _ (fun _ => ?_) (fun hHeld1 => ?_)
  · exact hHeld
  replace hHeld := hHeld1 rfl
  clear hHeld1
  clear hK K
  try simp only [Act.put, List.setIfInBounds_toArray, List.set_cons_zero, List.set_cons_succ]
  have z4 := R2.out.free 4
  refine wpAnyD_one (i := 29) (by kernel_rfl) rfl (fun K hK => ?_)
  go_simp
  refine hK.out _ _ (fun hd => absurd hd (by decide)) (fun _ => ?_)
  clear hK K
  try simp only [Act.put, List.setIfInBounds_toArray, List.set_cons_zero, List.set_cons_succ]
  refine wpAnyD_done (by kernel_rfl) ?_ _
  have hno := rd_own_ne R2.out hown1
  have HO := Lib.hid hown1
  have HG := Lib.hid hgrow
  have HA := Lib.hid hat
  obtain ⟨q0, q1, q2, q3, q4⟩ := R2.out.cells
  have z1 := R2.out.free 1
  have hR2 := R2.out.lt
  clear hHeld hown1 hgrow hat c0 c1 c2 c3 c4
  go_wp2
  go_end0
  have hb1 : Below B w w1 := ⟨hb.os, hb.tape, hb.output, hb.size, fun k hk => hb.block k (Nat.lt_of_lt_of_le hk (Nat.le_trans hB (Nat.le_of_lt hR)))⟩
  have hb2 : Below B w w2 := (hb1.alloc (by omega) _).grown HG.out (by simp; omega) (fun k hk => (HOWN.out.lt k hk).1)
  refine ⟨rfl, .slice (some ⟨gg, 0, none⟩) (toks.length + 1) cap, ⟨?_, ?_, hB⟩, (hb2.setCell hB _).setCell hB _⟩
  · have h1 := (R2.out.set4 (.slice (some ⟨gg, 0, none⟩) (toks.length + 1) cap)).set1 (i + n)
    simpa using h1
  · have h1 := own_set (p := ⟨R, 1, none⟩) (own_set (p := ⟨R, 4, none⟩) HO.out hno (.slice (some ⟨gg, 0, none⟩) (toks.length + 1) cap)) hno (.int .i64 ((i : Int) + n))
    have e1 : (toks ++ [(⟨kind, s.extract i (i + n), v, line, (i : Int) - frm + 1⟩ : Tok)]).length = toks.length + 1 := by simp
    have e2 : tokCells (toks ++ [(⟨kind, s.extract i (i + n), v, line, (i : Int) - frm + 1⟩ : Tok)]) = tokCells toks ++ Tok.cells ⟨kind, s.extract i (i + n), v, line, (i : Int) - frm + 1⟩ := by simp [tokCells]
    rw [e1, e2]
    exact h1
end Go.Proofs.Ytijdhfjdnndkmaa
