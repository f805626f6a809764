/-
 The reference's lexer: Words.
-/
-- halved
import Derived.Test.YtohgdopfjkjppaaGreatDoorLrA
import Derived.Test.YtohgdopfjkjppaaGreatDoorLexM3
import Derived.Test.YtohgdopfjkjppaaGreatDoorPsR10
set_option linter.unusedVariables false
set_option linter.unusedSimpArgs false
namespace Go.Proofs.YtohgdopfjkjppaaGreatDoor
open Nat renaming reduceEqDiff → jA, reduceAdd → jB, reduceMul → jC, reduceLT → jD, reduceLeDiff → jE, reduceBEq → jF, reduceBNe → jG
open Int renaming reduceLE → jH, reduceLT → jI, reduceToNat → jJ, reduceEq → jK
open Go Go.RowKit
set_option maxRecDepth 20000
set_option linter.defProp false
def tfLrB := tfPsC

structure Lw (m q : M) (o : Own) : Prop where
 lt : m.nb < q.nb
 get : q.get m.nb = some [.v (.int .i64 0), .v (.int .i64 0)]
 boxes : q.boxes.take m.nb = m.boxes
 nt : m.nt ≤ q.nt
 toks : q.toks.take m.nt = m.toks
 mine : o = .full ∨ ∃ t, o = .tok t ∧ m.nt ≤ t ∧ q.alive t 5
theorem Lw.start (m : M) : Lw m (m.ext [some [.v (.int .i64 0), .v (.int .i64 0)]]) .full :=
 ⟨by rw [ext_nb]; simp, ext_get0 rfl, by simp [M.nb, M.ext], Nat.le_refl _, by simp [M.nt, M.ext], .inl rfl⟩
theorem Lw.free {m q : M} {o : Own} (h : Lw m q o) : o.free q 5 := by
 rcases h.mine with rfl | ⟨t, rfl, _, h⟩
 ·trivial
 ·exact h
theorem Lw.skip {m q : M} {o : Own} (h : Lw m q o) (bs : List (Option (List PV))) : Lw m (q.ext bs) o := by
 refine ⟨by rw [ext_nb]; have := h.lt; omega, ext_old h.get, ?_, h.nt, h.toks, h.mine⟩
 show (q.boxes ++ bs).take m.nb = _
 rw [List.take_append_of_le_length (by have := h.lt; unfold M.nb at *; omega)]
 exact h.boxes
theorem Lw.grow {m q : M} {o : Own} (h : Lw m q o) : Lw m ((o.use q).fresh 5) (.tok q.nt) := by
 have hl := use_len o q
 have hnt := h.nt
 refine ⟨by rw [fresh_nb, use_nb]; exact h.lt, ?_, ?_, ?_, ?_, ?_⟩
 ·show (o.use q).get m.nb = _
  unfold M.get
  rw [use_boxes]
  exact h.get
 ·show (o.use q).boxes.take m.nb = _
  rw [use_boxes]
  exact h.boxes
 ·rw [fresh_nt, use_nt]; omega
 ·show ((o.use q).toks ++ [some 5]).take m.nt = m.toks
  rw [List.take_append_of_le_length (by rw [hl]; exact hnt)]
  rcases h.mine with rfl | ⟨t, rfl, ht, _⟩
  ·exact h.toks
  ·show (q.toks.set t none).take m.nt = _
   rw [List.take_set_of_le ht, h.toks]
 ·refine .inr ⟨_, rfl, hnt, ?_⟩
  show ((o.use q).toks ++ [some 5])[q.nt]? = some (some 5)
  rw [← hl]; simp
theorem Lw.leave {m q : M} {o : Own} {c : List PV} {bs : List (Option (List PV))} {v : PV} {R : PV → M → Prop} (h : Lw m q o) (hv : v.settle.pure = true) (hR : R v.settle m) : ∃ v' m', Leave m ((q.upd m.nb c).ext bs) v v' m' ∧ R v' m' := by
 refine leave_plain ?_ h.toks hv hR
 have hlt := h.lt
 show ((q.boxes.set m.nb (some c)) ++ bs).take m.nb = _
 rw [List.take_append_of_le_length (by rw [List.length_set]; unfold M.nb at *; omega), List.take_set_of_le (Nat.le_refl _)]
 exact h.boxes
theorem Lw.leave0 {m q : M} {o : Own} {c : List PV} {v : PV} {R : PV → M → Prop} (h : Lw m q o) (hv : v.settle.pure = true) (hR : R v.settle m) : ∃ v' m', Leave m (q.upd m.nb c) v v' m' ∧ R v' m' := by
 have := h.leave (c := c) (bs := []) hv hR
 simpa [M.ext] using this
theorem Lw.got {m q : M} {o : Own} (h : Lw m q o) {c : List PV} : (q.upd m.nb c).get m.nb = some c := by rw [M.get_upd, if_pos ⟨rfl, h.lt⟩]
theorem ext_getL {m q : M} {o : Own} (h : Lw m q o) {bs : List (Option (List PV))} : (q.ext bs).get m.nb = some [.v (.int .i64 0), .v (.int .i64 0)] := ext_old h.get
theorem ext_updL {m q : M} {o : Own} (h : Lw m q o) {bs : List (Option (List PV))} {c : List PV} : (q.ext bs).upd m.nb c = (q.upd m.nb c).ext bs := ext_updOld h.lt
theorem upd_getL {m q : M} {o : Own} (h : Lw m q o) {bs : List (Option (List PV))} {c : List PV} : ((q.upd m.nb c).ext bs).get m.nb = some c := ext_old (by rw [M.get_upd, if_pos ⟨rfl, h.lt⟩])
theorem nx_nl {l : List UInt8} (h : headN l = 10) : lexNext l = ⟨1, 1, 0, 0⟩ := by unfold lexNext; rw [if_pos h]
theorem nx_blank {l : List UInt8} (h : headN l ≠ 10) (h2 : headN l = 32 ∨ headN l = 9) : lexNext l = ⟨0, 1, 0, 0⟩ := by unfold lexNext; rw [if_neg h, if_pos h2]
theorem nx_remark {l : List UInt8} (h : headN l ≠ 10) (h2 : ¬ (headN l = 32 ∨ headN l = 9)) (h3 : Lib.hasPrefix l [45, 45] = true) : lexNext l = ⟨0, (l.takeWhile fun c => c != 10).length, 0, 0⟩ := by unfold lexNext; rw [if_neg h, if_neg h2, if_pos h3]
theorem nx_digit {l : List UInt8} (h : headN l ≠ 10) (h2 : ¬ (headN l = 32 ∨ headN l = 9)) (h3 : Lib.hasPrefix l [45, 45] = false) (h4 : isDigit (headN l) = true) : lexNext l = numNext l := by unfold lexNext; rw [if_neg h, if_neg h2, if_neg (by rw [h3]; simp), if_pos h4]
theorem nx_letter {l : List UInt8} (h : headN l ≠ 10) (h2 : ¬ (headN l = 32 ∨ headN l = 9)) (h3 : Lib.hasPrefix l [45, 45] = false) (h4 : isDigit (headN l) = false) (h5 : isLetter (headN l) = true) : lexNext l = wordNext l := by unfold lexNext; rw [if_neg h, if_neg h2, if_neg (by rw [h3]; simp), if_neg (by rw [h4]; simp), if_pos h5]
theorem nx_sign {l : List UInt8} (h : headN l ≠ 10) (h2 : ¬ (headN l = 32 ∨ headN l = 9)) (h3 : Lib.hasPrefix l [45, 45] = false) (h4 : isDigit (headN l) = false) (h5 : isLetter (headN l) = false) : lexNext l = signNext l := by unfold lexNext; rw [if_neg h, if_neg h2, if_neg (by rw [h3]; simp), if_neg (by rw [h4]; simp), if_neg (by rw [h5]; simp)]
theorem getD_at (s : Str) {k : Nat} (h : k < s.size) : s.data.toList.getD k 0 = s[k] := by
 rw [List.getD_eq_getElem?_getD, List.getElem?_eq_getElem (by simpa using h)]; rfl
theorem drop_at (s : Str) {k : Nat} (h : k < s.size) : s.data.toList.drop k = s.data.toList.getD k 0 :: s.data.toList.drop (k + 1) := by
 rw [getD_at s h]; exact drop_cons s k h
theorem pre2 (s : Str) {i : Nat} (h : i < s.size) (a b : UInt8) : Lib.hasPrefix (s.data.toList.drop i) [a, b] = (s.data.toList.getD i 0 == a && (decide (i + 1 < s.size) && s.data.toList.getD (i + 1) 0 == b)) := by
 rw [drop_at s h]
 have e : ∀ x y : UInt8, (x == y) = (y == x) := fun x y => by rw [Bool.eq_iff_iff]; simp only [beq_iff_eq]; exact eq_comm
 by_cases h2 : i + 1 < s.size
 ·rw [drop_at s h2]
  simp only [Lib.hasPrefix, List.isPrefixOf, h2, decide_true, Bool.true_and, Bool.and_true]
  rw [e a, e b]
 ·rw [drop_end s (i + 1) (by omega)]
  simp only [Lib.hasPrefix, List.isPrefixOf, h2, decide_false, Bool.false_and, Bool.and_false]
theorem numGo_le : ∀ (l : List UInt8) (n v : Nat) {a b : Nat}, v ≤ 2147483648 → numGo l n v = some (a, b) → b ≤ 2147483648 ∧ n ≤ a ∧ a ≤ n + l.length
 | [], n, v, a, b, hv, h => by cases h; exact ⟨hv, Nat.le_refl _, by simp⟩
 | c :: r, n, v, a, b, hv, h => by
  unfold numGo at h
  split at h
  ·split at h
   ·cases h
   ·rename_i h2
    have := numGo_le r (n + 1) _ (by omega) h
    simp only [List.length_cons]
    omega
  ·cases h; exact ⟨hv, Nat.le_refl _, by omega⟩
theorem numGo_pos {l : List UInt8} {b : UInt8} {r : List UInt8} {n v : Nat} (hl : l = b :: r) (hd : isDigit b.toNat = true) (h : numGo l 0 0 = some (n, v)) : 1 ≤ n ∧ n ≤ l.length ∧ v ≤ 2147483648 := by
 subst hl
 unfold numGo at h
 rw [if_pos hd] at h
 split at h
 ·cases h
 ·have := numGo_le r 1 _ (by omega) h
  simp only [List.length_cons]
  omega
theorem wrap32_small {v : Nat} (h : v < 2147483648) : wrap32 (v : Int) = (v : Int) := by
 unfold wrap32; omega
theorem wrap32_top : wrap32 2147483648 = -2147483648 := by unfold wrap32; omega
theorem wl_step (s : Str) {k : Nat} (h : k < s.size) (hc : (isLetter (s.data.toList.getD k 0).toNat || isDigit (s.data.toList.getD k 0).toNat) = true) : wordLen (s.data.toList.drop k) = wordLen (s.data.toList.drop (k + 1)) + 1 := by
 rw [drop_at s h, wordLen_cons _ _ hc]
theorem wl_stop (s : Str) {k : Nat} (hc : s.size ≤ k ∨ (isLetter (s.data.toList.getD k 0).toNat || isDigit (s.data.toList.getD k 0).toNat) = false) : wordLen (s.data.toList.drop k) = 0 := by
 by_cases h : k < s.size
 ·rw [drop_at s h, wordLen_stop _ _ (hc.resolve_left (by omega))]
 ·rw [drop_end s k (by omega)]; rfl
theorem cut_toList (s : Str) (i j : Nat) : (s.extract i j).data.toList = (s.data.toList.drop i).take (j - i) := by
 simp [ByteArray.extract, ByteArray.copySlice]
theorem tw_step (s : Str) {k : Nat} (h : k < s.size) (hc : (s.data.toList.getD k 0 == 10) = false) : ((s.data.toList.drop k).takeWhile fun c => c != 10).length = ((s.data.toList.drop (k + 1)).takeWhile fun c => c != 10).length + 1 := by
 rw [drop_at s h, List.takeWhile_cons, if_pos (by rw [bne, hc]; rfl)]; rfl
theorem tw_stop (s : Str) {k : Nat} (hc : s.size ≤ k ∨ (s.data.toList.getD k 0 == 10) = true) : ((s.data.toList.drop k).takeWhile fun c => c != 10).length = 0 := by
 by_cases h : k < s.size
 ·rw [drop_at s h, List.takeWhile_cons, if_neg (by rw [bne, hc.resolve_left (by omega)]; simp)]; rfl
 ·rw [drop_end s k (by omega)]; rfl
theorem no_two (x y : UInt8) : ((⟨#[]⟩ : Str).toList == (⟨#[x, y]⟩ : Str).toList) = false := by
 rw [Bool.eq_false_iff, Ne, bytes_tl2]
 intro h
 have := congrArg (fun s : Str => s.data.size) h
 simp at this
theorem two_pre (s : Str) {i : Nat} (h : i + 1 < s.size) (x y : UInt8) : ((s.extract i (i + 2)).toList == (⟨#[x, y]⟩ : Str).toList) = Lib.hasPrefix (s.data.toList.drop i) [x, y] := by
 rw [Bool.eq_iff_iff, bytes_tl2, pre2 s (by omega)]
 have e : ∀ a b : Str, a = b ↔ a.data.toList = b.data.toList := fun a b => ⟨fun h => by rw [h], fun h => ByteArray.ext (Array.ext' h)⟩
 rw [e, cut_toList, drop_at s (by omega), drop_at s h, show i + 2 - i = 2 by omega]
 simp [h]
def refPV (r : LexR) : PV := if r.ok then .tp [.sl .no (r.toks.map tokPV), .v (.int .i64 0), posPV 0 0] else .tp [.sl .no [], .v (.int .i64 r.kind), posPV r.line r.col]
set_option maxHeartbeats 8000000 in
theorem rwords_any (s : Str) (m : M) : ACalls Tryz.prog 18 [pS s] m (fun v m' => v = refPV (lexAll s) ∧ m' = m) := by
 refine ACalls.enter (mu := [4, 9, 12]) ok_mix Tryz.func18 rfl (by kernel_rfl) (by kernel_rfl) (by simp only [List.length_cons, List.length_nil, Tryz.ntmps18]; omega) ?_
 cases hz : decide ((s.size : Int) > 65536) with
 | true =>
  have hz2 : 65536 < s.size := by simp at hz; omega
  (repeat (first | refine aSeq fun X hX => ?_ | refine aRet ?_; try simp only [slx, ↓reduceIte, jA, reduceCtorEq] | (first | apply aReg | apply aIf); simp -implicitDefEqProofs only [↓slp, slb, ↓reduceIte, reduceCtorEq, jA, jB, jE, jF, tfLrB, pS, hz] | apply hX; clear hX X))
  simp only [aPost, Tryz.results18, aRes_n, aRes_t, aRes_c, pack_one, pack_two]
  simp -implicitDefEqProofs only [slb, ↓reduceIte, jA, jB, jE, tfLrB]
  refine leave_ext rfl ⟨?_, rfl⟩
  unfold lexAll; rw [if_pos hz2]; rfl
 | false =>
 have hz2 : s.size ≤ 65536 := by simp at hz; omega
 have hall : lexAll s = lexGo s (s.size + 1) 0 1 0 [] := by unfold lexAll; rw [if_neg (by omega)]
 (repeat (first | refine aSeq fun X hX => ?_ | refine aBlk ?_ | refine aSkip ?_ | (first | apply aReg | apply aIf); simp -implicitDefEqProofs only [↓slp, slb, ↓reduceIte, reduceCtorEq, jF, tfLrB, pS, hz] | apply hX; clear hX X))
 obtain ⟨I, hI⟩ : ∃ I : Nat → F → M → Prop, ∀ n g q, I n g q = (∃ (i line frm : Nat) (toks : List Tok) (o : Own), s.size + 1 ≤ i + n ∧ i ≤ s.size ∧ frm ≤ i ∧ line ≤ i + 1 ∧ toks.length ≤ i ∧ lexAll s = lexGo s n i line frm toks ∧ g 0 = pS s ∧ g 4 = .bp m.nb 0 ∧ g 5 = .sl o (toks.map tokPV) ∧ g 6 = pI line ∧ g 7 = pI (i - frm + 1 : Nat) ∧ g 8 = pI i ∧ Lw m q o) := ⟨_, fun _ _ _ => rfl⟩
 refine aLoopN I (s.size + 1) ?_ ?_
 ·rw [hI]; exact ⟨0, 1, 0, [], .full, by omega, by omega, by omega, by omega, by simp, hall, rfl, rfl, rfl, rfl, rfl, rfl, .start m⟩
 intro W n g q hrel hW
 rw [hI] at hrel
 obtain ⟨i, line, frm, toks, o, hn, hi, hfr, hln, htl, hall2, f0, f4, f5, f6, f7, f8, hL⟩ := hrel
 obtain ⟨n, rfl⟩ : ∃ k, n = k + 1 := ⟨n - 1, by omega⟩
 have hcol : ((i - frm + 1 : Nat) : Int) = (i : Int) - frm + 1 := by omega
 have hst := hall2
 rw [lexGo] at hst
 cases hb : decide ((i : Int) < (s.size : Int)) with
 | false =>
  have hlt : s.size ≤ i := by simp at hb; omega
  rw [if_pos hlt] at hst
  have hfree := hL.free
  have hcells : ∀ x ∈ toks.map tokPV, x.cells.length = 5 := fun x hx => by
   obtain ⟨a, _, rfl⟩ := List.mem_map.1 hx; rfl
  have hmx : toks.length + 1 ≤ maxLen := by unfold maxLen; omega
  have h48 : (toks.length + 1) * 48 ≤ 140737488355328 := by omega
  have hg := hL.grow.get
  have hu := fun c => hL.grow.got (c := c)
  (repeat (first | refine aSeq fun X hX => ?_ | (first | refine aExit ?_ | refine aRet ?_); try simp only [slx, ↓reduceIte, jA, reduceCtorEq] | (first | apply aReg | apply aIf); simp -implicitDefEqProofs only [forall_eq, ↓slp, slb, ↓reduceIte, reduceCtorEq, jA, jB, jC, jE, jF, tfLrB, f0, f4, f5, f6, f7, f8, pI, pS, hb, hfree, hmx, h48, hg] | apply hX; clear hX X | clear hX X; apply hX; clear hX X | apply And.intro; focus omega))
  simp only [aPost, Tryz.results18, aRes_n, aRes_t, aRes_c, pack_one, pack_two]
  simp -implicitDefEqProofs only [slb, ↓reduceIte, jA, jB, jE, tfLrB, hu, f4]
  exact hL.grow.leave0 rfl ⟨by rw [hst]; simp only [refPV, List.map_append]; rw [← hcol]; rfl, rfl⟩
 | true =>
  have hlt : i < s.size := by simp at hb; omega
  rw [if_neg (by omega)] at hst
  have hb1 : (0 : Int) ≤ (i : Int) := by omega
  obtain ⟨b, hbb⟩ : ∃ b, s.data.toList.getD i 0 = b := ⟨_, rfl⟩
  obtain ⟨l, hl⟩ : ∃ l, s.data.toList.drop i = l := ⟨_, rfl⟩
  have hlc : l = b :: s.data.toList.drop (i + 1) := by rw [← hl, ← hbb]; exact drop_at s hlt
  have hN : headN l = b.toNat := by rw [hlc]; rfl
  have hi1 : IntKind.i64.wrap ((i : Int) + 1) = ((i + 1 : Nat) : Int) := by rw [wrap64 (by omega)]; omega
  have hc1 : IntKind.i64.wrap (((i - frm + 1 : Nat) : Int) + 1) = ((i + 1 - frm + 1 : Nat) : Int) := by rw [wrap64 (by omega)]; omega
  have hl1 : IntKind.i64.wrap ((line : Int) + 1) = ((line + 1 : Nat) : Int) := by rw [wrap64 (by omega)]; omega
  rw [hl, ← hcol] at hst
  (repeat (first | refine aSeq fun X hX => ?_ | refine aSkip ?_ | (first | apply aReg | apply aIf); simp -implicitDefEqProofs only [↓slp, slb, ↓reduceIte, reduceCtorEq, jA, jB, jE, jF, tfLrB, f0, f6, f7, f8, pI, pS, hb, hb1, hlt, hbb] | apply hX; clear hX X))
  have tail : ∀ (f : F) (kd nn : Int) (k : Nat) (t0 : Str), 1 ≤ k → i + k ≤ s.size → lexNext l = ⟨2, k, kd, nn⟩ → f 0 = pS s → f 4 = .bp m.nb 0 → f 5 = .sl o (toks.map tokPV) → f 6 = pI line → f 7 = pI (i - frm + 1 : Nat) → f 8 = pI i → f 11 = pI k → f 12 = .bp (q.nb + 1) 0 → X f (q.ext [some [.v (.int .i64 (line : Int)), .v (.int .i64 ((i - frm + 1 : Nat) : Int))], some [.v (.int .u8 kd), .v (.string t0), .v (.int .i32 nn), .v (.int .i64 (line : Int)), .v (.int .i64 ((i - frm + 1 : Nat) : Int))]]) := by
   clear f0 f4 f5 f6 f7 f8
   intro f kd nn k t0 hk1 hk2 hx f0 f4 f5 f6 f7 f8 f11 f12
   refine hX _ _ ?_
   clear hX X
   have hwk : IntKind.i64.wrap ((i : Int) + (k : Int)) = ((i + k : Nat) : Int) := by rw [wrap64 (by omega)]; omega
   have hck : IntKind.i64.wrap (((i - frm + 1 : Nat) : Int) + (k : Int)) = ((i + k - frm + 1 : Nat) : Int) := by rw [wrap64 (by omega)]; omega
   have hb2 : (i : Int) ≤ ((i + k : Nat) : Int) := by omega
   have hb3 : ((i + k : Nat) : Int) ≤ (s.size : Int) := by omega
   have hfree := hL.free
   have hcells : ∀ x ∈ toks.map tokPV, x.cells.length = 5 := fun x hx => by
    obtain ⟨a, _, rfl⟩ := List.mem_map.1 hx; rfl
   have hmx : toks.length + 1 ≤ maxLen := by unfold maxLen; omega
   have h48 : (toks.length + 1) * 48 ≤ 140737488355328 := by omega
   (repeat (first | refine aSeq fun X hX => ?_ | refine aReg ?_; simp -implicitDefEqProofs only [forall_eq, ↓slp, slb, ↓reduceIte, reduceCtorEq, jA, jB, jC, jE, jF, tfLrB, f0, f5, f7, f8, f11, f12, pI, pS, hwk, hck, hb1, hb2, hb3] | apply hX; clear hX X | apply And.intro; focus ((repeat' apply And.intro) <;> first | omega | assumption)))
   rw [hx] at hst
   simp (decide := true) only [↓reduceIte] at hst
   refine hW n _ _ (by omega) ?_
   rw [hI]
   exact ⟨i + k, line, frm, toks ++ [⟨kd, s.extract i (i + k), nn, line, ((i - frm + 1 : Nat) : Int)⟩], .tok q.nt, by omega, by omega, by omega, by omega, by simp; omega, hst, f0, f4, by rw [List.map_append]; rfl, f6, rfl, rfl, hL.grow.skip _⟩
  clear hX
  have h10e : ((b.toNat : Int) == 10) = decide (b.toNat = 10) := by rw [Bool.eq_iff_iff]; simp only [beq_iff_eq, decide_eq_true_eq]; omega
  have h32e : ((b.toNat : Int) == 32) = decide (b.toNat = 32) := by rw [Bool.eq_iff_iff]; simp only [beq_iff_eq, decide_eq_true_eq]; omega
  have h9e : ((b.toNat : Int) == 9) = decide (b.toNat = 9) := by rw [Bool.eq_iff_iff]; simp only [beq_iff_eq, decide_eq_true_eq]; omega
  cases h10 : ((b.toNat : Int) == 10) with
  | true =>
   have n10 : b.toNat = 10 := by rw [h10e] at h10; simpa using h10
   rw [nx_nl (by rw [hN]; exact n10)] at hst
   simp (decide := true) only [↓reduceIte] at hst
   simp -implicitDefEqProofs only [slb, reduceCtorEq]
   (repeat (first | refine aSeq fun X hX => ?_ | refine aExit ?_; try simp only [slx, ↓reduceIte, jA, reduceCtorEq] | refine aReg ?_; simp -implicitDefEqProofs only [↓slp, slb, ↓reduceIte, jA, jF, f6, f8, pI, hi1, hl1] | apply hX; clear hX X))
   refine hW n _ _ (by omega) ?_
   rw [hI]
   exact ⟨i + 1, line + 1, i + 1, toks, o, by omega, by omega, by omega, by omega, by omega, hst, f0, f4, f5, rfl, by rw [Nat.sub_self]; rfl, rfl, hL.skip _⟩
  | false =>
  have n10 : headN l ≠ 10 := by rw [h10e] at h10; rw [hN]; simpa using h10
  have blank : headN l = 32 ∨ headN l = 9 → lexAll s = lexGo s n (i + 1) line frm toks := fun h => by
   rw [nx_blank n10 h] at hst
   simpa (decide := true) only [↓reduceIte] using hst
  cases h32 : ((b.toNat : Int) == 32) with
  | true =>
   have hst := blank (.inl (by rw [h32e] at h32; rw [hN]; simpa using h32))
   simp -implicitDefEqProofs only [slb]
   (repeat (first | refine aSeq fun X hX => ?_ | refine aExit ?_; try simp only [slx, ↓reduceIte, jA, reduceCtorEq] | (first | apply aReg | apply aIf); simp -implicitDefEqProofs only [↓slp, slb, ↓reduceIte, reduceCtorEq, jA, jF, f7, f8, pI, h32, hi1, hc1] | apply hX; clear hX X))
   refine hW n _ _ (by omega) ?_
   rw [hI]
   exact ⟨i + 1, line, frm, toks, o, by omega, by omega, by omega, by omega, by omega, hst, f0, f4, f5, f6, rfl, rfl, hL.skip _⟩
  | false =>
  cases h9 : ((b.toNat : Int) == 9) with
  | true =>
   have hst := blank (.inr (by rw [h9e] at h9; rw [hN]; simpa using h9))
   simp -implicitDefEqProofs only [slb]
   (repeat (first | refine aSeq fun X hX => ?_ | refine aExit ?_; try simp only [slx, ↓reduceIte, jA, reduceCtorEq] | (first | apply aReg | apply aIf); simp -implicitDefEqProofs only [↓slp, slb, ↓reduceIte, reduceCtorEq, jA, jF, f7, f8, pI, h32, h9, hi1, hc1] | apply hX; clear hX X))
   refine hW n _ _ (by omega) ?_
   rw [hI]
   exact ⟨i + 1, line, frm, toks, o, by omega, by omega, by omega, by omega, by omega, hst, f0, f4, f5, f6, rfl, rfl, hL.skip _⟩
  | false =>
  have nbl : ¬ (headN l = 32 ∨ headN l = 9) := by
   rw [h32e] at h32; rw [h9e] at h9
   rw [hN]; simp only [decide_eq_false_iff_not] at h32 h9; omega
  clear blank
  have hpr := pre2 s hlt
  rw [hl, hbb] at hpr
  obtain ⟨b2, hb2⟩ : ∃ b, s.data.toList.getD (i + 1) 0 = b := ⟨_, rfl⟩
  rw [hb2] at hpr
  have h45e : ((b.toNat : Int) == 45) = (b == 45) := by
   rw [Bool.eq_iff_iff]; simp only [beq_iff_eq, ← UInt8.toNat_inj]; exact Int.ofNat_inj
  have h45f : ((b2.toNat : Int) == 45) = (b2 == 45) := by
   rw [Bool.eq_iff_iff]; simp only [beq_iff_eq, ← UInt8.toNat_inj]; exact Int.ofNat_inj
  have hb3 : (0 : Int) ≤ ((i + 1 : Nat) : Int) := by omega
  have hne : decide (((i + 1 : Nat) : Int) < (s.size : Int)) = decide (i + 1 < s.size) := by congr 1; apply propext; omega
  simp -implicitDefEqProofs only [slb]
  (repeat (first | refine aSeq fun X hX => ?_ | (first | apply aReg | apply aIf); simp -implicitDefEqProofs only [↓slp, slb, ↓reduceIte, reduceCtorEq, jA, jF, tfLrB, f0, f8, pI, pS, h32, h9] | apply hX; clear hX X))
  have join : ∀ (f : F) (rem : Bool), Lib.hasPrefix l [45, 45] = rem → f 79 = .v (.bool rem) → f 0 = pS s → f 4 = .bp m.nb 0 → f 5 = .sl o (toks.map tokPV) → f 6 = pI line → f 7 = pI (i - frm + 1 : Nat) → f 8 = pI i → f 9 = .bp q.nb 0 → f 10 = pC b.toNat → f 11 = pI 1 → f 12 = .bp (q.nb + 1) 0 → X f (q.ext [some [.v (.int .i64 (line : Int)), .v (.int .i64 ((i - frm + 1 : Nat) : Int))], some [.v (.int .u8 0), .v (.string ⟨#[]⟩), .v (.int .i32 0), .v (.int .i64 (line : Int)), .v (.int .i64 ((i - frm + 1 : Nat) : Int))]]) := by
   clear f0 f4 f5 f6 f7 f8
   intro f rem hrem f79 f0 f4 f5 f6 f7 f8 f9 f10 f11 f12
   refine hX _ _ ?_
   clear hX
   cases rem with
   | true =>
    (repeat (first | refine aSeq fun X hX => ?_ | refine aBlk ?_ | refine aIf ?_; simp -implicitDefEqProofs only [slb, reduceCtorEq, f79]))
    obtain ⟨J, hJ⟩ : ∃ J : F → M → Prop, ∀ f m', J f m' = (∃ j : Nat, i ≤ j ∧ j ≤ s.size ∧ (l.takeWhile fun c => c != 10).length = (j - i) + ((s.data.toList.drop j).takeWhile fun c => c != 10).length ∧ f 0 = pS s ∧ f 4 = .bp m.nb 0 ∧ f 5 = .sl o (toks.map tokPV) ∧ f 6 = pI line ∧ f 7 = pI (j - frm + 1 : Nat) ∧ f 8 = pI j ∧ q.ext [some [.v (.int .i64 (line : Int)), .v (.int .i64 ((i - frm + 1 : Nat) : Int))], some [.v (.int .u8 0), .v (.string ⟨#[]⟩), .v (.int .i32 0), .v (.int .i64 (line : Int)), .v (.int .i64 ((i - frm + 1 : Nat) : Int))]] = m') := ⟨_, fun _ _ => rfl⟩
    refine aLoop J (fun f m => s.size - numOf (f 8)) ?_ ?_
    ·rw [hJ]; exact ⟨i, Nat.le_refl _, hi, by rw [hl]; omega, f0, f4, f5, f6, f7, f8, rfl⟩
    clear f0 f4 f5 f6 f7 f8 f9 f10 f11 f12 f79
    intro f m' hrel
    rw [hJ] at hrel
    obtain ⟨j, hj1, hj2, hj3, f0, f4, f5, f6, f7, f8, rfl⟩ := hrel
    have hend : ((s.data.toList.drop j).takeWhile fun c => c != 10).length = 0 → lexAll s = lexGo s n j line frm toks ∧ i < j := fun h => by
     rw [nx_remark n10 nbl hrem] at hst
     simp (decide := true) only [↓reduceIte] at hst
     have h0 : 0 < (l.takeWhile fun c => c != 10).length := by
      rw [hlc, List.takeWhile_cons, if_pos (by rw [bne_iff_ne]; rintro rfl; exact n10 hN)]; simp
     rw [hj3, h, Nat.add_zero] at hst h0
     have : i + (j - i) = j := by omega
     rw [this] at hst
     exact ⟨hst, by omega⟩
    have hjn : IntKind.i64.wrap ((j : Int) + 1) = ((j + 1 : Nat) : Int) := by rw [wrap64 (by omega)]; omega
    have hjc : IntKind.i64.wrap (((j - frm + 1 : Nat) : Int) + 1) = ((j + 1 - frm + 1 : Nat) : Int) := by rw [wrap64 (by omega)]; omega
    have hj0 : (0 : Int) ≤ (j : Int) := by omega
    cases hjb : decide ((j : Int) < (s.size : Int)) with
    | false =>
     obtain ⟨hst, hij⟩ := hend (tw_stop s (.inl (by simp at hjb; omega)))
     (repeat (first | refine aSeq fun X hX => ?_ | refine aExit ?_; try simp only [slx, ↓reduceIte, jA, reduceCtorEq] | (first | apply aReg | apply aIf); simp -implicitDefEqProofs only [↓slp, slb, ↓reduceIte, reduceCtorEq, jA, jF, tfLrB, f0, f8, pI, pS, hjb] | apply hX; clear hX X | clear hX X; apply hX; clear hX X))
     refine hW n _ _ (by omega) ?_
     rw [hI]
     exact ⟨j, line, frm, toks, o, by omega, by omega, by omega, by omega, by omega, hst, f0, f4, f5, f6, f7, f8, hL.skip _⟩
    | true =>
     have hjl : j < s.size := by simp at hjb; omega
     obtain ⟨c, hc⟩ : ∃ c, s.data.toList.getD j 0 = c := ⟨_, rfl⟩
     have hce : ((c.toNat : Int) == 10) = (c == 10) := by
      rw [Bool.eq_iff_iff]; simp only [beq_iff_eq, ← UInt8.toNat_inj]; exact Int.ofNat_inj
     cases hc1 : (c == 10) with
     | true =>
      have hcn : ((c.toNat : Int) == 10) = true := by rw [hce, hc1]
      obtain ⟨hst, hij⟩ := hend (tw_stop s (.inr (by rw [hc]; exact hc1)))
      (repeat (first | refine aSeq fun X hX => ?_ | refine aExit ?_; try simp only [slx, ↓reduceIte, jA, reduceCtorEq] | (first | apply aReg | apply aIf); simp -implicitDefEqProofs only [↓slp, slb, ↓reduceIte, reduceCtorEq, jA, jF, tfLrB, f0, f8, pI, pS, hjb, hj0, hjl, hc, hcn] | apply hX; clear hX X | clear hX X; apply hX; clear hX X))
      refine hW n _ _ (by omega) ?_
      rw [hI]
      exact ⟨j, line, frm, toks, o, by omega, by omega, by omega, by omega, by omega, hst, f0, f4, f5, f6, f7, f8, hL.skip _⟩
     | false =>
      have hcn : ((c.toNat : Int) == 10) = false := by rw [hce, hc1]
      have hts := tw_step s hjl (by rw [hc]; exact hc1)
      (repeat (first | refine aSeq fun X hX => ?_ | refine aSkip ?_ | (first | apply aReg | apply aIf); simp -implicitDefEqProofs only [↓slp, slb, ↓reduceIte, reduceCtorEq, jA, jF, tfLrB, f0, f7, f8, pI, pS, hjb, hj0, hjl, hc, hcn, hjn, hjc] | apply hX; clear hX X))
      rw [hJ]
      refine ⟨⟨j + 1, by omega, by omega, by omega, f0, f4, f5, f6, rfl, rfl, rfl⟩, ?_⟩
      first | omega | (simp only [↓slp, slb, ↓reduceIte, reduceCtorEq, jA, jB, jC, jD, jE, jF, jG, jH, jI, jJ, jK, f8, pI, numOf, Int.toNat_natCast]; omega)
   | false =>
    (repeat (first | refine aSeq fun X hX => ?_ | (first | apply aReg | apply aIf); simp -implicitDefEqProofs only [↓slp, slb, ↓reduceIte, jF, f79, f10, pC]))
    refine callM (rdigit_any b.toNat _) ?_
    rintro v m' ⟨rfl, rfl⟩
    cases hd : isDigit b.toNat with
    | true =>
     have hx := nx_digit n10 nbl hrem (by rw [hN]; exact hd)
     simp -implicitDefEqProofs only [↓slp, slb, ↓reduceIte, jF]
     (repeat (first | refine aSeq fun X hX => ?_ | (first | apply aReg | apply aIf); simp -implicitDefEqProofs only [↓slp, slb, ↓reduceIte, reduceCtorEq, jA, jF, f0, f8, pI, pS, pB] | apply hX; clear hX X))
     refine callM (rnumber_any s hz2 i hi _) ?_
     rintro v m' ⟨⟨a, rfl, ha⟩, rfl⟩
     rw [hl] at ha
     rw [hl]
     cases hg : numGo l 0 0 with
     | none =>
      have hP : (numP l 0 0).2 = 2147483649 := by unfold numP; rw [hg]
      have hgt : decide ((2147483649 : Int) > 2147483648) = true := rfl
      rw [hx, ← hl, numNext_limit s i (by rw [hl]; exact hg)] at hst
      simp (decide := true) only [↓reduceIte] at hst
      simp -implicitDefEqProofs only [↓slp, slb, ↓reduceIte, jA, jB, jF, hP]
      (repeat (first | refine aSeq fun X hX => ?_ | (first | apply aReg | apply aIf); simp -implicitDefEqProofs only [↓slp, slb, ↓reduceIte, reduceCtorEq, jF, pI, hgt] | apply hX; clear hX X))
      have hS : ∀ x : Subtype (fun m2 : M => m2.get q.nb = some [.v (.int .i64 (line : Int)), .v (.int .i64 ((i - frm + 1 : Nat) : Int))]), x.1.get q.nb = some [.v (.int .i64 (line : Int)), .v (.int .i64 ((i - frm + 1 : Nat) : Int))] := fun x => x.2
      refine aDrw (isBX q.nb [.v (.int .i64 (line : Int)), .v (.int .i64 ((i - frm + 1 : Nat) : Int))]) (by kernel_rfl) (isBX_of (ext_get0 rfl)) ?_
      simp -implicitDefEqProofs only [↓slp, slb, ↓reduceIte, jA, jB, jE, jF, tfLrB, isBX_all, hS, ext_getL hL, ext_updL hL, f4, f9]
      refine ⟨isBX_of (ext_get0 (upd_nb _ _ _)), ?_⟩
      (repeat (first | refine aRet ?_; try simp only [slx, ↓reduceIte, jA, reduceCtorEq] | apply hX; clear hX X))
      simp only [aPost, Tryz.results18, aRes_n, aRes_t, aRes_c, pack_one, pack_two]
      simp -implicitDefEqProofs only [slb, ↓reduceIte, jA, jB, jE, tfLrB, upd_getL hL, f4]
      exact hL.leave rfl ⟨by rw [hst]; rfl, rfl⟩
     | some p =>
      obtain ⟨k, w⟩ := p
      obtain ⟨hk1, hk2, hw⟩ := numGo_pos hlc hd hg
      have hk2 : i + k ≤ s.size := by
       rw [← hl, List.length_drop] at hk2
       have : s.data.toList.length = s.size := by simp
       omega
      have ha := ha k w hg
      subst ha
      have hP : (numP l 0 0).2 = (w : Int) := by unfold numP; rw [hg]
      have hgt : decide ((w : Int) > 2147483648) = false := by simp; omega
      have hwk : IntKind.i64.wrap ((i : Int) + (k : Int)) = ((i + k : Nat) : Int) := by rw [wrap64 (by omega)]; omega
      have hg2 : numGo (s.data.toList.drop i) 0 0 = some (k, w) := by rw [hl]; exact hg
      have hk0 : (0 : Int) ≤ ((i + k : Nat) : Int) := by omega
      simp -implicitDefEqProofs only [↓slp, slb, ↓reduceIte, jA, jB, jF, hP]
      cases hbk : decide (((i + k : Nat) : Int) < (s.size : Int)) with
      | false =>
       have hnx : lexNext l = ⟨2, k, 1, wrap32 w⟩ := by rw [hx, ← hl]; exact numNext_end s i k w hg2 (by simp at hbk; omega)
       cases hw2 : ((w : Int) == 2147483648) with
       | true =>
        have hw3 : w = 2147483648 := by simp only [beq_iff_eq] at hw2; omega
        have hcv : IntKind.i32.wrap (-2147483648) = wrap32 w := by rw [hw3, IntWalk.i32_in _ (by omega)]; exact wrap32_top.symm
        (repeat (first | refine aSeq fun X hX => ?_ | refine aSkip ?_ | (first | apply aReg | apply aIf); simp -implicitDefEqProofs only [↓slp, slb, ↓reduceIte, reduceCtorEq, jA, jB, jE, jF, tfLrB, f0, f8, f12, pI, pS, hgt, hwk, hbk, hw2, hcv] | apply hX; clear hX X))
        exact tail _ 1 (wrap32 w) k _ hk1 hk2 hnx f0 f4 f5 f6 f7 f8 rfl f12
       | false =>
        have hw4 : w < 2147483648 := by simp only [beq_eq_false_iff_ne] at hw2; omega
        have hcv : IntKind.i32.wrap (w : Int) = wrap32 w := by rw [IntWalk.i32_in _ (by omega), wrap32_small hw4]
        (repeat (first | refine aSeq fun X hX => ?_ | refine aSkip ?_ | (first | apply aReg | apply aIf); simp -implicitDefEqProofs only [↓slp, slb, ↓reduceIte, reduceCtorEq, jA, jB, jE, jF, tfLrB, f0, f8, f12, pI, pS, hgt, hwk, hbk, hw2, hcv] | apply hX; clear hX X))
        exact tail _ 1 (wrap32 w) k _ hk1 hk2 hnx f0 f4 f5 f6 f7 f8 rfl f12
      | true =>
       have hlk : i + k < s.size := by simp at hbk; omega
       have hgk := getD_at s hlk
       (repeat (first | refine aSeq fun X hX => ?_ | refine aSkip ?_ | (first | apply aReg | apply aIf); simp -implicitDefEqProofs only [↓slp, slb, ↓reduceIte, reduceCtorEq, jA, jF, tfLrB, f0, f8, pI, pS, hgt, hwk, hbk, hk0, hlk] | apply hX; clear hX X))
       refine callM (rletter_any (s.data.toList.getD (i + k) 0).toNat _) ?_
       rintro v m' ⟨rfl, rfl⟩
       cases hlet : isLetter (s.data.toList.getD (i + k) 0).toNat with
       | true =>
        rw [hx, ← hl, numNext_letter s i k w hg2 hlk (by rw [← hgk]; exact hlet)] at hst
        simp (decide := true) only [↓reduceIte] at hst
        simp -implicitDefEqProofs only [↓slp, slb, ↓reduceIte, jA, jF]
        (repeat (first | refine aSeq fun X hX => ?_ | refine aIf ?_; simp -implicitDefEqProofs only [slb, ↓reduceIte, reduceCtorEq, pB] | apply hX; clear hX X))
        have hS : ∀ x : Subtype (fun m2 : M => m2.get q.nb = some [.v (.int .i64 (line : Int)), .v (.int .i64 ((i - frm + 1 : Nat) : Int))]), x.1.get q.nb = some [.v (.int .i64 (line : Int)), .v (.int .i64 ((i - frm + 1 : Nat) : Int))] := fun x => x.2
        refine aDrw (isBX q.nb [.v (.int .i64 (line : Int)), .v (.int .i64 ((i - frm + 1 : Nat) : Int))]) (by kernel_rfl) (isBX_of (ext_get0 rfl)) ?_
        simp -implicitDefEqProofs only [↓slp, slb, ↓reduceIte, jA, jB, jE, jF, tfLrB, isBX_all, hS, ext_getL hL, ext_updL hL, f4, f9]
        refine ⟨isBX_of (ext_get0 (upd_nb _ _ _)), ?_⟩
        (repeat (first | refine aRet ?_; try simp only [slx, ↓reduceIte, jA, reduceCtorEq] | apply hX; clear hX X))
        simp only [aPost, Tryz.results18, aRes_n, aRes_t, aRes_c, pack_one, pack_two]
        simp -implicitDefEqProofs only [slb, ↓reduceIte, jA, jB, jE, tfLrB, upd_getL hL, f4]
        exact hL.leave rfl ⟨by rw [hst]; rfl, rfl⟩
       | false =>
        have hnx : lexNext l = ⟨2, k, 1, wrap32 w⟩ := by rw [hx, ← hl]; exact numNext_put s i k w hg2 hlk (by rw [← hgk]; exact hlet)
        simp -implicitDefEqProofs only [↓slp, slb, ↓reduceIte, jA, jF]
        cases hw2 : ((w : Int) == 2147483648) with
        | true =>
         have hw3 : w = 2147483648 := by simp only [beq_iff_eq] at hw2; omega
         have hcv : IntKind.i32.wrap (-2147483648) = wrap32 w := by rw [hw3, IntWalk.i32_in _ (by omega)]; exact wrap32_top.symm
         (repeat (first | refine aSeq fun X hX => ?_ | refine aSkip ?_ | (first | apply aReg | apply aIf); simp -implicitDefEqProofs only [↓slp, slb, ↓reduceIte, reduceCtorEq, jA, jB, jE, jF, tfLrB, f12, pB, hw2, hcv] | apply hX; clear hX X))
         exact tail _ 1 (wrap32 w) k _ hk1 hk2 hnx f0 f4 f5 f6 f7 f8 rfl f12
        | false =>
         have hw4 : w < 2147483648 := by simp only [beq_eq_false_iff_ne] at hw2; omega
         have hcv : IntKind.i32.wrap (w : Int) = wrap32 w := by rw [IntWalk.i32_in _ (by omega), wrap32_small hw4]
         (repeat (first | refine aSeq fun X hX => ?_ | refine aSkip ?_ | (first | apply aReg | apply aIf); simp -implicitDefEqProofs only [↓slp, slb, ↓reduceIte, reduceCtorEq, jA, jB, jE, jF, tfLrB, f12, pB, hw2, hcv] | apply hX; clear hX X))
         exact tail _ 1 (wrap32 w) k _ hk1 hk2 hnx f0 f4 f5 f6 f7 f8 rfl f12
    | false =>
     simp -implicitDefEqProofs only [↓slp, slb, ↓reduceIte, jF]
     (repeat (first | refine aSeq fun X hX => ?_ | (first | apply aReg | apply aIf); simp -implicitDefEqProofs only [↓slp, slb, ↓reduceIte, jA, jF, f10, pC, pB] | apply hX; clear hX X))
     refine callM (rletter_any b.toNat _) ?_
     rintro v m' ⟨rfl, rfl⟩
     cases hle : isLetter b.toNat with
     | true =>
      have hx := nx_letter n10 nbl hrem (by rw [hN]; exact hd) (by rw [hN]; exact hle)
      simp -implicitDefEqProofs only [↓slp, slb, ↓reduceIte, jF]
      (repeat (first | refine aSeq fun X hX => ?_ | refine aBlk ?_ | refine aIf ?_; simp -implicitDefEqProofs only [slb, ↓reduceIte, reduceCtorEq, pB] | apply hX; clear hX X))
      have after : ∀ (f : F) (k : Nat), 1 ≤ k → i + k ≤ s.size → wordLen l = k → f 0 = pS s → f 4 = .bp m.nb 0 → f 5 = .sl o (toks.map tokPV) → f 6 = pI line → f 7 = pI (i - frm + 1 : Nat) → f 8 = pI i → f 9 = .bp q.nb 0 → f 10 = pC b.toNat → f 11 = pI k → f 12 = .bp (q.nb + 1) 0 → X f (q.ext [some [.v (.int .i64 (line : Int)), .v (.int .i64 ((i - frm + 1 : Nat) : Int))], some [.v (.int .u8 0), .v (.string ⟨#[]⟩), .v (.int .i32 0), .v (.int .i64 (line : Int)), .v (.int .i64 ((i - frm + 1 : Nat) : Int))]]) := by
       clear f0 f4 f5 f6 f7 f8 f9 f10 f11 f12
       intro f k hk1 hk2 hwl f0 f4 f5 f6 f7 f8 f9 f10 f11 f12
       refine hX _ _ ?_
       clear hX X
       have hwk : IntKind.i64.wrap ((i : Int) + (k : Int)) = ((i + k : Nat) : Int) := by rw [wrap64 (by omega)]; omega
       have hb2 : (i : Int) ≤ ((i + k : Nat) : Int) := by omega
       have hb3 : ((i + k : Nat) : Int) ≤ (s.size : Int) := by omega
       have hwn : wordNext l = if 32 < k then ⟨3, 0, 3, 0⟩ else if isKeyB (l.take k) = true then ⟨2, k, 4, 0⟩ else if 65 ≤ b.toNat ∧ b.toNat ≤ 90 then ⟨2, k, 3, 0⟩ else if b.toNat = 95 then ⟨3, 0, 1, 0⟩ else ⟨2, k, 2, 0⟩ := by
        unfold wordNext; rw [hwl, hN]
       cases h33 : decide ((k : Int) > 32) with
       | true =>
        have hkk : 32 < k := by simp at h33; omega
        rw [if_pos hkk] at hwn
        rw [hx, hwn] at hst
        simp (decide := true) only [↓reduceIte] at hst
        (repeat (first | refine aSeq fun X hX => ?_ | (first | apply aReg | apply aIf); simp -implicitDefEqProofs only [↓slp, slb, ↓reduceIte, reduceCtorEq, jF, f11, pI, h33] | apply hX; clear hX X))
        have hS : ∀ x : Subtype (fun m2 : M => m2.get q.nb = some [.v (.int .i64 (line : Int)), .v (.int .i64 ((i - frm + 1 : Nat) : Int))]), x.1.get q.nb = some [.v (.int .i64 (line : Int)), .v (.int .i64 ((i - frm + 1 : Nat) : Int))] := fun x => x.2
        refine aDrw (isBX q.nb [.v (.int .i64 (line : Int)), .v (.int .i64 ((i - frm + 1 : Nat) : Int))]) (by kernel_rfl) (isBX_of (ext_get0 rfl)) ?_
        simp -implicitDefEqProofs only [↓slp, slb, ↓reduceIte, jA, jB, jE, jF, tfLrB, isBX_all, hS, ext_getL hL, ext_updL hL, f4, f9]
        refine ⟨isBX_of (ext_get0 (upd_nb _ _ _)), ?_⟩
        (repeat (first | refine aRet ?_; try simp only [slx, ↓reduceIte, jA, reduceCtorEq] | apply hX; clear hX X))
        simp only [aPost, Tryz.results18, aRes_n, aRes_t, aRes_c, pack_one, pack_two]
        simp -implicitDefEqProofs only [slb, ↓reduceIte, jA, jB, jE, tfLrB, upd_getL hL, f4]
        exact hL.leave rfl ⟨by rw [hst]; rfl, rfl⟩
       | false =>
       have hkk : ¬ 32 < k := by simp at h33; omega
       rw [if_neg hkk] at hwn
       have hcut : (s.extract i (i + k)).data.toList = l.take k := by rw [cut_toList, hl, Nat.add_sub_cancel_left]
       (repeat (first | refine aSeq fun X hX => ?_ | refine aSkip ?_ | (first | apply aReg | apply aIf); simp -implicitDefEqProofs only [↓slp, slb, ↓reduceIte, reduceCtorEq, jA, jF, tfLrB, f0, f8, f11, pI, pS, h33, hwk, hb1, hb2, hb3] | apply hX; clear hX X))
       refine callM (riskey_any (s.extract i (i + k)) _) ?_
       rintro v m' ⟨rfl, rfl⟩
       rw [hcut]
       cases hkey : isKeyB (l.take k) with
       | true =>
        rw [if_pos hkey] at hwn
        simp -implicitDefEqProofs only [↓slp, slb, ↓reduceIte, jF]
        (repeat (first | (first | apply aReg | apply aIf); simp -implicitDefEqProofs only [↓slp, slb, ↓reduceIte, reduceCtorEq, jA, jB, jE, jF, tfLrB, f12, pB] | apply hX; clear hX X))
        exact tail _ 4 0 k _ hk1 hk2 (by rw [hx, hwn]) f0 f4 f5 f6 f7 f8 f11 f12
       | false =>
       rw [if_neg (by rw [hkey]; simp)] at hwn
       have e95 : ((b.toNat : Int) == 95) = decide (b.toNat = 95) := by rw [Bool.eq_iff_iff]; simp only [beq_iff_eq, decide_eq_true_eq]; omega
       have e65 : decide ((b.toNat : Int) ≥ 65) = decide (65 ≤ b.toNat) := by congr 1; apply propext; omega
       have e90 : decide ((b.toNat : Int) ≤ 90) = decide (b.toNat ≤ 90) := by congr 1; apply propext; omega
       simp -implicitDefEqProofs only [↓slp, slb, ↓reduceIte, jF]
       cases h95 : decide (b.toNat = 95) with
       | true =>
        have n95 : b.toNat = 95 := by simpa using h95
        rw [if_neg (by omega), if_pos n95] at hwn
        rw [hx, hwn] at hst
        simp (decide := true) only [↓reduceIte] at hst
        rw [h95] at e95
        (repeat (first | refine aSeq fun X hX => ?_ | (first | apply aReg | apply aIf); simp -implicitDefEqProofs only [↓slp, slb, ↓reduceIte, reduceCtorEq, jA, jF, f10, pC, pB, e95] | apply hX; clear hX X))
        have hS : ∀ x : Subtype (fun m2 : M => m2.get q.nb = some [.v (.int .i64 (line : Int)), .v (.int .i64 ((i - frm + 1 : Nat) : Int))]), x.1.get q.nb = some [.v (.int .i64 (line : Int)), .v (.int .i64 ((i - frm + 1 : Nat) : Int))] := fun x => x.2
        refine aDrw (isBX q.nb [.v (.int .i64 (line : Int)), .v (.int .i64 ((i - frm + 1 : Nat) : Int))]) (by kernel_rfl) (isBX_of (ext_get0 rfl)) ?_
        simp -implicitDefEqProofs only [↓slp, slb, ↓reduceIte, jA, jB, jE, jF, tfLrB, isBX_all, hS, ext_getL hL, ext_updL hL, f4, f9]
        refine ⟨isBX_of (ext_get0 (upd_nb _ _ _)), ?_⟩
        (repeat (first | refine aRet ?_; try simp only [slx, ↓reduceIte, jA, reduceCtorEq] | apply hX; clear hX X))
        simp only [aPost, Tryz.results18, aRes_n, aRes_t, aRes_c, pack_one, pack_two]
        simp -implicitDefEqProofs only [slb, ↓reduceIte, jA, jB, jE, tfLrB, upd_getL hL, f4]
        exact hL.leave rfl ⟨by rw [hst]; rfl, rfl⟩
       | false =>
       rw [h95] at e95
       have n95 : ¬ b.toNat = 95 := by simpa using h95
       rw [if_neg n95] at hwn
       cases h65 : decide (65 ≤ b.toNat) with
       | false =>
        rw [h65] at e65
        rw [if_neg (by simp at h65; omega)] at hwn
        (repeat (first | refine aSeq fun X hX => ?_ | (first | apply aReg | apply aIf); simp -implicitDefEqProofs only [↓slp, slb, ↓reduceIte, reduceCtorEq, jA, jB, jE, jF, tfLrB, f10, f12, pC, pB, e95, e65] | apply hX; clear hX X))
        exact tail _ 2 0 k _ hk1 hk2 (by rw [hx, hwn]) f0 f4 f5 f6 f7 f8 f11 f12
       | true =>
       rw [h65] at e65
       cases h90 : decide (b.toNat ≤ 90) with
       | false =>
        rw [h90] at e90
        rw [if_neg (by simp at h90; omega)] at hwn
        (repeat (first | refine aSeq fun X hX => ?_ | (first | apply aReg | apply aIf); simp -implicitDefEqProofs only [↓slp, slb, ↓reduceIte, reduceCtorEq, jA, jB, jE, jF, tfLrB, f10, f12, pC, pB, e95, e65, e90] | apply hX; clear hX X))
        exact tail _ 2 0 k _ hk1 hk2 (by rw [hx, hwn]) f0 f4 f5 f6 f7 f8 f11 f12
       | true =>
        rw [h90] at e90
        rw [if_pos (by simp at h65 h90; omega)] at hwn
        (repeat (first | refine aSeq fun X hX => ?_ | (first | apply aReg | apply aIf); simp -implicitDefEqProofs only [↓slp, slb, ↓reduceIte, reduceCtorEq, jA, jB, jE, jF, tfLrB, f10, f12, pC, pB, e95, e65, e90] | apply hX; clear hX X))
        exact tail _ 3 0 k _ hk1 hk2 (by rw [hx, hwn]) f0 f4 f5 f6 f7 f8 f11 f12
      clear hX
      obtain ⟨J, hJ⟩ : ∃ J : F → M → Prop, ∀ f m', J f m' = (∃ k : Nat, 1 ≤ k ∧ i + k ≤ s.size ∧ wordLen l = k + wordLen (s.data.toList.drop (i + k)) ∧ f 0 = pS s ∧ f 4 = .bp m.nb 0 ∧ f 5 = .sl o (toks.map tokPV) ∧ f 6 = pI line ∧ f 7 = pI (i - frm + 1 : Nat) ∧ f 8 = pI i ∧ f 9 = .bp q.nb 0 ∧ f 10 = pC b.toNat ∧ f 11 = pI k ∧ f 12 = .bp (q.nb + 1) 0 ∧ q.ext [some [.v (.int .i64 (line : Int)), .v (.int .i64 ((i - frm + 1 : Nat) : Int))], some [.v (.int .u8 0), .v (.string ⟨#[]⟩), .v (.int .i32 0), .v (.int .i64 (line : Int)), .v (.int .i64 ((i - frm + 1 : Nat) : Int))]] = m') := ⟨_, fun _ _ => rfl⟩
      refine aLoop J (fun f m => s.size - numOf (f 11)) ?_ ?_
      ·rw [hJ]; exact ⟨1, Nat.le_refl _, hlt, by rw [hlc, wordLen_cons _ _ (by rw [hle]; rfl), Nat.add_comm], f0, f4, f5, f6, f7, f8, f9, f10, f11, f12, rfl⟩
      clear f0 f4 f5 f6 f7 f8 f9 f10 f11 f12
      intro f m' hrel
      rw [hJ] at hrel
      obtain ⟨k, hk1, hk2, hk3, f0, f4, f5, f6, f7, f8, f9, f10, f11, f12, rfl⟩ := hrel
      have hwk : IntKind.i64.wrap ((i : Int) + (k : Int)) = ((i + k : Nat) : Int) := by rw [wrap64 (by omega)]; omega
      have hkn : IntKind.i64.wrap ((k : Int) + 1) = ((k + 1 : Nat) : Int) := by rw [wrap64 (by omega)]; omega
      have hk0 : (0 : Int) ≤ ((i + k : Nat) : Int) := by omega
      cases hbk : decide (((i + k : Nat) : Int) < (s.size : Int)) with
      | true =>
       have hlk : i + k < s.size := by simp at hbk; omega
       (repeat (first | refine aSeq fun X hX => ?_ | refine aReg ?_; simp -implicitDefEqProofs only [↓slp, slb, ↓reduceIte, reduceCtorEq, jA, jF, tfLrB, f0, f8, f11, pI, pS, hwk, hbk, hk0, hlk]))
       refine callM (rletter_any (s.data.toList.getD (i + k) 0).toNat _) ?_
       rintro v m' ⟨rfl, rfl⟩
       have hws := wl_step s hlk
       rw [Nat.add_assoc] at hws
       have hwt := wl_stop s (k := i + k)
       cases hc1 : isLetter (s.data.toList.getD (i + k) 0).toNat with
       | true =>
        have hws := hws (by rw [hc1]; rfl)
        simp -implicitDefEqProofs only [↓slp, slb, ↓reduceIte, jA, jF]
        (repeat (first | refine aBlk ?_ | refine aSkip ?_ | (first | apply aReg | apply aIf); simp -implicitDefEqProofs only [↓slp, slb, ↓reduceIte, reduceCtorEq, jA, jF, f11, pI, pB, hkn] | apply hX; clear hX X))
        rw [hJ]
        refine ⟨⟨k + 1, by omega, by omega, by rw [hk3, hws]; omega, f0, f4, f5, f6, f7, f8, f9, f10, rfl, f12, rfl⟩, ?_⟩
        first | omega | (simp only [↓slp, slb, ↓reduceIte, reduceCtorEq, jA, jB, jC, jD, jE, jF, jG, jH, jI, jJ, jK, f11, pI, numOf, Int.toNat_natCast]; omega)
       | false =>
        simp -implicitDefEqProofs only [↓slp, slb, ↓reduceIte, reduceCtorEq, jA, jF, tfLrB, f0, f8, f11, pI, pS, pB, hwk, hk0, hlk]
        refine callM (rdigit_any (s.data.toList.getD (i + k) 0).toNat _) ?_
        rintro v m' ⟨rfl, rfl⟩
        cases hc2 : isDigit (s.data.toList.getD (i + k) 0).toNat with
        | true =>
         have hws := hws (by rw [hc1, hc2]; rfl)
         simp -implicitDefEqProofs only [↓slp, slb, ↓reduceIte, jA, jF]
         (repeat (first | refine aBlk ?_ | refine aSkip ?_ | (first | apply aReg | apply aIf); simp -implicitDefEqProofs only [↓slp, slb, ↓reduceIte, reduceCtorEq, jA, jF, f11, pI, pB, hkn] | apply hX; clear hX X))
         rw [hJ]
         refine ⟨⟨k + 1, by omega, by omega, by rw [hk3, hws]; omega, f0, f4, f5, f6, f7, f8, f9, f10, rfl, f12, rfl⟩, ?_⟩
         first | omega | (simp only [↓slp, slb, ↓reduceIte, reduceCtorEq, jA, jB, jC, jD, jE, jF, jG, jH, jI, jJ, jK, f11, pI, numOf, Int.toNat_natCast]; omega)
        | false =>
         have hwl : wordLen l = k := by rw [hk3, hwt (.inr (by rw [hc1, hc2]; rfl)), Nat.add_zero]
         simp -implicitDefEqProofs only [↓slp, slb, ↓reduceIte, jA, jF]
         (repeat (first | refine aExit ?_; try simp only [slx, ↓reduceIte, jA, reduceCtorEq] | refine aIf ?_; simp -implicitDefEqProofs only [slb, ↓reduceIte, f11, pI, pB] | apply hX; clear hX X))
         exact after _ k hk1 hk2 hwl f0 f4 f5 f6 f7 f8 f9 f10 f11 f12
      | false =>
       have hwl : wordLen l = k := by rw [hk3, wl_stop s (.inl (by simp at hbk; omega)), Nat.add_zero]
       (repeat (first | refine aSeq fun X hX => ?_ | refine aExit ?_; try simp only [slx, ↓reduceIte, jA, reduceCtorEq] | (first | apply aReg | apply aIf); simp -implicitDefEqProofs only [↓slp, slb, ↓reduceIte, reduceCtorEq, jA, jF, tfLrB, f0, f8, f11, pI, pS, hwk, hbk] | apply hX; clear hX X))
       exact after _ k hk1 hk2 hwl f0 f4 f5 f6 f7 f8 f9 f10 f11 f12
     | false =>
      have hx := nx_sign n10 nbl hrem (by rw [hN]; exact hd) (by rw [hN]; exact hle)
      have hsn : signNext l = if (Lib.hasPrefix l [60, 62] || (Lib.hasPrefix l [60, 61] || (Lib.hasPrefix l [62, 61] || (Lib.hasPrefix l [45, 62] || false)))) = true then ⟨2, 2, 5, 0⟩ else if oneSigns.contains b = true then ⟨2, 1, 5, 0⟩ else ⟨3, 0, 1, 0⟩ := by
       unfold signNext; rw [hlc]; rfl
      simp -implicitDefEqProofs only [↓slp, slb, ↓reduceIte, jF]
      cases hl2 : decide (((i + 1 : Nat) : Int) < (s.size : Int)) with
      | false =>
       have hl3 : ¬ i + 1 < s.size := by simp at hl2; omega
       have hn := fun x y => hpr x y
       simp only [hl3, decide_false, Bool.false_and, Bool.and_false] at hn
       rw [hn, hn, hn, hn] at hsn
       simp only [Bool.or_false, Bool.false_eq_true, ↓reduceIte] at hsn
       have e1 := no_two 60 62
       have e2 := no_two 60 61
       have e3 := no_two 62 61
       have e4 := no_two 45 62
       (repeat (first | refine aSeq fun X hX => ?_ | refine aSkip ?_ | (first | apply aReg | apply aIf); simp -implicitDefEqProofs only [↓slp, slb, ↓reduceIte, reduceCtorEq, jA, jB, jE, jF, tfLrB, f0, f8, f10, f12, pI, pS, pC, pB, hi1, hl2, e1, e2, e3, e4] | apply hX; clear hX X))
       refine callM (rone_any b _) ?_
       rintro v m' ⟨rfl, rfl⟩
       cases hone : oneSigns.contains b with
       | true =>
        rw [if_pos hone] at hsn
        simp -implicitDefEqProofs only [↓slp, slb, ↓reduceIte, jF]
        (repeat (first | refine aSkip ?_ | refine aIf ?_; simp -implicitDefEqProofs only [slb, ↓reduceIte, pB] | apply hX; clear hX X))
        exact tail _ 5 0 1 _ (by omega) (by omega) (by rw [hx, hsn]) f0 f4 f5 f6 f7 f8 f11 f12
       | false =>
        rw [if_neg (by rw [hone]; simp)] at hsn
        rw [hx, hsn] at hst
        simp (decide := true) only [↓reduceIte] at hst
        simp -implicitDefEqProofs only [↓slp, slb, ↓reduceIte, jF]
        (repeat (first | refine aSeq fun X hX => ?_ | refine aIf ?_; simp -implicitDefEqProofs only [slb, ↓reduceIte, reduceCtorEq, pB] | apply hX; clear hX X))
        have hS : ∀ x : Subtype (fun m2 : M => m2.get q.nb = some [.v (.int .i64 (line : Int)), .v (.int .i64 ((i - frm + 1 : Nat) : Int))]), x.1.get q.nb = some [.v (.int .i64 (line : Int)), .v (.int .i64 ((i - frm + 1 : Nat) : Int))] := fun x => x.2
        refine aDrw (isBX q.nb [.v (.int .i64 (line : Int)), .v (.int .i64 ((i - frm + 1 : Nat) : Int))]) (by kernel_rfl) (isBX_of (ext_get0 rfl)) ?_
        simp -implicitDefEqProofs only [↓slp, slb, ↓reduceIte, jA, jB, jE, jF, tfLrB, isBX_all, hS, ext_getL hL, ext_updL hL, f4, f9]
        refine ⟨isBX_of (ext_get0 (upd_nb _ _ _)), ?_⟩
        (repeat (first | refine aRet ?_; try simp only [slx, ↓reduceIte, jA, reduceCtorEq] | apply hX; clear hX X))
        simp only [aPost, Tryz.results18, aRes_n, aRes_t, aRes_c, pack_one, pack_two]
        simp -implicitDefEqProofs only [slb, ↓reduceIte, jA, jB, jE, tfLrB, upd_getL hL, f4]
        exact hL.leave rfl ⟨by rw [hst]; rfl, rfl⟩
      | true =>
       have hl3 : i + 1 < s.size := by simp at hl2; omega
       have hi2 : IntKind.i64.wrap ((i : Int) + 2) = ((i + 2 : Nat) : Int) := by rw [wrap64 (by omega)]; omega
       have hb2 : (i : Int) ≤ ((i + 2 : Nat) : Int) := by omega
       have hb3 : ((i + 2 : Nat) : Int) ≤ (s.size : Int) := by omega
       have e1 := two_pre s hl3 60 62
       have e2 := two_pre s hl3 60 61
       have e3 := two_pre s hl3 62 61
       have e4 := two_pre s hl3 45 62
       rw [hl] at e1 e2 e3 e4
       have two : signNext l = ⟨2, 2, 5, 0⟩ → lexNext l = ⟨2, 2, 5, 0⟩ := fun h => by rw [hx, h]
       cases q0 : Lib.hasPrefix l [60, 62] with
       | true =>
        rw [q0] at hsn e1
        simp only [Bool.true_or, Bool.false_or, ↓reduceIte] at hsn
        (repeat (first | refine aSeq fun X hX => ?_ | (first | apply aReg | apply aIf); simp -implicitDefEqProofs only [↓slp, slb, ↓reduceIte, reduceCtorEq, jA, jB, jE, jF, tfLrB, f0, f8, f12, pI, pS, pB, hi1, hl2, hi2, hb1, hb2, hb3, e1] | apply hX; clear hX X))
        exact tail _ 5 0 2 _ (by omega) (by omega) (two hsn) f0 f4 f5 f6 f7 f8 rfl f12
       | false =>
       rw [q0] at hsn e1
       cases q1 : Lib.hasPrefix l [60, 61] with
       | true =>
        rw [q1] at hsn e2
        simp only [Bool.true_or, Bool.false_or, ↓reduceIte] at hsn
        (repeat (first | refine aSeq fun X hX => ?_ | (first | apply aReg | apply aIf); simp -implicitDefEqProofs only [↓slp, slb, ↓reduceIte, reduceCtorEq, jA, jB, jE, jF, tfLrB, f0, f8, f12, pI, pS, pB, hi1, hl2, hi2, hb1, hb2, hb3, e1, e2] | apply hX; clear hX X))
        exact tail _ 5 0 2 _ (by omega) (by omega) (two hsn) f0 f4 f5 f6 f7 f8 rfl f12
       | false =>
       rw [q1] at hsn e2
       cases q2 : Lib.hasPrefix l [62, 61] with
       | true =>
        rw [q2] at hsn e3
        simp only [Bool.true_or, Bool.false_or, ↓reduceIte] at hsn
        (repeat (first | refine aSeq fun X hX => ?_ | (first | apply aReg | apply aIf); simp -implicitDefEqProofs only [↓slp, slb, ↓reduceIte, reduceCtorEq, jA, jB, jE, jF, tfLrB, f0, f8, f12, pI, pS, pB, hi1, hl2, hi2, hb1, hb2, hb3, e1, e2, e3] | apply hX; clear hX X))
        exact tail _ 5 0 2 _ (by omega) (by omega) (two hsn) f0 f4 f5 f6 f7 f8 rfl f12
       | false =>
       rw [q2] at hsn e3
       cases q3 : Lib.hasPrefix l [45, 62] with
       | true =>
        rw [q3] at hsn e4
        simp only [Bool.true_or, Bool.false_or, ↓reduceIte] at hsn
        (repeat (first | refine aSeq fun X hX => ?_ | (first | apply aReg | apply aIf); simp -implicitDefEqProofs only [↓slp, slb, ↓reduceIte, reduceCtorEq, jA, jB, jE, jF, tfLrB, f0, f8, f12, pI, pS, pB, hi1, hl2, hi2, hb1, hb2, hb3, e1, e2, e3, e4] | apply hX; clear hX X))
        exact tail _ 5 0 2 _ (by omega) (by omega) (two hsn) f0 f4 f5 f6 f7 f8 rfl f12
       | false =>
       rw [q3] at hsn e4
       simp only [Bool.or_false, Bool.false_eq_true, ↓reduceIte] at hsn
       (repeat (first | refine aSeq fun X hX => ?_ | (first | apply aReg | apply aIf); simp -implicitDefEqProofs only [↓slp, slb, ↓reduceIte, reduceCtorEq, jA, jB, jE, jF, tfLrB, f0, f8, f10, f12, pI, pS, pC, pB, hi1, hl2, hi2, hb1, hb2, hb3, e1, e2, e3, e4] | apply hX; clear hX X))
       refine callM (rone_any b _) ?_
       rintro v m' ⟨rfl, rfl⟩
       cases hone : oneSigns.contains b with
       | true =>
        rw [if_pos hone] at hsn
        simp -implicitDefEqProofs only [↓slp, slb, ↓reduceIte, jF]
        (repeat (first | refine aSkip ?_ | refine aIf ?_; simp -implicitDefEqProofs only [slb, ↓reduceIte, pB] | apply hX; clear hX X))
        exact tail _ 5 0 1 _ (by omega) (by omega) (by rw [hx, hsn]) f0 f4 f5 f6 f7 f8 f11 f12
       | false =>
        rw [if_neg (by rw [hone]; simp)] at hsn
        rw [hx, hsn] at hst
        simp (decide := true) only [↓reduceIte] at hst
        simp -implicitDefEqProofs only [↓slp, slb, ↓reduceIte, jF]
        (repeat (first | refine aSeq fun X hX => ?_ | refine aIf ?_; simp -implicitDefEqProofs only [slb, ↓reduceIte, reduceCtorEq, pB] | apply hX; clear hX X))
        have hS : ∀ x : Subtype (fun m2 : M => m2.get q.nb = some [.v (.int .i64 (line : Int)), .v (.int .i64 ((i - frm + 1 : Nat) : Int))]), x.1.get q.nb = some [.v (.int .i64 (line : Int)), .v (.int .i64 ((i - frm + 1 : Nat) : Int))] := fun x => x.2
        refine aDrw (isBX q.nb [.v (.int .i64 (line : Int)), .v (.int .i64 ((i - frm + 1 : Nat) : Int))]) (by kernel_rfl) (isBX_of (ext_get0 rfl)) ?_
        simp -implicitDefEqProofs only [↓slp, slb, ↓reduceIte, jA, jB, jE, jF, tfLrB, isBX_all, hS, ext_getL hL, ext_updL hL, f4, f9]
        refine ⟨isBX_of (ext_get0 (upd_nb _ _ _)), ?_⟩
        (repeat (first | refine aRet ?_; try simp only [slx, ↓reduceIte, jA, reduceCtorEq] | apply hX; clear hX X))
        simp only [aPost, Tryz.results18, aRes_n, aRes_t, aRes_c, pack_one, pack_two]
        simp -implicitDefEqProofs only [slb, ↓reduceIte, jA, jB, jE, tfLrB, upd_getL hL, f4]
        exact hL.leave rfl ⟨by rw [hst]; rfl, rfl⟩
  clear hX
  have hpr := hpr 45 45
  cases h45 : (b == 45) with
  | true =>
   rw [h45] at hpr h45e
   simp only [Bool.true_and] at hpr
   cases hl2 : decide (i + 1 < s.size) with
   | true =>
    have hl3 : i + 1 < s.size := by simpa using hl2
    rw [hl2] at hpr hne
    simp only [Bool.true_and] at hpr
    cases h46 : (b2 == 45) with
    | true =>
     rw [h46] at hpr h45f
     simp -implicitDefEqProofs only [slb, ↓reduceIte, h45e, hi1, hne, hb3, hl3, hb2, h45f]
     exact join _ _ hpr rfl f0 f4 f5 f6 f7 f8 rfl rfl rfl rfl
    | false =>
     rw [h46] at hpr h45f
     simp -implicitDefEqProofs only [slb, ↓reduceIte, h45e, hi1, hne, hb3, hl3, hb2, h45f]
     exact join _ _ hpr rfl f0 f4 f5 f6 f7 f8 rfl rfl rfl rfl
   | false =>
    rw [hl2] at hpr hne
    simp only [Bool.false_and] at hpr
    simp -implicitDefEqProofs only [slb, ↓reduceIte, h45e, hi1, hne]
    exact join _ _ hpr rfl f0 f4 f5 f6 f7 f8 rfl rfl rfl rfl
  | false =>
   rw [h45] at hpr h45e
   simp only [Bool.false_and] at hpr
   simp -implicitDefEqProofs only [slb, ↓reduceIte, h45e]
   exact join _ _ hpr rfl f0 f4 f5 f6 f7 f8 rfl rfl rfl rfl
end Go.Proofs.YtohgdopfjkjppaaGreatDoor
