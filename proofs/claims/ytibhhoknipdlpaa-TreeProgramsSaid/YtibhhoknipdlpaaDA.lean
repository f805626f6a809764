/-
 Texts that belong together: SlcX, TpD.
-/
-- halved
import Derived.Test.YtibhhoknipdlpaaLwA
import Derived.Test.YtibhhoknipdlpaaAbT
import Derived.WalkKit
import Derived.RowKitTokens
import Derived.Lib.Walk
import Derived.Lib.AppendZerosOnto
import Derived.Test.YtibhhoknipdlpaaQA
import Derived.Test.YtibhhoknipdlpaaExA
/-
 slices.Clone, and slices.Grow from nothing, at this seat's types.
-/
set_option linter.unusedVariables false
set_option linter.unusedSimpArgs false
namespace Go.Proofs.Ytibhhoknipdlpaa
open Go Go.RowKit

theorem slice_cases {G : Ghost} {w : World} {o : Own} {xs : List PV} {v : Value} (h : Rep G w (.sl o xs) v) : (v = .slice none 0 0 ∧ xs = []) ∨ ∃ a l c, v = .slice (some a) l c := by
 rcases sl_inv h with ⟨⟨ao, rfl⟩, rfl, _⟩ | ⟨b, off, cap, sz, cs, rfl, _⟩
 ·cases ao with
  | none => exact .inl ⟨rfl, rfl⟩
  | some a => exact .inr ⟨a, 0, 0, rfl⟩
 ·exact .inr ⟨_, _, _, rfl⟩
theorem eql_nil_n {P : Program} {t e : TypeId} (h : P.underlying t = some (.slice e)) (w : World) : (binOp .eql t (.slice none 0 0) (.slice none 0 0)).run P w = .ok (.bool true) w := by
 have h : ∀ d : Nat, (Op.equalIn (d + 2) t (.slice none 0 0) (.slice none 0 0)).run P w = .ok true w := fun d => by simp [Op.equalIn, run_underlying h]
 simp only [binOp]
 simp [Op.equal, Op.maxDepth, h 9998]
theorem eql_nil_s {P : Program} {t e : TypeId} (h : P.underlying t = some (.slice e)) (a : Addr) (l c : Nat) (w : World) : (binOp .eql t (.slice (some a) l c) (.slice none 0 0)).run P w = .ok (.bool false) w := by
 have h : ∀ d : Nat, (Op.equalIn (d + 2) t (.slice (some a) l c) (.slice none 0 0)).run P w = .ok false w := fun d => by simp [Op.equalIn, run_underlying h]
 simp only [binOp]
 simp [Op.equal, Op.maxDepth, h 9998]
/-- A slice without elements whose spare places are a token's. -/
theorem fresh_nil {G : Ghost} {m : M} {w : World} (hI : Inv G m w) (ao : Option Addr) (s : Nat) : ∃ G', Rep G' w (.sl (.tok m.nt) []) (.slice ao 0 0) ∧ Inv G' (m.fresh s) w ∧ Ext G w G' w := by
 have hnt : m.nt = G.nt := hI.nt
 have := hI.addTok ⟨0, 0, 0, s⟩ (fun b k hbk => by obtain ⟨_, k1, k2⟩ := hbk; simp at k2) (fun t1 s1 _ b k _ hx => by obtain ⟨_, k1, k2⟩ := hx; simp at k2)
 refine ⟨_, .snil _ ao (fun t ht => ?_), this, Ext.addTok _ _ _⟩
 cases ht
 refine ⟨by show m.nt < G.nt + 1; omega, ?_⟩
 have : (G.addTok ⟨0, 0, 0, s⟩).res m.nt = ⟨0, 0, 0, s⟩ := if_pos hnt
 rw [this]
 simp
/-- A new row whose places are all spare. -/
theorem fresh_row {G : Ghost} {m : M} {w : World} (hI : Inv G m w) (row : Array Value) (e : TypeId) (cap s : Nat) (hrow : row.size = cap * s) (hcap : cap ≤ maxLen) :
    ∃ G', Rep G' (w.drew.alloc (.cells row e)) (.sl (.tok m.nt) []) (.slice (some ⟨w.heap.size, 0, none⟩) 0 cap) ∧ Inv G' (m.fresh s) (w.drew.alloc (.cells row e)) ∧ Ext G w G' (w.drew.alloc (.cells row e)) := by
 have hnt : m.nt = G.nt := hI.nt
 have hpush : Pushed w (w.drew.alloc (.cells row e)) (.cells row e) := (Pushed.alloc w.drew _).drew
 obtain ⟨hE, hI'⟩ := hI.push hpush (fun k => False)
 have hI2 := hI'.addTok ⟨w.heap.size, 0, cap * s, s⟩ (fun b k hbk => by
  obtain ⟨hbb, k1, k2⟩ := hbk
  simp only at hbb k1 k2
  subst hbb
  refine ⟨hI.base, fun hset => ?_, by rw [hpush.cellNew, Array.getElem?_eq_getElem (by rw [hrow]; exact k2)]; rfl, by simp only [World.frozen?]; rw [hpush.new]; simp, fun id c hc => ?_⟩
  ·rcases hset with hset | ⟨_, hset⟩
   ·have := hI.set _ _ hset; omega
   ·exact hset
  ·have : G.box id < w.heap.size := hI.blt hc
   show G.box id ≠ _
   omega) (fun t1 s1 hal b k hbk hx => by
  obtain ⟨hbb, _, _⟩ := hx
  simp only at hbb
  subst hbb
  obtain ⟨_, _, q3, _⟩ := (hI.tok t1 s1 hal).2 _ _ hbk
  obtain ⟨u, hu'⟩ := Option.isSome_iff_exists.1 q3
  have : w.heap.size < w.heap.size := World.block_lt_of_cell? w _ hu'
  omega)
 refine ⟨_, ?_, hI2, hE.trans (Ext.addTok _ _ _)⟩
 refine .sl _ [] w.heap.size 0 cap s (fun k => .nilIface) (fun i h => by simp at h) (fun k hk => by simp at hk) (fun i h => by simp at h) (fun i h => by simp at h) (by simp) hcap (fun h => by cases h) (fun t ht => ?_)
 cases ht
 refine ⟨by show m.nt < G.nt + 1; omega, ?_⟩
 have : ((G.more w.heap.size fun k => False).addTok ⟨w.heap.size, 0, cap * s, s⟩).res m.nt = ⟨w.heap.size, 0, cap * s, s⟩ := if_pos hnt
 rw [this]
 simp

set_option maxRecDepth 20000 in
set_option maxHeartbeats 2000000 in
theorem clone_91 (o : Own) (xs : List PV) (m : M) (d : TD) (hd : tdat Try.prog 9 = some d) (hxs : ∀ x ∈ xs, x.cells.length = d.sz) (hmax : xs.length ≤ maxLen) (hby : xs.length * d.by_ ≤ 140737488355328) :
    ACalls Try.prog 91 [.sl o xs] m (fun v m' => v = .sl (.tok m.nt) xs ∧ m' = m.fresh d.sz) := by
 refine ⟨by kernel_rfl, fun G w vs hI hl hr => ?_⟩
 obtain ⟨v0, rfl⟩ : ∃ v0, vs = [v0] := by
  match vs, hl with
  | [v0], _ => exact ⟨v0, rfl⟩
 have h0 := hr 0 (by simp) (by simp)
 simp only [List.getElem_cons_zero] at h0
 obtain ⟨i, td', hi, htd, hz, hs, hb, _, hzc⟩ := info_of hd
 have hte : tel Try.prog 41 = some 9 := by kernel_rfl
 have hu := under_of hte
 rcases slice_cases h0 with ⟨rfl, rfl⟩ | ⟨a, l, c, rfl⟩
 ·have hq : ∀ w, (binOp .eql 41 (.slice none 0 0) (.slice none 0 0)).run Try.prog w = .ok (.bool true) w := fun w => eql_nil_n hu w
  go_enter Try.func91, Try.ntmps91
  go_wp2
  go_ret
  obtain ⟨G', g1, g2, g3⟩ := fresh_nil hI none d.sz
  first | exact .inl ⟨_, _, _, G', rfl, ⟨rfl, rfl⟩, g1, g2, g3⟩ | exact .inl ⟨_, rfl, _, _, ⟨rfl, rfl⟩, G', g1, g2, g3⟩
 ·have hq : ∀ w, (binOp .eql 41 (.slice (some a) l c) (.slice none 0 0)).run Try.prog w = .ok (.bool false) w := fun w => eql_nil_s hu a l c w
  obtain ⟨hE1, hI1⟩ := hI.push (Pushed.alloc w (.cells #[] 9)) (fun k => False)
  have hrep1 : Rep (G.more w.heap.size fun k => False) (w.alloc (.cells #[] 9)) (.sl .full []) (.slice (some ⟨w.heap.size, 0, none⟩) 0 0) := .snil _ _ (fun t ht => by cases ht)
  obtain ⟨y, w', G', hrun, hy, hI', hE'⟩ := append_good (t := 41) (t' := 41) (ty := 41) (ys := xs) hte hd hu hI1 hrep1 (h0.mono hE1) rfl (by rfl) trivial (fun x hx => by simp at hx) hxs (by simpa using hmax) (by simpa using hby)
  go_enter Try.func91, Try.ntmps91
  go_wp2_with (at_builtin; refine Lib.wpList_append_run _ rfl _ _ _ _ rfl _ _ rfl rfl _ _ hrun ?_)
  go_ret
  first | exact .inl ⟨_, _, _, G', rfl, ⟨rfl, rfl⟩, hy, hI', hE1.trans hE'⟩ | exact .inl ⟨_, rfl, _, _, ⟨rfl, rfl⟩, G', hy, hI', hE1.trans hE'⟩

set_option maxRecDepth 20000 in
set_option maxHeartbeats 2000000 in
theorem grow_110 (n : Nat) (m : M) (d : TD) (hd : tdat Try.prog 105 = some d) (hs0 : 0 < d.sz) (hmax : n ≤ 4611686018427387904) (hby : n * d.by_ ≤ 140737488355328) :
    ACalls Try.prog 110 [.sl .full [], .v (.int .i64 n)] m (fun v m' => v = .sl (.tok m.nt) [] ∧ m' = m.fresh d.sz) := by
 refine ⟨by kernel_rfl, fun G w vs hI hl hr => ?_⟩
 obtain ⟨v0, v1, rfl⟩ : ∃ v0 v1, vs = [v0, v1] := by
  match vs, hl with
  | [v0, v1], _ => exact ⟨v0, v1, rfl⟩
 have h0 := hr 0 (by simp) (by simp)
 have h1 := hr 1 (by simp) (by simp)
 simp only [List.getElem_cons_zero, List.getElem_cons_succ] at h0 h1
 obtain rfl := h1.atomEq
 obtain ⟨i, td', hi, htd, hz, hs, hb, _, hzc⟩ := info_of hd
 have hte : tel Try.prog 101 = some 105 := by kernel_rfl
 have hu := under_of hte
 obtain ⟨base, rfl⟩ : ∃ base, v0 = .slice base 0 0 := by
  rcases sl_inv h0 with ⟨⟨ao, rfl⟩, _, _⟩ | ⟨b, off, cap, sz, cs, rfl, a1, a2, a3, a4, a5, a6, a7, a8⟩
  ·exact ⟨ao, rfl⟩
  ·have := a7 rfl
   simp at this
   subst this
   exact ⟨_, rfl⟩
 have q1 : ¬ ((n : Int) < 0) := by omega
 have q2 : Go.RowKit.wrap64 (n : Int) = n := by unfold Go.RowKit.wrap64; omega
 have z25 : ∀ w, (Go.sizeOf 105).run Try.prog w = .ok i.size w := fun w => by simp [Go.sizeOf, typeInfo, hi]
 by_cases hn : 0 < n
 ·have q3 : (n : Int) > 0 := by omega
  have hold : (Builtin.firstCells i.size 0 (.slice base 0 0)).run Try.prog w.drew = .ok #[] w.drew := by
   cases base with
   | none => exact run_firstCells_none w.drew i.size 0 0 0
   | some a => exact run_firstCells_some w.drew i.size 0 a 0 0 [] (by simp) (fun j v hj => by simp at hj)
  have hrz : ∀ ty, (Builtin.append_ #[101, 3] ty #[.slice base 0 0, .int .i64 n]).run Try.prog w =
      .ok (.slice (some ⟨w.heap.size, 0, none⟩) n (grownCap w n 0 105)) (w.drew.alloc (.cells (#[] ++ Builtin.zeroCells d.zero.cells n ++ Builtin.zeroCells d.zero.cells (grownCap w n 0 105 - n)) 105)) := fun ty => by
   have h := Lib.run_append_grow_zeros w 101 3 ty 105 i d.zero .i64 .i64 hu Try.underlying3 hi hz base 0 0 [] hold n hn (by omega) (by omega) (by omega)
    (by rw [hb]; omega) (by rw [Nat.zero_add]; exact growslice_fits (by omega) (by rw [hb]; exact hby))
   rw [Nat.zero_add] at h
   exact h
  have hGn : n ≤ grownCap w n 0 105 := grownCap_ge w _ _ _
  have hGm := grownCap_le_maxLen w n 0 105 (by unfold maxLen; omega)
  obtain ⟨C, hC⟩ : ∃ C, C = grownCap w n 0 105 := ⟨_, rfl⟩
  rw [← hC] at hrz hGn hGm
  have hG63 : C ≤ 9223372036854775807 := by unfold maxLen at hGm; omega
  obtain ⟨G', g1, g2, g3⟩ := fresh_row hI (#[] ++ Builtin.zeroCells d.zero.cells n ++ Builtin.zeroCells d.zero.cells (C - n)) 105 C d.sz (by
   simp only [Array.size_append, size_zeroCells, hzc, Array.size_empty]
   rw [Nat.zero_add, ← Nat.add_mul]
   congr 1
   omega) hGm
  generalize #[] ++ Builtin.zeroCells d.zero.cells n ++ Builtin.zeroCells d.zero.cells (C - n) = row at hrz g1 g2 g3
  generalize w.drew.alloc (.cells row 105) = w2 at hrz g1 g2 g3
  clear hold hC
  go_enter Try.func110, Try.ntmps110
  cases base with
  | none =>
   go_wp2_with (at_builtin; refine Lib.wpList_append_run _ rfl _ _ _ _ rfl _ _ rfl rfl _ _ (hrz _) ?_)
   all_goals (go_ret; first | exact .inl ⟨_, _, _, G', rfl, ⟨rfl, rfl⟩, g1, g2, g3⟩ | exact .inl ⟨_, rfl, _, _, ⟨rfl, rfl⟩, G', g1, g2, g3⟩)
  | some a =>
   obtain ⟨ab, ao, asp⟩ := a
   go_wp2_with (at_builtin; refine Lib.wpList_append_run _ rfl _ _ _ _ rfl _ _ rfl rfl _ _ (hrz _) ?_)
   all_goals (go_ret; first | exact .inl ⟨_, _, _, G', rfl, ⟨rfl, rfl⟩, g1, g2, g3⟩ | exact .inl ⟨_, rfl, _, _, ⟨rfl, rfl⟩, G', g1, g2, g3⟩)
 ·obtain rfl : n = 0 := by omega
  go_enter Try.func110, Try.ntmps110
  go_wp2
  go_ret
  obtain ⟨G', g1, g2, g3⟩ := fresh_nil hI base d.sz
  first | exact .inl ⟨_, _, _, G', rfl, ⟨rfl, rfl⟩, g1, g2, g3⟩ | exact .inl ⟨_, rfl, _, _, ⟨rfl, rfl⟩, G', g1, g2, g3⟩

end Go.Proofs.Ytibhhoknipdlpaa

/-
 slices.Concat of ways out.
-/
set_option linter.unusedVariables false
set_option linter.unusedSimpArgs false
namespace Go.Proofs.Ytibhhoknipdlpaa
open Nat renaming reduceEqDiff → jA, reduceAdd → jB, reduceMul → jC, reduceLT → jD, reduceLeDiff → jE, reduceBEq → jF, reduceBNe → jG
open Int renaming reduceLE → jH, reduceLT → jI, reduceToNat → jJ, reduceEq → jK
open Go
-- EXX: Tr.settle_pv, Tr.pure_pv, Tr.cells_pv, Tr.cs
set_option maxRecDepth 20000
-- TNAMES: int; uint8; int32; string; bool; []string; []api.Expr; api.Expr; api.Pos; api.Type; api.Trans; []api.Trans; [][]api.Trans
set_option linter.defProp false
def Y1 := And.intro @slb (And.intro @tfA (And.intro @Ex.settle_pv (And.intro @Ex.pure_pv (And.intro @Ex.cells_pv (And.intro @Ex.cs.eq_1 (And.intro @On.pv.eq_1 (And.intro @Ty.pv.eq_1 (And.intro @Va.settle_pv (And.intro @Va.pure_pv (And.intro @Va.cells_pv (And.intro @Va.cs.eq_1 (And.intro @Tr.settle_pv (And.intro @Tr.pure_pv (And.intro @Tr.cells_pv @Tr.cs.eq_1))))))))))))))

theorem trs_len (l : List Tr) : ∀ x ∈ l.map Tr.pv, x.cells.length = 12 := fun x hx => by
 obtain ⟨s, _, rfl⟩ := List.mem_map.1 hx
 rw [Tr.cells_pv]; rfl
def pLT (l : List Tr) : PV := .sl .no (l.map Tr.pv)
theorem lists_lenT {α : Type} (l : List (List α)) (k : Nat) : (l.take k).flatten.length ≤ l.flatten.length := by
 conv => rhs; rw [← List.take_append_drop k l, List.flatten_append, List.length_append]
 omega
set_option maxHeartbeats 2000000 in
theorem concatT_any (o : Own) (ls : List (List Tr)) (m : M) (hb : ls.flatten.length < 2 ^ 30) : ACalls Try.prog 87 [.sl o (ls.map pLT)] m (fun v m' => v = .sl .no (ls.flatten.map Tr.pv) ∧ m' = m) := by
 obtain ⟨d, hd, hd1, hd2⟩ : ∃ d : TD, tdat Try.prog 105 = some d ∧ d.sz = 12 ∧ d.by_ ≤ 400 := ⟨(tdat Try.prog 105).get (by kernel_rfl), (Option.some_get _).symm, by kernel_rfl, of_decide_eq_true (by kernel_rfl)⟩
 refine ACalls.enter (mu := []) ok_mix Try.func87 rfl (by kernel_rfl) (by kernel_rfl) (by simp only [List.length_cons, List.length_nil, Try.ntmps87]; omega) ?_
 (repeat (first | refine aSeq fun X hX => ?_ | refine aBlk ?_ | refine aReg ?_; simp -implicitDefEqProofs only [↓slp, ↓reduceIte, reduceCtorEq, Y1] | apply hX; clear hX X | intro hlen; unfold maxLen at hlen))
 obtain ⟨I, hI⟩ : ∃ I : F → M → Prop, ∀ f m', I f m' = (∃ k : Nat, k ≤ ls.length ∧ f 0 = .sl o (ls.map pLT) ∧ f 3 = pI (ls.take k).flatten.length ∧ f 9 = .sl o (ls.map pLT) ∧ f 10 = pI ls.length ∧ f 11 = pI k ∧ m = m') := ⟨_, fun _ _ => rfl⟩
 refine aLoop I (fun f m => ls.length - numOf (f 11)) ?_ ?_
 ·rw [hI]; exact ⟨0, by omega, rfl, rfl, rfl, rfl, rfl, rfl⟩
 intro f m' hrel
 rw [hI] at hrel
 obtain ⟨k, hk, h0, h3, h9, h10, h11, rfl⟩ := hrel
 cases c1 : decide ((k : Int) < (ls.length : Int)) with
 | true =>
  have hlt : k < ls.length := by simpa using c1
  have hg := getD_map pLT ls k hlt
  have hi : IntKind.i64.wrap ((k : Int) + 1) = ((k + 1 : Nat) : Int) := by rw [wrap64 (by omega)]; omega
  have hme : numOf (f 11) = k := by rw [h11]; exact Int.toNat_natCast k
  have hst : (ls.take (k + 1)).flatten.length = (ls.take k).flatten.length + ls[k].length := by rw [List.take_succ_eq_append_getElem hlt, List.flatten_append, List.length_append]; simp
  have hl2 := lists_lenT ls (k + 1)
  have hw : IntKind.i64.wrap (((ls.take k).flatten.length : Int) + (ls[k].length : Int)) = (((ls.take (k + 1)).flatten.length : Nat) : Int) := by rw [wrap64 (by omega), hst]; omega
  have c2 : decide ((((ls.take (k + 1)).flatten.length : Nat) : Int) < 0) = false := by simp
  (repeat (first | refine aSeq fun X hX => ?_ | refine aReg ?_; simp -implicitDefEqProofs only [↓slp, slb, ↓reduceIte, h10, h11, pI, c1] | apply hX; clear hX X))
  refine aIf ?_; simp -implicitDefEqProofs only [slb, ↓reduceIte, reduceCtorEq]
  (repeat (first | refine aSeq fun X hX => ?_ | refine aSkip ?_ | refine aReg ?_; simp -implicitDefEqProofs only [↓slp, ↓reduceIte, jA, jB, Y1, h3, h9, h11, pI, hg, pLT, hw, c2] | apply hX; clear hX X | intro hlen; unfold maxLen at hlen | apply And.intro; focus omega))
  refine aIf ?_; simp -implicitDefEqProofs only [slb, ↓reduceIte]
  (repeat (first | refine aSkip ?_ | refine aReg ?_; simp -implicitDefEqProofs only [↓slp, slb, ↓reduceIte, jA, h11, pI, hi] | apply hX; clear hX X))
  rw [hI]
  exact ⟨⟨k + 1, hlt, h0, rfl, h9, h10, rfl, rfl⟩, by omega⟩
 | false =>
 obtain rfl : k = ls.length := by simp at c1; omega
 rw [List.take_length] at h3
 have hgr := grow_110 ls.flatten.length m d hd (by omega) (by omega) (by have := Nat.mul_le_mul (Nat.le_of_lt hb) hd2; omega)
 rw [hd1] at hgr
 (repeat (first | refine aSeq fun X hX => ?_ | refine aReg ?_; simp -implicitDefEqProofs only [↓slp, slb, ↓reduceIte, h10, h11, pI, c1] | apply hX; clear hX X))
 refine aIf ?_; simp -implicitDefEqProofs only [slb, ↓reduceIte]
 (repeat (first | refine aSeq fun X hX => ?_ | refine aExit ?_; try simp only [slx, ↓reduceIte, jA, reduceCtorEq] | refine aReg ?_; simp -implicitDefEqProofs only [↓slp, ↓reduceIte, jA, Y1, h3, pI] | clear hX X; apply hX; clear hX X))
 refine callM hgr ?_
 rintro v m' ⟨rfl, rfl⟩
 simp -implicitDefEqProofs only [↓slp, slb, ↓reduceIte]
 (repeat (first | refine aSeq fun X hX => ?_ | refine aBlk ?_ | refine aReg ?_; simp -implicitDefEqProofs only [↓slp, ↓reduceIte, reduceCtorEq, Y1, h0] | apply hX; clear hX X | intro hlen; unfold maxLen at hlen))
 clear I hI h3 h9 h10 h11
 obtain ⟨I, hI⟩ : ∃ I : F → M → Prop, ∀ f m', I f m' = (∃ (k : Nat) (o2 : Own), k ≤ ls.length ∧ f 6 = .sl o2 ((ls.take k).flatten.map Tr.pv) ∧ f 25 = .sl o (ls.map pLT) ∧ f 26 = pI ls.length ∧ f 27 = pI k ∧ Toks m m' ∧ Mine m m' o2 12) := ⟨_, fun _ _ => rfl⟩
 refine aLoop I (fun f m => ls.length - numOf (f 27)) ?_ ?_
 ·rw [hI]; exact ⟨0, .tok m.nt, by omega, rfl, rfl, rfl, rfl, (Toks.refl m).use (o := .full) (s := 12) (s' := 12) Mine.full, Mine.new (o := .full) (Toks.refl m) 12⟩
 intro f m' hrel
 rw [hI] at hrel
 obtain ⟨k, o2, hk, h6, h25, h26, h27, ht, hm⟩ := hrel
 cases c1 : decide ((k : Int) < (ls.length : Int)) with
 | true =>
  have hlt : k < ls.length := by simpa using c1
  have hg := getD_map pLT ls k hlt
  have hi : IntKind.i64.wrap ((k : Int) + 1) = ((k + 1 : Nat) : Int) := by rw [wrap64 (by omega)]; omega
  have hme : numOf (f 27) = k := by rw [h27]; exact Int.toNat_natCast k
  have hst : (ls.take (k + 1)).flatten = (ls.take k).flatten ++ ls[k] := by rw [List.take_succ_eq_append_getElem hlt, List.flatten_append]; simp
  have hl2 := lists_lenT ls (k + 1)
  have hl3 : (ls.take (k + 1)).flatten.length = (ls.take k).flatten.length + ls[k].length := by rw [hst, List.length_append]
  have hfree := hm.free
  have q1 : (ls.take k).flatten.length + ls[k].length ≤ maxLen := by unfold maxLen; omega
  have q3 := trs_len (ls.take k).flatten
  have q4 := trs_len ls[k]
  (repeat (first | refine aSeq fun X hX => ?_ | refine aReg ?_; simp -implicitDefEqProofs only [↓slp, slb, ↓reduceIte, h26, h27, pI, c1] | apply hX; clear hX X))
  refine aIf ?_; simp -implicitDefEqProofs only [slb, ↓reduceIte, reduceCtorEq]
  (repeat (first | refine aSeq fun X hX => ?_ | refine aSkip ?_ | refine aReg ?_; simp -implicitDefEqProofs only [↓slp, ↓reduceIte, jA, jB, Y1, h6, h25, h27, pI, hg, pLT, hi] | apply hX; clear hX X | apply And.intro; focus (first | omega | (repeat' apply And.intro) <;> first | omega | assumption)))
  rw [hI]
  exact ⟨⟨k + 1, .tok m'.nt, hlt, by rw [hst, List.map_append]; rfl, h25, h26, rfl, ht.use hm, Mine.new ht o2 12⟩, by omega⟩
 | false =>
  obtain rfl : k = ls.length := by simp at c1; omega
  rw [List.take_length] at h6
  (repeat (first | refine aSeq fun X hX => ?_ | refine aReg ?_; simp -implicitDefEqProofs only [↓slp, slb, ↓reduceIte, h26, h27, pI, c1] | apply hX; clear hX X))
  refine aIf ?_; simp -implicitDefEqProofs only [slb, ↓reduceIte]
  (repeat (first | refine aSeq fun X hX => ?_ | (first | refine aExit ?_ | refine aRet ?_); try simp only [slx, ↓reduceIte, jA, reduceCtorEq] | refine aReg ?_; simp -implicitDefEqProofs only [↓slp, slb, ↓reduceIte, jA, h6] | apply hX; clear hX X | clear hX X; apply hX; clear hX X))
  simp only [aPost, Try.results87, aRes_n, aRes_t, aRes_c, pack_one, pack_two]
  exact leave_toks0 ht rfl ⟨rfl, rfl⟩
end Go.Proofs.Ytibhhoknipdlpaa
