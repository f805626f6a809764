/-
 slices.Clone, and slices.Grow from nothing, at this seat's types.
-/
-- halved
import Derived.Test.YthhhnfjcaicjnaaGreatDoorLwA
import Derived.Test.YthhhnfjcaicjnaaGreatDoorAbT
import Derived.WalkKit
import Derived.RowKitTokens
import Derived.Lib.Walk
import Derived.Lib.AppendZerosOnto
set_option linter.unusedVariables false
set_option linter.unusedSimpArgs false
namespace Go.Proofs.YthhhnfjcaicjnaaGreatDoor
open Go Go.RowKit

theorem slice_cases {G : Ghost} {w : World} {o : Own} {xs : List PV} {v : Value} (h : Rep G w (.sl o xs) v) : (v = .slice none 0 0 ∧ xs = []) ∨ ∃ a l c, v = .slice (some a) l c := by
 rcases sl_inv h with ⟨⟨ao, rfl⟩, rfl, _⟩ | ⟨b, off, cap, sz, cs, rfl, _⟩
 ·cases ao with
  | none => exact .inl ⟨rfl, rfl⟩
  | some a => exact .inr ⟨a, 0, 0, rfl⟩
 ·exact .inr ⟨_, _, _, rfl⟩
theorem eql_nil_n {P : Program} {t e : TypeId} (h : P.underlying t = some (.slice e)) (w : World) : (binOp .eql t (.slice none 0 0) (.slice none 0 0)).run P w = .ok (.bool true) w := by
 have h : ∀ d : Nat, (Op.equalIn (d + 2) t (.slice none 0 0) (.slice none 0 0)).run P w = .ok true w := fun d => by simp [Op.equalIn, run_underlying h]
 simp only [binOp]
 simp [Op.equal, Op.maxDepth, h 9998]
theorem eql_nil_s {P : Program} {t e : TypeId} (h : P.underlying t = some (.slice e)) (a : Addr) (l c : Nat) (w : World) : (binOp .eql t (.slice (some a) l c) (.slice none 0 0)).run P w = .ok (.bool false) w := by
 have h : ∀ d : Nat, (Op.equalIn (d + 2) t (.slice (some a) l c) (.slice none 0 0)).run P w = .ok false w := fun d => by simp [Op.equalIn, run_underlying h]
 simp only [binOp]
 simp [Op.equal, Op.maxDepth, h 9998]
theorem fresh_nil {G : Ghost} {m : M} {w : World} (hI : Inv G m w) (ao : Option Addr) (s : Nat) : ∃ G', Rep G' w (.sl (.tok m.nt) []) (.slice ao 0 0) ∧ Inv G' (m.fresh s) w ∧ Ext G w G' w := by
 have hnt : m.nt = G.nt := hI.nt
 have := hI.addTok ⟨0, 0, 0, s⟩ (fun b k hbk => by obtain ⟨_, k1, k2⟩ := hbk; simp at k2) (fun t1 s1 _ b k _ hx => by obtain ⟨_, k1, k2⟩ := hx; simp at k2)
 refine ⟨_, .snil _ ao (fun t ht => ?_), this, Ext.addTok _ _ _⟩
 cases ht
 refine ⟨by show m.nt < G.nt + 1; omega, ?_⟩
 have : (G.addTok ⟨0, 0, 0, s⟩).res m.nt = ⟨0, 0, 0, s⟩ := if_pos hnt
 rw [this]
 simp
theorem fresh_row {G : Ghost} {m : M} {w : World} (hI : Inv G m w) (row : Array Value) (e : TypeId) (cap s : Nat) (hrow : row.size = cap * s) (hcap : cap ≤ maxLen) :
    ∃ G', Rep G' (w.drew.alloc (.cells row e)) (.sl (.tok m.nt) []) (.slice (some ⟨w.heap.size, 0, none⟩) 0 cap) ∧ Inv G' (m.fresh s) (w.drew.alloc (.cells row e)) ∧ Ext G w G' (w.drew.alloc (.cells row e)) := by
 have hnt : m.nt = G.nt := hI.nt
 have hpush : Pushed w (w.drew.alloc (.cells row e)) (.cells row e) := (Pushed.alloc w.drew _).drew
 obtain ⟨hE, hI'⟩ := hI.push hpush (fun k => False)
 have hI2 := hI'.addTok ⟨w.heap.size, 0, cap * s, s⟩ (fun b k hbk => by
  obtain ⟨hbb, k1, k2⟩ := hbk
  simp only at hbb k1 k2
  subst hbb
  refine ⟨hI.base, fun hset => ?_, by rw [hpush.cellNew, Array.getElem?_eq_getElem (by rw [hrow]; exact k2)]; rfl, by simp only [World.frozen?]; rw [hpush.new]; simp, fun id c hc => ?_⟩
  ·rcases hset with hset | ⟨_, hset⟩
   ·have := hI.set _ _ hset; omega
   ·exact hset
  ·have : G.box id < w.heap.size := hI.blt hc
   show G.box id ≠ _
   omega) (fun t1 s1 hal b k hbk hx => by
  obtain ⟨hbb, _, _⟩ := hx
  simp only at hbb
  subst hbb
  obtain ⟨_, _, q3, _⟩ := (hI.tok t1 s1 hal).2 _ _ hbk
  obtain ⟨u, hu'⟩ := Option.isSome_iff_exists.1 q3
  have : w.heap.size < w.heap.size := World.block_lt_of_cell? w _ hu'
  omega)
 refine ⟨_, ?_, hI2, hE.trans (Ext.addTok _ _ _)⟩
 refine .sl _ [] w.heap.size 0 cap s (fun k => .nilIface) (fun i h => by simp at h) (fun k hk => by simp at hk) (fun i h => by simp at h) (fun i h => by simp at h) (by simp) hcap (fun h => by cases h) (fun t ht => ?_)
 cases ht
 refine ⟨by show m.nt < G.nt + 1; omega, ?_⟩
 have : ((G.more w.heap.size fun k => False).addTok ⟨w.heap.size, 0, cap * s, s⟩).res m.nt = ⟨w.heap.size, 0, cap * s, s⟩ := if_pos hnt
 rw [this]
 simp

set_option maxRecDepth 20000 in
set_option maxHeartbeats 2000000 in
theorem clone_83 (o : Own) (xs : List PV) (m : M) (d : TD) (hd : tdat Tryz.prog 106 = some d) (hxs : ∀ x ∈ xs, x.cells.length = d.sz) (hmax : xs.length ≤ maxLen) (hby : xs.length * d.by_ ≤ 140737488355328) :
    ACalls Tryz.prog 83 [.sl o xs] m (fun v m' => v = .sl (.tok m.nt) xs ∧ m' = m.fresh d.sz) := by
 refine ⟨by kernel_rfl, fun G w vs hI hl hr => ?_⟩
 obtain ⟨v0, rfl⟩ : ∃ v0, vs = [v0] := by
  match vs, hl with
  | [v0], _ => exact ⟨v0, rfl⟩
 have h0 := hr 0 (by simp) (by simp)
 simp only [List.getElem_cons_zero] at h0
 obtain ⟨i, td', hi, htd, hz, hs, hb, _, hzc⟩ := info_of hd
 have hte : tel Tryz.prog 35 = some 106 := by kernel_rfl
 have hu := under_of hte
 rcases slice_cases h0 with ⟨rfl, rfl⟩ | ⟨a, l, c, rfl⟩
 ·have hq : ∀ w, (binOp .eql 35 (.slice none 0 0) (.slice none 0 0)).run Tryz.prog w = .ok (.bool true) w := fun w => eql_nil_n hu w
  go_enter Tryz.func83, Tryz.ntmps83
  go_wp2
  go_ret
  obtain ⟨G', g1, g2, g3⟩ := fresh_nil hI none d.sz
  first | exact .inl ⟨_, _, _, G', rfl, ⟨rfl, rfl⟩, g1, g2, g3⟩ | exact .inl ⟨_, rfl, _, _, ⟨rfl, rfl⟩, G', g1, g2, g3⟩
 ·have hq : ∀ w, (binOp .eql 35 (.slice (some a) l c) (.slice none 0 0)).run Tryz.prog w = .ok (.bool false) w := fun w => eql_nil_s hu a l c w
  obtain ⟨hE1, hI1⟩ := hI.push (Pushed.alloc w (.cells #[] 106)) (fun k => False)
  have hrep1 : Rep (G.more w.heap.size fun k => False) (w.alloc (.cells #[] 106)) (.sl .full []) (.slice (some ⟨w.heap.size, 0, none⟩) 0 0) := .snil _ _ (fun t ht => by cases ht)
  obtain ⟨y, w', G', hrun, hy, hI', hE'⟩ := append_good (t := 35) (t' := 35) (ty := 35) (ys := xs) hte hd hu hI1 hrep1 (h0.mono hE1) rfl (by rfl) trivial (fun x hx => by simp at hx) hxs (by simpa using hmax) (by simpa using hby)
  go_enter Tryz.func83, Tryz.ntmps83
  go_wp2_with (at_builtin; refine Lib.wpList_append_run _ rfl _ _ _ _ rfl _ _ rfl rfl _ _ hrun ?_)
  go_ret
  first | exact .inl ⟨_, _, _, G', rfl, ⟨rfl, rfl⟩, hy, hI', hE1.trans hE'⟩ | exact .inl ⟨_, rfl, _, _, ⟨rfl, rfl⟩, G', hy, hI', hE1.trans hE'⟩

set_option maxRecDepth 20000 in
set_option maxHeartbeats 2000000 in
theorem clone_84 (o : Own) (xs : List PV) (m : M) (d : TD) (hd : tdat Tryz.prog 9 = some d) (hxs : ∀ x ∈ xs, x.cells.length = d.sz) (hmax : xs.length ≤ maxLen) (hby : xs.length * d.by_ ≤ 140737488355328) :
    ACalls Tryz.prog 84 [.sl o xs] m (fun v m' => v = .sl (.tok m.nt) xs ∧ m' = m.fresh d.sz) := by
 refine ⟨by kernel_rfl, fun G w vs hI hl hr => ?_⟩
 obtain ⟨v0, rfl⟩ : ∃ v0, vs = [v0] := by
  match vs, hl with
  | [v0], _ => exact ⟨v0, rfl⟩
 have h0 := hr 0 (by simp) (by simp)
 simp only [List.getElem_cons_zero] at h0
 obtain ⟨i, td', hi, htd, hz, hs, hb, _, hzc⟩ := info_of hd
 have hte : tel Tryz.prog 43 = some 9 := by kernel_rfl
 have hu := under_of hte
 rcases slice_cases h0 with ⟨rfl, rfl⟩ | ⟨a, l, c, rfl⟩
 ·have hq : ∀ w, (binOp .eql 43 (.slice none 0 0) (.slice none 0 0)).run Tryz.prog w = .ok (.bool true) w := fun w => eql_nil_n hu w
  go_enter Tryz.func84, Tryz.ntmps84
  go_wp2
  go_ret
  obtain ⟨G', g1, g2, g3⟩ := fresh_nil hI none d.sz
  first | exact .inl ⟨_, _, _, G', rfl, ⟨rfl, rfl⟩, g1, g2, g3⟩ | exact .inl ⟨_, rfl, _, _, ⟨rfl, rfl⟩, G', g1, g2, g3⟩
 ·have hq : ∀ w, (binOp .eql 43 (.slice (some a) l c) (.slice none 0 0)).run Tryz.prog w = .ok (.bool false) w := fun w => eql_nil_s hu a l c w
  obtain ⟨hE1, hI1⟩ := hI.push (Pushed.alloc w (.cells #[] 9)) (fun k => False)
  have hrep1 : Rep (G.more w.heap.size fun k => False) (w.alloc (.cells #[] 9)) (.sl .full []) (.slice (some ⟨w.heap.size, 0, none⟩) 0 0) := .snil _ _ (fun t ht => by cases ht)
  obtain ⟨y, w', G', hrun, hy, hI', hE'⟩ := append_good (t := 43) (t' := 43) (ty := 43) (ys := xs) hte hd hu hI1 hrep1 (h0.mono hE1) rfl (by rfl) trivial (fun x hx => by simp at hx) hxs (by simpa using hmax) (by simpa using hby)
  go_enter Tryz.func84, Tryz.ntmps84
  go_wp2_with (at_builtin; refine Lib.wpList_append_run _ rfl _ _ _ _ rfl _ _ rfl rfl _ _ hrun ?_)
  go_ret
  first | exact .inl ⟨_, _, _, G', rfl, ⟨rfl, rfl⟩, hy, hI', hE1.trans hE'⟩ | exact .inl ⟨_, rfl, _, _, ⟨rfl, rfl⟩, G', hy, hI', hE1.trans hE'⟩

set_option maxRecDepth 20000 in
set_option maxHeartbeats 2000000 in
theorem grow_81 (n : Nat) (m : M) (d : TD) (hd : tdat Tryz.prog 106 = some d) (hs0 : 0 < d.sz) (hmax : n ≤ 4611686018427387904) (hby : n * d.by_ ≤ 140737488355328) :
    ACalls Tryz.prog 81 [.sl .full [], .v (.int .i64 n)] m (fun v m' => v = .sl (.tok m.nt) [] ∧ m' = m.fresh d.sz) := by
 refine ⟨by kernel_rfl, fun G w vs hI hl hr => ?_⟩
 obtain ⟨v0, v1, rfl⟩ : ∃ v0 v1, vs = [v0, v1] := by
  match vs, hl with
  | [v0, v1], _ => exact ⟨v0, v1, rfl⟩
 have h0 := hr 0 (by simp) (by simp)
 have h1 := hr 1 (by simp) (by simp)
 simp only [List.getElem_cons_zero, List.getElem_cons_succ] at h0 h1
 obtain rfl := h1.atomEq
 obtain ⟨i, td', hi, htd, hz, hs, hb, _, hzc⟩ := info_of hd
 have hte : tel Tryz.prog 35 = some 106 := by kernel_rfl
 have hu := under_of hte
 obtain ⟨base, rfl⟩ : ∃ base, v0 = .slice base 0 0 := by
  rcases sl_inv h0 with ⟨⟨ao, rfl⟩, _, _⟩ | ⟨b, off, cap, sz, cs, rfl, a1, a2, a3, a4, a5, a6, a7, a8⟩
  ·exact ⟨ao, rfl⟩
  ·have := a7 rfl
   simp at this
   subst this
   exact ⟨_, rfl⟩
 have q1 : ¬ ((n : Int) < 0) := by omega
 have q2 : Go.RowKit.wrap64 (n : Int) = n := by unfold Go.RowKit.wrap64; omega
 have z25 : ∀ w, (Go.sizeOf 106).run Tryz.prog w = .ok i.size w := fun w => by simp [Go.sizeOf, typeInfo, hi]
 by_cases hn : 0 < n
 ·have q3 : (n : Int) > 0 := by omega
  have hold : (Builtin.firstCells i.size 0 (.slice base 0 0)).run Tryz.prog w.drew = .ok #[] w.drew := by
   cases base with
   | none => exact run_firstCells_none w.drew i.size 0 0 0
   | some a => exact run_firstCells_some w.drew i.size 0 a 0 0 [] (by simp) (fun j v hj => by simp at hj)
  have hrz : ∀ ty, (Builtin.append_ #[35, 3] ty #[.slice base 0 0, .int .i64 n]).run Tryz.prog w =
      .ok (.slice (some ⟨w.heap.size, 0, none⟩) n (grownCap w n 0 106)) (w.drew.alloc (.cells (#[] ++ Builtin.zeroCells d.zero.cells n ++ Builtin.zeroCells d.zero.cells (grownCap w n 0 106 - n)) 106)) := fun ty => by
   have h := Lib.run_append_grow_zeros w 35 3 ty 106 i d.zero .i64 .i64 hu Tryz.underlying3 hi hz base 0 0 [] hold n hn (by omega) (by omega) (by omega)
    (by rw [hb]; omega) (by rw [Nat.zero_add]; exact growslice_fits (by omega) (by rw [hb]; exact hby))
   rw [Nat.zero_add] at h
   exact h
  have hGn : n ≤ grownCap w n 0 106 := grownCap_ge w _ _ _
  have hGm := grownCap_le_maxLen w n 0 106 (by unfold maxLen; omega)
  obtain ⟨C, hC⟩ : ∃ C, C = grownCap w n 0 106 := ⟨_, rfl⟩
  rw [← hC] at hrz hGn hGm
  have hG63 : C ≤ 9223372036854775807 := by unfold maxLen at hGm; omega
  obtain ⟨G', g1, g2, g3⟩ := fresh_row hI (#[] ++ Builtin.zeroCells d.zero.cells n ++ Builtin.zeroCells d.zero.cells (C - n)) 106 C d.sz (by
   simp only [Array.size_append, size_zeroCells, hzc, Array.size_empty]
   rw [Nat.zero_add, ← Nat.add_mul]
   congr 1
   omega) hGm
  generalize #[] ++ Builtin.zeroCells d.zero.cells n ++ Builtin.zeroCells d.zero.cells (C - n) = row at hrz g1 g2 g3
  generalize w.drew.alloc (.cells row 106) = w2 at hrz g1 g2 g3
  clear hold hC
  go_enter Tryz.func81, Tryz.ntmps81
  cases base with
  | none =>
   go_wp2_with (at_builtin; refine Lib.wpList_append_run _ rfl _ _ _ _ rfl _ _ rfl rfl _ _ (hrz _) ?_)
   all_goals (go_ret; first | exact .inl ⟨_, _, _, G', rfl, ⟨rfl, rfl⟩, g1, g2, g3⟩ | exact .inl ⟨_, rfl, _, _, ⟨rfl, rfl⟩, G', g1, g2, g3⟩)
  | some a =>
   obtain ⟨ab, ao, asp⟩ := a
   go_wp2_with (at_builtin; refine Lib.wpList_append_run _ rfl _ _ _ _ rfl _ _ rfl rfl _ _ (hrz _) ?_)
   all_goals (go_ret; first | exact .inl ⟨_, _, _, G', rfl, ⟨rfl, rfl⟩, g1, g2, g3⟩ | exact .inl ⟨_, rfl, _, _, ⟨rfl, rfl⟩, G', g1, g2, g3⟩)
 ·obtain rfl : n = 0 := by omega
  go_enter Tryz.func81, Tryz.ntmps81
  go_wp2
  go_ret
  obtain ⟨G', g1, g2, g3⟩ := fresh_nil hI base d.sz
  first | exact .inl ⟨_, _, _, G', rfl, ⟨rfl, rfl⟩, g1, g2, g3⟩ | exact .inl ⟨_, rfl, _, _, ⟨rfl, rfl⟩, G', g1, g2, g3⟩
end Go.Proofs.YthhhnfjcaicjnaaGreatDoor
