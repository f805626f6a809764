/-
  slices.Clone, and slices.Grow from nothing, at this seat's types.
-/
import Derived.Test.YticdboelpgalpaaDoorGD
import Derived.Test.YticdboelpgalpaaDoorAbT
import Derived.WalkKit
import Derived.RowKitTokens
import Derived.Lib.Walk
import Derived.Lib.AppendZerosOnto
set_option linter.unusedVariables false
set_option linter.unusedSimpArgs false
namespace Go.Proofs.YticdboelpgalpaaDoor
open Go Go.RowKit

/-- A slice without elements whose spare places are a token's. -/
theorem fresh_nil {G : Ghost} {m : M} {w : World} (hI : Inv G m w) (ao : Option Addr) (s : Nat) : ∃ G', Rep G' w (.sl (.tok m.nt) []) (.slice ao 0 0) ∧ Inv G' (m.fresh s) w ∧ Ext G w G' w := by
  have hnt : m.nt = G.nt := hI.nt
  have := hI.addTok ⟨0, 0, 0, s⟩ (fun b k hbk => by obtain ⟨_, k1, k2⟩ := hbk; simp at k2) (fun t1 s1 _ b k _ hx => by obtain ⟨_, k1, k2⟩ := hx; simp at k2)
  refine ⟨_, .snil _ ao (fun t ht => ?_), this, Ext.addTok _ _ _⟩
  cases ht
  refine ⟨by show m.nt < G.nt + 1; omega, ?_⟩
  have : (G.addTok ⟨0, 0, 0, s⟩).res m.nt = ⟨0, 0, 0, s⟩ := if_pos hnt
  rw [this]
  simp
/-- A new row whose places are all spare. -/
theorem fresh_row {G : Ghost} {m : M} {w : World} (hI : Inv G m w) (row : Array Value) (e : TypeId) (cap s : Nat) (hrow : row.size = cap * s) (hcap : cap ≤ maxLen) :
    ∃ G', Rep G' (w.drew.alloc (.cells row e)) (.sl (.tok m.nt) []) (.slice (some ⟨w.heap.size, 0, none⟩) 0 cap) ∧ Inv G' (m.fresh s) (w.drew.alloc (.cells row e)) ∧ Ext G w G' (w.drew.alloc (.cells row e)) := by
  have hnt : m.nt = G.nt := hI.nt
  have hpush : Pushed w (w.drew.alloc (.cells row e)) (.cells row e) := (Pushed.alloc w.drew _).drew
  obtain ⟨hE, hI'⟩ := hI.push hpush (fun k => False)
  have hI2 := hI'.addTok ⟨w.heap.size, 0, cap * s, s⟩ (fun b k hbk => by
    obtain ⟨hbb, k1, k2⟩ := hbk
    simp only at hbb k1 k2
    subst hbb
    refine ⟨hI.base, fun hset => ?_, by rw [hpush.cellNew, Array.getElem?_eq_getElem (by rw [hrow]; exact k2)]; rfl, by simp only [World.frozen?]; rw [hpush.new]; simp, fun id c hc => ?_⟩
    · rcases hset with hset | ⟨_, hset⟩
      · have := hI.set _ _ hset; omega
      · exact hset
    · have : G.box id < w.heap.size := hI.blt hc
      show G.box id ≠ _
      omega) (fun t1 s1 hal b k hbk hx => by
    obtain ⟨hbb, _, _⟩ := hx
    simp only at hbb
    subst hbb
    obtain ⟨_, _, q3, _⟩ := (hI.tok t1 s1 hal).2 _ _ hbk
    obtain ⟨u, hu'⟩ := Option.isSome_iff_exists.1 q3
    have : w.heap.size < w.heap.size := World.block_lt_of_cell? w _ hu'
    omega)
  refine ⟨_, ?_, hI2, hE.trans (Ext.addTok _ _ _)⟩
  refine .sl _ [] w.heap.size 0 cap s (fun k => .nilIface) (fun i h => by simp at h) (fun k hk => by simp at hk) (fun i h => by simp at h) (fun i h => by simp at h) (by simp) hcap (fun h => by cases h) (fun t ht => ?_)
  cases ht
  refine ⟨by show m.nt < G.nt + 1; omega, ?_⟩
  have : ((G.more w.heap.size fun k => False).addTok ⟨w.heap.size, 0, cap * s, s⟩).res m.nt = ⟨w.heap.size, 0, cap * s, s⟩ := if_pos hnt
  rw [this]
  simp

set_option maxRecDepth 20000 in
set_option maxHeartbeats 2000000 in
theorem grow_39 (n : Nat) (m : M) (d : TD) (hd : tdat Tryd.prog 69 = some d) (hs0 : 0 < d.sz) (hmax : n ≤ 4611686018427387904) (hby : n * d.by_ ≤ 140737488355328) :
    ACalls Tryd.prog 39 [.sl .full [], .v (.int .i64 n)] m (fun v m' => v = .sl (.tok m.nt) [] ∧ m' = m.fresh d.sz) := by
  refine ⟨by kernel_rfl, fun G w vs hI hl hr => ?_⟩
  obtain ⟨v0, v1, rfl⟩ : ∃ v0 v1, vs = [v0, v1] := by
    match vs, hl with
    | [v0, v1], _ => exact ⟨v0, v1, rfl⟩
  have h0 := hr 0 (by simp) (by simp)
  have h1 := hr 1 (by simp) (by simp)
  simp only [List.getElem_cons_zero, List.getElem_cons_succ] at h0 h1
  obtain rfl := h1.atomEq
  obtain ⟨i, td', hi, htd, hz, hs, hb, _, hzc⟩ := info_of hd
  have hte : tel Tryd.prog 48 = some 69 := by kernel_rfl
  have hu := under_of hte
  obtain ⟨base, rfl⟩ : ∃ base, v0 = .slice base 0 0 := by
    rcases sl_inv h0 with ⟨⟨ao, rfl⟩, _, _⟩ | ⟨b, off, cap, sz, cs, rfl, a1, a2, a3, a4, a5, a6, a7, a8⟩
    · exact ⟨ao, rfl⟩
    · have := a7 rfl
      simp at this
      subst this
      exact ⟨_, rfl⟩
  have q1 : ¬ ((n : Int) < 0) := by omega
  have q2 : wrap64 (n : Int) = n := by unfold wrap64; omega
  have z25 : ∀ w, (Go.sizeOf 69).run Tryd.prog w = .ok i.size w := fun w => by simp [Go.sizeOf, typeInfo, hi]
  by_cases hn : 0 < n
  · have q3 : (n : Int) > 0 := by omega
    have hold : (Builtin.firstCells i.size 0 (.slice base 0 0)).run Tryd.prog w.drew = .ok #[] w.drew := by
      cases base with
      | none => exact run_firstCells_none w.drew i.size 0 0 0
      | some a => exact run_firstCells_some w.drew i.size 0 a 0 0 [] (by simp) (fun j v hj => by simp at hj)
    have hrz : ∀ ty, (Builtin.append_ #[48, 3] ty #[.slice base 0 0, .int .i64 n]).run Tryd.prog w =
        .ok (.slice (some ⟨w.heap.size, 0, none⟩) n (grownCap w n 0 69)) (w.drew.alloc (.cells (#[] ++ Builtin.zeroCells d.zero.cells n ++ Builtin.zeroCells d.zero.cells (grownCap w n 0 69 - n)) 69)) := fun ty => by
      have h := Lib.run_append_grow_zeros w 48 3 ty 69 i d.zero .i64 .i64 hu Tryd.underlying3 hi hz base 0 0 [] hold n hn (by omega) (by omega) (by omega)
        (by rw [hb]; omega) (by rw [Nat.zero_add]; exact growslice_fits (by omega) (by rw [hb]; exact hby))
      rw [Nat.zero_add] at h
      exact h
    have hGn : n ≤ grownCap w n 0 69 := grownCap_ge w _ _ _
    have hGm := grownCap_le_maxLen w n 0 69 (by unfold maxLen; omega)
    obtain ⟨C, hC⟩ : ∃ C, C = grownCap w n 0 69 := ⟨_, rfl⟩
    rw [← hC] at hrz hGn hGm
    have hG63 : C ≤ 9223372036854775807 := by unfold maxLen at hGm; omega
    obtain ⟨G', g1, g2, g3⟩ := fresh_row hI (#[] ++ Builtin.zeroCells d.zero.cells n ++ Builtin.zeroCells d.zero.cells (C - n)) 69 C d.sz (by
      simp only [Array.size_append, size_zeroCells, hzc, Array.size_empty]
      rw [Nat.zero_add, ← Nat.add_mul]
      congr 1
      omega) hGm
    generalize #[] ++ Builtin.zeroCells d.zero.cells n ++ Builtin.zeroCells d.zero.cells (C - n) = row at hrz g1 g2 g3
    generalize w.drew.alloc (.cells row 69) = w2 at hrz g1 g2 g3
    clear hold hC
    go_enter Tryd.func39, Tryd.ntmps39
    cases base with
    | none =>
      go_wp2_with (at_builtin; refine Lib.wpList_append_run _ rfl _ _ _ _ rfl _ _ rfl rfl _ _ (hrz _) ?_)
      all_goals (go_ret; first | exact .inl ⟨_, _, _, G', rfl, ⟨rfl, rfl⟩, g1, g2, g3⟩ | exact .inl ⟨_, rfl, _, _, ⟨rfl, rfl⟩, G', g1, g2, g3⟩)
    | some a =>
      obtain ⟨ab, ao, asp⟩ := a
      go_wp2_with (at_builtin; refine Lib.wpList_append_run _ rfl _ _ _ _ rfl _ _ rfl rfl _ _ (hrz _) ?_)
      all_goals (go_ret; first | exact .inl ⟨_, _, _, G', rfl, ⟨rfl, rfl⟩, g1, g2, g3⟩ | exact .inl ⟨_, rfl, _, _, ⟨rfl, rfl⟩, G', g1, g2, g3⟩)
  · obtain rfl : n = 0 := by omega
    go_enter Tryd.func39, Tryd.ntmps39
    go_wp2
    go_ret
    obtain ⟨G', g1, g2, g3⟩ := fresh_nil hI base d.sz
    first | exact .inl ⟨_, _, _, G', rfl, ⟨rfl, rfl⟩, g1, g2, g3⟩ | exact .inl ⟨_, rfl, _, _, ⟨rfl, rfl⟩, G', g1, g2, g3⟩

/-- slices.Clone and slices.Grow, for the run. -/
def slcHook (P : Program) (next : CallR) : CallR := fun g args m =>
  if g = 39 then (match args with
    | [PV.sl Own.full [], PV.v (Value.int IntKind.i64 z)] => (match tdat P 69 with
    | some d => if decide (0 ≤ z) && decide (0 < d.sz) && decide (z.toNat ≤ 4611686018427387904) && decide (z.toNat * d.by_ ≤ 140737488355328) then some (.val (.sl (.tok m.nt) []) (m.fresh d.sz)) else none
    | none => none)
    | _ => none) else
  next g args m
theorem slcHook_ok {next : CallR} (hn : CallOk Tryd.prog next) : CallOk Tryd.prog (slcHook Tryd.prog next) := by
  intro g args m r h
  unfold slcHook at h
  split at h
  · rename_i hg
    subst hg
    split at h
    · rename_i z
      split at h
      · rename_i d hd
        split at h
        · rename_i hq
          cases h
          simp only [Bool.and_eq_true, decide_eq_true_eq] at hq
          obtain ⟨⟨⟨h1, h2⟩, h3⟩, h4⟩ := hq
          have := grow_39 z.toNat m d hd h2 h3 h4
          rwa [Int.toNat_of_nonneg h1] at this
        · cases h
      · cases h
    · cases h
  rename_i hg
  clear hg
  exact hn _ _ _ _ h
end Go.Proofs.YticdboelpgalpaaDoor
