/-
  clite.New: a memory of cells.
-/
import Derived.Test.YtepjjgnkhcjpcaaDoorAbKit
import Derived.Test.YtepjjgnkhcjpcaaDoorProg
import Derived.WalkKit
import Derived.WalkSpells
import Derived.WalkLawsBesides
import Derived.Lib.Hide
import Derived.Deep.Light
import Derived.Deep.QuietTactic
import Derived.BigQuiet
import Derived.Deep.RegionHeld3
import Derived.Deep.AppendLies
import Derived.Laws.MakeOwn
import Derived.Laws.OwnMore
set_option linter.unusedVariables false
set_option linter.unusedSimpArgs false
namespace Go.Proofs.YtepjjgnkhcjpcaaDoor
open Go Go.RowKit

def NewR (w : World) (s1 s2 : Value) (c : Nat) (e : Ending) (w' : World) : Prop :=
  ∃ bm bt bx, e = .returned (.tuple #[.pointer (some ⟨bx, 0, none⟩), .int .i64 0]) ∧ w.heap.size ≤ bm ∧ w.heap.size ≤ bt ∧ w.heap.size ≤ bx ∧ bm ≠ bt ∧ bm ≠ bx ∧ bt ≠ bx ∧
    w'.heap[bm]? = some (.cells (madeCells #[.int .i32 0] c) 21 (0, 0)) ∧ w'.heap[bt]? = some (.cells (madeCells #[.bool false] c) 4 (0, 0)) ∧
    w'.heap[bx]? = some (.cells #[s1, s2, .slice (some ⟨bm, 0, none⟩) c c, .slice (some ⟨bt, 0, none⟩) c c] 62 (0, 0)) ∧ Below w.heap.size w w'
theorem push4 (h : Array Obj) (a b c d : Obj) : ((((h.push a).push b).push c).push d)[h.size + 1]? = some b ∧ ((((h.push a).push b).push c).push d)[h.size + 2]? = some c ∧ ((((h.push a).push b).push c).push d)[h.size + 3]? = some d := by
  refine ⟨?_, ?_, ?_⟩
  · simp only [Array.getElem?_push, Array.size_push]
    rw [if_neg (by omega), if_neg (by omega), if_pos trivial]
  · simp only [Array.getElem?_push, Array.size_push]
    rw [if_neg (by omega), if_pos trivial]
  · simp only [Array.getElem?_push, Array.size_push]
    rw [if_pos trivial]
theorem newR_of {w W : World} {s1 s2 : Value} {c : Nat} {a : Obj} {e : Ending} (he : e = .returned (.tuple #[.pointer (some ⟨w.heap.size + 3, 0, none⟩), .int .i64 0]))
    (hW : W.heap = (((w.heap.push a).push (.cells (madeCells #[.int .i32 0] c) 21)).push (.cells (madeCells #[.bool false] c) 4)).push (.cells #[s1, s2, .slice (some ⟨w.heap.size + 1, 0, none⟩) c c, .slice (some ⟨w.heap.size + 2, 0, none⟩) c c] 62)) (hb : Below w.heap.size w W) : NewR w s1 s2 c e W := by
  obtain ⟨h1, h2, h3⟩ := push4 w.heap a (.cells (madeCells #[.int .i32 0] c) 21) (.cells (madeCells #[.bool false] c) 4) (.cells #[s1, s2, .slice (some ⟨w.heap.size + 1, 0, none⟩) c c, .slice (some ⟨w.heap.size + 2, 0, none⟩) c c] 62)
  exact ⟨w.heap.size + 1, w.heap.size + 2, w.heap.size + 3, he, by omega, by omega, by omega, by omega, by omega, by omega, by rw [hW]; exact h1, by rw [hW]; exact h2, by rw [hW]; exact h3, hb⟩
theorem newR_of' {w W : World} {s1 s2 : Value} {c : Nat} {a : Obj} {e : Ending} (he : e = .returned (.tuple #[.pointer (some ⟨w.heap.size + 3, 0, none⟩), .int .i64 0]))
    (hW : W.heap = (((w.heap.push a).push (.cells (madeCells #[.bool false] c) 4)).push (.cells (madeCells #[.int .i32 0] c) 21)).push (.cells #[s1, s2, .slice (some ⟨w.heap.size + 2, 0, none⟩) c c, .slice (some ⟨w.heap.size + 1, 0, none⟩) c c] 62)) (hb : Below w.heap.size w W) : NewR w s1 s2 c e W := by
  obtain ⟨h1, h2, h3⟩ := push4 w.heap a (.cells (madeCells #[.bool false] c) 4) (.cells (madeCells #[.int .i32 0] c) 21) (.cells #[s1, s2, .slice (some ⟨w.heap.size + 2, 0, none⟩) c c, .slice (some ⟨w.heap.size + 1, 0, none⟩) c c] 62)
  exact ⟨w.heap.size + 2, w.heap.size + 1, w.heap.size + 3, he, by omega, by omega, by omega, by omega, by omega, by omega, by rw [hW]; exact h2, by rw [hW]; exact h1, by rw [hW]; exact h3, hb⟩
set_option maxHeartbeats 4000000 in
theorem new_walk (s1 s2 : Value) (h1 : s1.oneCell' = true) (h2 : s2.oneCell' = true) (c : Nat) (hc : c ≤ 1048576) (w : World) :
    Calls Tryd.prog 11 #[.agg #[s1, s2], .int .i64 c] w (NewR w s1 s2 c) := by
  have q1 : (0 : Int) ≤ (c : Int) := Int.natCast_nonneg _
  have q2 : ¬ ((c : Int) < 0) := by omega
  have q3 : ¬ (1048576 < (c : Int)) := by omega
  have q4 : (c : Int) ≤ 1048576 := by omega
  go_enter Tryd.func11, Tryd.ntmps11
  go_wp2_with fail
  obtain ⟨i1, hi1, hz1⟩ : ∃ i, Tryd.prog.info? 21 = some i ∧ (i.zero, i.size, i.bytes) = (some (.int .i32 0), 1, 4) := Option.map_eq_some_iff.1 (show (Tryd.prog.info? 21).map (fun i => (i.zero, i.size, i.bytes)) = some (some (.int .i32 0), 1, 4) by kernel_rfl)
  obtain ⟨i2, hi2, hz2⟩ : ∃ i, Tryd.prog.info? 4 = some i ∧ (i.zero, i.size, i.bytes) = (some (.bool false), 1, 1) := Option.map_eq_some_iff.1 (show (Tryd.prog.info? 4).map (fun i => (i.zero, i.size, i.bytes)) = some (some (.bool false), 1, 1) by kernel_rfl)
  simp only [Prod.mk.injEq] at hz1 hz2
  have m1 : ∀ w' : World, (Instr.makeSlice 52 (.int .i64 c) (.int .i64 c)).run Tryd.prog w' = .ok (.slice (some ⟨w'.heap.size, 0, none⟩) c c) (w'.alloc (.cells (madeCells #[.int .i32 0] c) 21)) := fun w' => by
    have := run_makeSlice w' 52 21 i1 (.int .i32 0) Tryd.underlying52 hi1 hz1.1 .i64 .i64 c c q1 (Int.le_refl _) (by rw [hz1.2.1]; omega) (by rw [hz1.2.2]; omega) (by omega)
    rw [this, hz1.2.1]
    simp [Value.cells]
  have m2 : ∀ w' : World, (Instr.makeSlice 60 (.int .i64 c) (.int .i64 c)).run Tryd.prog w' = .ok (.slice (some ⟨w'.heap.size, 0, none⟩) c c) (w'.alloc (.cells (madeCells #[.bool false] c) 4)) := fun w' => by
    have := run_makeSlice w' 60 4 i2 (.bool false) Tryd.underlying60 hi2 hz2.1 .i64 .i64 c c q1 (Int.le_refl _) (by rw [hz2.2.1]; omega) (by rw [hz2.2.2]; omega) (by omega)
    rw [this, hz2.2.1]
    simp [Value.cells]
  have M1 := Lib.hid m1
  have M2 := Lib.hid m2
  clear m1 m2
  go_region_with (first | (rw [M1.out]; simp only [Result.andThen]; rw [Oper.upon_value]) | (rw [M2.out]; simp only [Result.andThen]; rw [Oper.upon_value]))
  all_goals (go_wp2_with fail; go_ret2; first | refine newR_of rfl rfl ?_ | refine newR_of' rfl rfl ?_)
  all_goals (repeat' (first | exact Below.refl _ _ | refine Below.drew ?_ | refine Below.alloc ?_ ?_ _))
  all_goals first | exact Nat.le_refl _ | (simp; done) | (simp; omega)

theorem Inv.stay {G : Ghost} {m : M} {w w' : World} (hI : Inv G m w) (hb : Below w.heap.size w w') : Inv G m w' ∧ Ext G w G w' := by
  have hE : Ext G w G w' := ⟨rfl, Nat.le_refl _, fun _ _ => rfl, fun _ _ => rfl, Nat.le_refl _, fun _ _ => rfl, fun _ _ h => h, fun b o hs => hb.cell (p := ⟨b, o, none⟩) (hI.set b o hs), hb.mono hI.base⟩
  refine ⟨⟨hI.nb, hI.nt, Nat.le_trans hI.base hb.size, fun id c hc => ?_, hI.boxset, hI.inj, fun t s ht => ?_, hI.tokd, fun b o hs => Nat.lt_of_lt_of_le (hI.set b o hs) hb.size, hI.layE hE⟩, hE⟩
  · obtain ⟨o, a1, a2, a5⟩ := hI.box id c hc
    exact ⟨o, (hb.block _ (hI.blt hc)).trans a1, a2.mono hE, a5⟩
  · obtain ⟨q0, q⟩ := hI.tok t s ht
    refine ⟨q0, fun b o hbo => ?_⟩
    obtain ⟨q1, q2, q3, q4, q5⟩ := q b o hbo
    have hlt : b < w.heap.size := by
      obtain ⟨u, hu⟩ := Option.isSome_iff_exists.1 q3
      exact World.block_lt_of_cell? w _ hu
    exact ⟨q1, q2, by rw [hb.cell (p := ⟨b, o, none⟩) hlt]; exact q3, by rw [hb.frozen (p := ⟨b, o, none⟩) hlt]; exact q4, q5⟩
/-- A new block, above what was there, becomes a box. -/
theorem Inv.addNew {G : Ghost} {m : M} {w w' : World} (hI : Inv G m w) (hb : Below w.heap.size w w') {G1 : Ghost} {m1 : M} (hI1 : Inv G1 m1 w') (hset : G1.set = G.set) (hbase : G1.base = G.base) (hnt : G1.res = G.res) (htoks : m1.toks = m.toks)
    (b : Nat) (hge : w.heap.size ≤ b) (hnew : ∀ id c, m1.get id = some c → G1.box id ≠ b) (c : List PV) (cs : List Value) (e : TypeId) (hbk : w'.heap[b]? = some (.cells cs.toArray e (0, 0))) (hl : c.length = cs.length)
    (hr : ∀ j (h1 : j < c.length) (h2 : j < cs.length), Rep G1 w' c[j] cs[j]) (h1 : ∀ u ∈ cs, u.oneCell' = true) : Inv (G1.addBox b) (m1.push c) w' := by
  refine hI1.addBox b c cs e hbk hl hr h1 (by rw [hbase]; exact Nat.le_trans hI.base hge) (fun o hs => ?_) hnew (fun t s ht o hh => ?_)
  · rw [hset] at hs
    exact absurd (hI.set b o hs) (by omega)
  · have ht' : m.alive t s := by
      unfold M.alive at ht ⊢
      rw [← htoks]; exact ht
    rw [hnt] at hh
    obtain ⟨q0, q⟩ := hI.tok t s ht'
    obtain ⟨_, _, q3, _, _⟩ := q b o hh
    obtain ⟨u, hu⟩ := Option.isSome_iff_exists.1 q3
    have := World.block_lt_of_cell? w _ hu
    simp at this
    omega
theorem made_rep (z : Value) (n : Nat) : madeCells #[z] n = (List.replicate n z).toArray := Array.toList_inj.1 (by rw [toList_madeCells_one])
theorem push_nb1 (m : M) (c : List PV) : (m.push c).nb = m.nb + 1 := by simp [M.push, M.nb]
set_option maxHeartbeats 1000000 in
/-- clite.New, without addresses. -/
theorem newC_any (a1 a2 : PV) (c : Nat) (hc : c ≤ 1048576) (m : M) :
    ACalls Tryd.prog 11 [.ag [a1, a2], .v (.int .i64 (c : Int))] m (fun v m' => v = .tp [.bp (m.nb + 2) 0, .v (.int .i64 0)] ∧
      m' = ((m.push (List.replicate c (.v (.int .i32 0)))).push (List.replicate c (.v (.bool false)))).push [a1, a2, .bs m.nb 0 c, .bs (m.nb + 1) 0 c]) := by
  refine ⟨by kernel_rfl, fun G w vs hI hl hr => ?_⟩
  obtain ⟨v0, v1, rfl⟩ : ∃ v0 v1, vs = [v0, v1] := by
    match vs, hl with
    | [v0, v1], _ => exact ⟨v0, v1, rfl⟩
  have e0 := hr 0 (by simp) (by simp)
  have e1 := hr 1 (by simp) (by simp)
  simp only [List.getElem_cons_zero, List.getElem_cons_succ] at e0 e1
  have e2 : v1 = .int .i64 c := e1.atomEq
  subst e2
  obtain ⟨c1, c2, rfl, r1, r2, o1, o2⟩ : ∃ c1 c2, v0 = .agg #[c1, c2] ∧ Rep G w a1 c1 ∧ Rep G w a2 c2 ∧ c1.oneCell' = true ∧ c2.oneCell' = true := by
    cases e0 with
    | ag xs cs hl h h1 =>
      match cs, hl with
      | [c1, c2], _ => exact ⟨c1, c2, rfl, h 0 (by simp) (by simp), h 1 (by simp) (by simp), h1 _ (by simp), h1 _ (by simp)⟩
  refine (new_walk c1 c2 o1 o2 c hc w).mono ?_
  rintro e w' ⟨bm, bt, bx, rfl, g1, g2, g3, n1, n2, n3, hm, ht, hx, hb⟩
  obtain ⟨hI0, hE0⟩ := hI.stay hb
  have hnb : G.nb = m.nb := hI.nb.symm
  have i1 : Inv (G.addBox bm) (m.push (List.replicate c (.v (.int .i32 0)))) w' := by
    refine hI.addNew hb hI0 rfl rfl rfl rfl bm g1 (fun id k hk => by have := hI.blt hk; omega) _ (List.replicate c (.int .i32 0)) 21 (by rw [hm, made_rep]) (by simp) (fun j h1 h2 => ?_) (fun u hu => ?_)
    · simp only [List.getElem_replicate]; exact .v rfl
    · rw [List.eq_of_mem_replicate hu]; rfl
  have i2 : Inv ((G.addBox bm).addBox bt) ((m.push (List.replicate c (.v (.int .i32 0)))).push (List.replicate c (.v (.bool false)))) w' := by
    refine hI.addNew hb i1 rfl rfl rfl rfl bt g2 (fun id k hk => ?_) _ (List.replicate c (.bool false)) 4 (by rw [ht, made_rep]) (by simp) (fun j h1 h2 => ?_) (fun u hu => ?_)
    · rw [M.get_push] at hk
      simp only [Ghost.addBox, hnb]
      split
      · exact n1
      · rename_i hne
        rw [if_neg hne] at hk
        have := hI.blt hk
        omega
    · simp only [List.getElem_replicate]; exact .v rfl
    · rw [List.eq_of_mem_replicate hu]; rfl
  have hE1 : Ext G w ((G.addBox bm).addBox bt) w' := (hE0.trans (Ext.addBox _ _ _ _)).trans (Ext.addBox _ _ _ _)
  have hcm : c ≤ maxLen := by unfold maxLen; omega
  have i3 : Inv (((G.addBox bm).addBox bt).addBox bx) (((m.push (List.replicate c (.v (.int .i32 0)))).push (List.replicate c (.v (.bool false)))).push [a1, a2, .bs m.nb 0 c, .bs (m.nb + 1) 0 c]) w' := by
    refine hI.addNew hb i2 rfl rfl rfl rfl bx g3 (fun id k hk => ?_) _ [c1, c2, .slice (some ⟨bm, 0, none⟩) c c, .slice (some ⟨bt, 0, none⟩) c c] 62 hx (by simp) (fun j h1 h2 => ?_) (fun u hu => ?_)
    · rw [M.get_push, M.get_push] at hk
      simp only [Ghost.addBox, hnb, push_nb1] at hk ⊢
      split
      · exact n3
      · split
        · exact n2
        · rename_i h1 h2
          rw [if_neg h1, if_neg h2] at hk
          have := hI.blt hk
          omega
    · have hj : j < 4 := by simpa using h1
      match j, hj with
      | 0, _ => exact r1.mono hE1
      | 1, _ => exact r2.mono hE1
      | 2, _ =>
        have := Rep.bs (G := (G.addBox bm).addBox bt) (w := w') m.nb 0 c c (by simp only [Ghost.addBox]; omega) (by simp [Ghost.addBox, hnb]) (Nat.le_refl _) hcm
        simpa [Ghost.addBox, hnb] using this
      | 3, _ =>
        have := Rep.bs (G := (G.addBox bm).addBox bt) (w := w') (m.nb + 1) 0 c c (by simp only [Ghost.addBox]; omega) (by simp [Ghost.addBox, hnb]) (Nat.le_refl _) hcm
        simpa [Ghost.addBox, hnb] using this
    · simp only [List.mem_cons, List.not_mem_nil, or_false] at hu
      rcases hu with rfl | rfl | rfl | rfl
      · exact o1
      · exact o2
      · rfl
      · rfl
  refine .inl ⟨_, _, _, _, rfl, ⟨rfl, rfl⟩, ?_, i3, hE1.trans (Ext.addBox _ _ _ _)⟩
  refine .tp _ [.pointer (some ⟨bx, 0, none⟩), .int .i64 0] rfl (fun j h1 h2 => ?_)
  have hj : j < 2 := by simpa using h1
  match j, hj with
  | 0, _ =>
    have := Rep.bp (G := ((G.addBox bm).addBox bt).addBox bx) (w := w') (m.nb + 2) 0 (by simp only [Ghost.addBox]; omega) (by simp [Ghost.addBox, hnb])
    simpa [Ghost.addBox, hnb] using this
  | 1, _ => exact .v rfl
end Go.Proofs.YtepjjgnkhcjpcaaDoor
