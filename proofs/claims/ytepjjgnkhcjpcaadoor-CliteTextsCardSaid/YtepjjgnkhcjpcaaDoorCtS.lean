/-
  strconv.Itoa as a contract without addresses.
-/
import Derived.Test.YtepjjgnkhcjpcaaDoorShelf
import Derived.Test.YtepjjgnkhcjpcaaDoorCtI
import Derived.Test.YtepjjgnkhcjpcaaDoorAbToks
set_option linter.unusedVariables false
set_option linter.unusedSimpArgs false
namespace Go.Proofs.YtepjjgnkhcjpcaaDoor
open Go Go.RowKit

/-- A world that has grown: all that is new is settled. -/
def Ghost.grow (G : Ghost) (a b : Nat) : Ghost := { G with set := fun k o => G.set k o ∨ (a ≤ k ∧ k < b) }
theorem Inv.grown {G : Ghost} {m : M} {w w' : World} (hI : Inv G m w) (hb : Below w.heap.size w w') : Inv (G.grow w.heap.size w'.heap.size) m w' ∧ Ext G w (G.grow w.heap.size w'.heap.size) w' := by
  have hE : Ext G w (G.grow w.heap.size w'.heap.size) w' := ⟨rfl, Nat.le_refl _, fun _ _ => rfl, fun _ _ => rfl, Nat.le_refl _, fun _ _ => rfl, fun _ _ h => .inl h, fun b o hs => hb.cell (p := ⟨b, o, none⟩) (hI.set b o hs), hb.mono hI.base⟩
  refine ⟨⟨hI.nb, hI.nt, Nat.le_trans hI.base hb.size, fun id c hc => ?_, fun id c hc o ho => ?_, hI.inj, fun t s ht => ?_, hI.tokd, fun b o hs => ?_, hI.layE hE⟩, hE⟩
  · obtain ⟨o, a1, a2, a5⟩ := hI.box id c hc
    exact ⟨o, (hb.block _ (hI.blt hc)).trans a1, a2.mono hE, a5⟩
  · rcases ho with ho | ⟨ho, _⟩
    · exact hI.boxset id c hc o ho
    · have := hI.blt hc
      have : G.box id < w.heap.size := this
      have h2 : w.heap.size ≤ G.box id := ho
      omega
  · obtain ⟨q0, q⟩ := hI.tok t s ht
    refine ⟨q0, fun b o hbo => ?_⟩
    obtain ⟨q1, q2, q3, q4, q5⟩ := q b o hbo
    have hlt : b < w.heap.size := by
      obtain ⟨u, hu⟩ := Option.isSome_iff_exists.1 q3
      exact World.block_lt_of_cell? w _ hu
    exact ⟨q1, fun hs => hs.elim q2 (fun h => by omega), by rw [hb.cell (p := ⟨b, o, none⟩) hlt]; exact q3, by rw [hb.frozen (p := ⟨b, o, none⟩) hlt]; exact q4, q5⟩
  · rcases hs with hs | ⟨_, hs⟩
    · exact Nat.lt_of_lt_of_le (hI.set b o hs) hb.size
    · exact hs
theorem below_gd (w : World) : ∀ (k : Nat) (os : Array Obj), Below w.heap.size w (Go.Sort.grow (w.drewN k) os) := fun k os =>
  ⟨rfl, rfl, rfl, by show w.heap.size ≤ (w.heap ++ os).size; simp, fun i hi => by show (w.heap ++ os)[i]? = w.heap[i]?; rw [Array.getElem?_append_left hi]⟩
theorem itoa_any (n : Int) (h0 : -9223372036854775808 ≤ n) (h1 : n ≤ 9223372036854775807) (m : M) : ACalls Tryd.prog 16 [.v (.int .i64 n)] m (fun v m' => v = .v (.string ⟨(Lib.itoa n).toArray⟩) ∧ m' = m) := by
  refine ⟨by kernel_rfl, fun G w vs hI hl hr => ?_⟩
  obtain ⟨v0, rfl⟩ : ∃ v0, vs = [v0] := by
    match vs, hl with
    | [v0], _ => exact ⟨v0, rfl⟩
  have h00 := hr 0 (by simp) (by simp)
  simp only [List.getElem_cons_zero] at h00
  have e0 : v0 = .int .i64 n := h00.atomEq
  subst e0
  obtain ⟨cs, t, f, e1, e2⟩ := (hI.lay (0, fun cs => cs = pow10V) (by simp [laidC])).1
  have htab : Lib.TabIs Tryd.prog w "internal/strconv.uint64pow10" .u64 Lib.pow10Tab := by
    unfold Lib.TabIs World.var?
    have hg : Tryd.prog.globalNamed "internal/strconv.uint64pow10" = some 0 := by kernel_rfl
    rw [hg]
    show (match w.heap[0]? with | some (.cells cs _ _) => some cs | _ => none) = _
    have e1' : w.heap[0]? = some (.cells cs t f) := e1
    rw [e1']
    have e2' : cs.toList = pow10V := e2
    show some cs = _
    congr 1
    rw [← Array.toArray_toList (xs := cs), e2']
    rfl
  refine (Go.Proofs.Tryd.strconv_Itoa n h0 h1 w htab).mono ?_
  rintro e w' ⟨rfl, k, os, rfl⟩
  obtain ⟨hI', hE⟩ := hI.grown (below_gd w k os)
  exact .inl ⟨_, _, m, _, rfl, ⟨rfl, rfl⟩, .v rfl, hI', hE⟩
end Go.Proofs.YtepjjgnkhcjpcaaDoor
