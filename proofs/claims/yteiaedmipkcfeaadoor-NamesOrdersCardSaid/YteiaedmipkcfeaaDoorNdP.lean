/-
  The nodes that the law makes.
-/
import Derived.Test.YteiaedmipkcfeaaDoorNdK
import Derived.Test.YteiaedmipkcfeaaDoorPlA
set_option linter.unusedVariables false
set_option linter.unusedSimpArgs false
namespace Go.Proofs.YteiaedmipkcfeaaDoor
open Go
-- EXX: Qu.settle_pv, Qu.pure_pv, Qu.cells_pv, Qu.cs, No.settle_pv, No.pure_pv, No.cells_pv, No.cs, No.pv.eq_1
set_option maxRecDepth 20000
-- TNAMES: int; uint8; int32; string; bool; []uint8; []string; []api.Expr; api.Expr; api.Pos; api.Type; api.On; []api.On; api.Var; []api.Var; api.Equation; []api.Equation; api.Block; api.Trans; []api.Trans; api.Arm; []api.Arm; api.Node; []api.Node; api.Enum; []api.Enum; api.Program
-- BUNDLE

abbrev qU (i : Int) : PV := .v (.int .u8 i)
/-- The name of a node. -/
def nmD (i : Nat) : Str := (⟨#[102]⟩ : Str) ++ strOf [((48 + i : Nat) : Int)]
def SD (k : Nat) : List Str := (List.range k).map nmD
theorem nmD_inj : ∀ i, i < 8 → ∀ j, j < 8 → nmD i = nmD j → i = j := by decide +kernel
theorem SD_mem {k j : Nat} (h : j < k) : nmD j ∈ SD k := List.mem_map.2 ⟨j, List.mem_range.2 h, rfl⟩
def zX : Ex := .mk 0 0 0 ⟨#[]⟩ [] [] 0 0
/-- A call, before it has its place. -/
def rawQ (j : Nat) : Qu := .mk 2 [] (nmD j) [] false zX [] 0 0
/-- A node that the law makes, before it has its place. -/
def RawN (k i : Nat) (n : No) : Prop := n.name = nmD i ∧ n.ins = [] ∧ n.outs = [] ∧ n.b.vars = [] ∧ n.b.eqs.length ≤ 30 ∧ ∀ q ∈ n.b.eqs, ∃ j, j < k ∧ q = rawQ j
/-- A node with its place. -/
def PlcN (k i : Nat) (n : No) : Prop := n.name = nmD i ∧ FlatN n ∧ n.b.eqs.length ≤ 30 ∧ ∀ q ∈ n.b.eqs, ∃ j, j < k ∧ q.name = nmD j
theorem plQs_raw (k : Nat) : ∀ (l : List Qu) (c : Int), (∀ q ∈ l, ∃ j, j < k ∧ q = rawQ j) → ∀ q ∈ (plQs l c).1, FlatQ q ∧ ∃ j, j < k ∧ q.name = nmD j
  | [], c, _, q, hq => by simp [plQs] at hq
  | a :: l, c, h, q, hq => by
    have e : (plQs (a :: l) c).1 = (plQ a c).1 :: (plQs l (plQ a c).2).1 := rfl
    rw [e] at hq
    rcases List.mem_cons.1 hq with rfl | hq
    · obtain ⟨j, hj, rfl⟩ := h a (List.mem_cons_self ..)
      exact ⟨⟨rfl, rfl, rfl, rfl, rfl⟩, j, hj, rfl⟩
    · exact plQs_raw k l _ (fun q hq => h q (List.mem_cons_of_mem _ hq)) q hq
theorem plN_raw {k i : Nat} {n : No} (h : RawN k i n) (c : Int) : PlcN k i (plN n c).1 := by
  obtain ⟨h1, h2, h3, h4, h6, h5⟩ := h
  unfold plN
  rw [h1, h2, h3, h4]
  exact ⟨rfl, ⟨rfl, rfl, rfl, fun q hq => (plQs_raw k _ _ h5 q hq).1⟩, by rw [plQs_len]; exact h6, fun q hq => (plQs_raw k _ _ h5 q hq).2⟩
theorem plNs_at : ∀ (l : List No) (c : Int) (i : Nat) (h : i < l.length) (h2 : i < (plNs l c).1.length), ∃ d, (plNs l c).1[i] = (plN l[i] d).1
  | [], c, i, h, _ => by simp at h
  | a :: l, c, 0, h, _ => ⟨c, rfl⟩
  | a :: l, c, i + 1, h, h2 => plNs_at l (plN a c).2 i (by simpa using h) (by simpa [plNs] using h2)
/-- Where the nodes are named in order, a name is found at its place. -/
theorem idx_named {k : Nat} {ns : List No} (hk : ns.length = k) (h8 : k ≤ 8) (h : ∀ i (hi : i < ns.length), ns[i].name = nmD i) (i : Nat) (hi : i < k) : idxF (fun n : No => eqS n.name (nmD i)) ns 0 = (i : Int) := by
  rcases idxF_at (p := fun n : No => eqS n.name (nmD i)) ns 0 with ⟨_, h2⟩ | ⟨j, hj, h1, h2, _⟩
  · have := h2 ns[i] (List.getElem_mem (by omega))
    rw [h i (by omega)] at this
    simp [eqS] at this
  · rw [h1]
    have h3 := eqS_iff.1 h2
    rw [h j hj] at h3
    have := nmD_inj j (by omega) i (by omega) h3
    omega
theorem placed_ok {k : Nat} {l : List No} (hk : l.length = k) (h8 : k ≤ 8) (h : ∀ i (hi : i < l.length), RawN k i l[i]) (c : Int) : DOk (SD k) (plNs l c).1 := by
  have hlen := plNs_len l c
  have hp : ∀ i (hi : i < (plNs l c).1.length), PlcN k i (plNs l c).1[i] := fun i hi => by
    obtain ⟨d, hd⟩ := plNs_at l c i (by omega) hi
    rw [hd]
    exact plN_raw (h i (by omega)) d
  have hp2 : ∀ n ∈ (plNs l c).1, ∃ i, i < k ∧ PlcN k i n := fun n hn => by
    obtain ⟨i, hi, rfl⟩ := List.getElem_of_mem hn
    exact ⟨i, by omega, hp i hi⟩
  have hnm : ∀ i (hi : i < (plNs l c).1.length), ((plNs l c).1[i]).name = nmD i := fun i hi => (hp i hi).1
  refine ⟨by omega, by unfold SD; simp; omega, fun n hn => ?_, fun n hn q hq => ?_, fun n hn => ?_, fun n hn q hq => ?_, fun i hi => ?_⟩
  · obtain ⟨i, _, h⟩ := hp2 n hn; exact h.2.1
  · obtain ⟨i, _, h⟩ := hp2 n hn
    obtain ⟨j, hj, he⟩ := h.2.2.2 q hq
    rw [he]
    exact ⟨j, by omega, idx_named (by omega) h8 hnm j hj⟩
  · obtain ⟨i, _, h⟩ := hp2 n hn
    have := h.2.2.1; omega
  · obtain ⟨i, _, h⟩ := hp2 n hn
    obtain ⟨j, hj, he⟩ := h.2.2.2 q hq
    exact ⟨(h.2.1.2.2.2 q hq).arms, fun _ => by rw [he]; exact SD_mem hj⟩
  · rw [hnm i hi]
    exact idx_named (by omega) h8 hnm i (by omega)
end Go.Proofs.YteiaedmipkcfeaaDoor
