/-
  A run from a given state, cut back: a contract.
-/
import Derived.Test.YtmcajiccepgagaaAbClo
set_option linter.unusedVariables false
set_option linter.unusedSimpArgs false
namespace Go.Proofs.Ytmcajiccepgagaa
open Go Go.RowKit

theorem ACalls.leave {P : Program} {g : FuncId} {args : List PV} {m : M} {R R2 : PV → M → Prop} (h : ACalls P g args m R) (hl : ∀ v m', R v m' → ∃ v2 m2, Leave m m' v v2 m2 ∧ R2 v2 m2) : ACalls P g args m R2 := by
  refine ⟨h.1, fun G w vs hI hlen hr => (h.2 G w vs hI hlen hr).mono ?_⟩
  rintro e w' (⟨y, v', m', G', rfl, hR, h3, h4, h5⟩ | ⟨_, _, _, _, _, hz, _⟩)
  · obtain ⟨v2, m2, hv, hR2⟩ := hl _ _ hR
    obtain ⟨G2, g1, g2, g3⟩ := hv.sound hI h5 h4 h3
    exact .inl ⟨y, v2, m2, G2, rfl, hR2, g1, g2, g3⟩
  · exact hz.elim
def M.allIn (m : M) : Bool := m.boxes.all fun b => match b with | some c => PV.withins m.nb m.nt c | none => true
/-- All that is made is handed back. -/
theorem leave_made {m : M} {v : PV} {R : PV → M → Prop} (ha : m.allIn = true) (hv : v.within m.nb m.nt = true) (hR : R v m) : ∃ v' m', Leave M0 m v v' m' ∧ R v' m' :=
  ⟨v, m, .gen _ _ _ (.inl rfl) (Nat.zero_le _) (Nat.zero_le _) (by unfold M.nb; rw [List.take_length]) (by unfold M.nt; rw [List.take_length]) (fun id c hid => .inr (by
    have := List.all_eq_true.1 ha (some c) (by
      unfold M.get at hid
      simp only [Option.join_eq_some_iff] at hid
      exact List.mem_of_getElem? hid)
    exact this)) hv, hR⟩
/-- What a run answers, settled, and its state's first n boxes. -/
def eCutV (P : Program) (mus : FuncId → List Nat) (hook : CallR) (k : Nat) (g : FuncId) (xs : List PV) (m : M) (n : Nat) : Option (PV × M) := match eCallD P mus hook k g xs m with
  | some (.val v m' _) => if decide (m.nb ≤ (⟨m'.boxes.take n, m'.toks.take m.nt⟩ : M).nb) && decide (m.nt ≤ (⟨m'.boxes.take n, m'.toks.take m.nt⟩ : M).nt) && (⟨m'.boxes.take n, m'.toks.take m.nt⟩ : M).allIn && v.settle.within (⟨m'.boxes.take n, m'.toks.take m.nt⟩ : M).nb (⟨m'.boxes.take n, m'.toks.take m.nt⟩ : M).nt
    then some (v.settle, ⟨m'.boxes.take n, m'.toks.take m.nt⟩) else none
  | _ => none
theorem ACalls.ranV {P : Program} {mus : FuncId → List Nat} {hook : CallR} {k : Nat} {g : FuncId} {xs : List PV} {m : M} {n : Nat} {q : PV × M} (hmix : P.follows .mixedOrders = true) (hh : CallOk P hook)
    (h : eCutV P mus hook k g xs m n = some q) : ACalls P g xs m (fun v m' => v = q.1 ∧ m' = q.2) := by
  unfold eCutV at h
  split at h
  · rename_i v m' ws he
    split at h
    · rename_i hc
      cases h
      simp only [Bool.and_eq_true, decide_eq_true_eq] at hc
      obtain ⟨⟨⟨c1, c2⟩, c3⟩, c4⟩ := hc
      have hrun := (ER.grants_val (eCallD_sound (mus := mus) hmix hh k _ _ _ _ he)).1
      refine ACalls.leave (ACallsZ.mono hrun (fun v2 m2 q => q) (fun _ _ h => h)) fun v2 m2 hq => ?_
      obtain ⟨rfl, rfl⟩ := hq
      refine ⟨_, _, .gen _ _ _ (.inr rfl) c1 c2 ?_ ?_ (fun id c hid => .inr ?_) c4, rfl, rfl⟩
      · simp only [M.nb, List.length_take]
        rw [List.take_eq_take_iff]
        omega
      · simp only [M.nt, List.length_take]
        rw [List.take_eq_take_iff]
        omega
      · have := List.all_eq_true.1 c3 (some c) (by
          unfold M.get at hid
          simp only [Option.join_eq_some_iff] at hid
          exact List.mem_of_getElem? hid)
        exact this
    · cases h
  · cases h
end Go.Proofs.Ytmcajiccepgagaa
