/-
  Texts that belong together: AbClo, AbLv.
-/
import Derived.Test.YteiaedmipkcfeaaDoorAbTail
/-
  A call on values without boxes that answers, from nothing, a value without an address answers it from anything.
-/
set_option linter.unusedVariables false
set_option linter.unusedSimpArgs false
namespace Go.Proofs.YteiaedmipkcfeaaDoor
open Go Go.RowKit

def PV.flat : PV → Bool
  | .v _ => true
  | .ag xs => xs.all PV.isV
  | .tp xs => xs.all PV.isV
  | _ => false
theorem Rep.isV {G G' : Ghost} {w w' : World} {x : PV} {y : Value} (h : Rep G w x y) (hf : x.isV = true) : Rep G' w' x y := by
  cases h with
  | v h => exact .v h
  | _ => simp [PV.isV] at hf
theorem Rep.flat {G G' : Ghost} {w w' : World} {x : PV} {y : Value} (h : Rep G w x y) (hf : x.flat = true) : Rep G' w' x y := by
  cases h with
  | v h => exact .v h
  | ag xs cs hl h h1 => exact .ag xs cs hl (fun j a b => (h j a b).isV (List.all_eq_true.1 hf _ (List.getElem_mem _))) h1
  | tp xs cs hl h => exact .tp xs cs hl (fun j a b => (h j a b).isV (List.all_eq_true.1 hf _ (List.getElem_mem _)))
  | _ => simp [PV.flat] at hf
theorem ACalls.closedP {P : Program} {g : FuncId} {xs : List PV} {x : PV} {R : PV → M → Prop} (h : ACalls P g xs M0 (fun v2 _ => v2 = x)) (hx : ∀ x ∈ xs, x.pure = true) (hv : x.flat = true) (m : M) (hR : R x m) : ACalls P g xs m R := by
  refine ⟨h.1, fun G w vs hI hl hr => (h.2 (G0 w) w vs (inv0 w hI.layW) hl (fun j h1 h2 => (hr j h1 h2).pure_mono (fun b o hs => ?_) (fun _ _ _ => rfl) (hx _ (List.getElem_mem _)))).mono ?_⟩
  · refine .inl ?_
    rcases hs with hs | hs
    · exact Nat.lt_of_lt_of_le hs hI.base
    · exact hI.set b o hs
  rintro e w' (⟨y, v', m', G', rfl, rfl, h3, h4, h5⟩ | ⟨_, _, _, _, _, hz, _⟩)
  · have hb : Below w.heap.size w w' := h5.below
    have hE : Ext G w G w' := ⟨rfl, Nat.le_refl _, fun _ _ => rfl, fun _ _ => rfl, Nat.le_refl _, fun _ _ => rfl, fun _ _ h => h, fun b o hs => hb.cell (p := ⟨b, o, none⟩) (hI.set b o hs), hb.mono hI.base⟩
    refine .inl ⟨y, _, m, G, rfl, hR, h3.flat hv, ?_, hE⟩
    refine ⟨hI.nb, hI.nt, Nat.le_trans hI.base hb.size, fun id c hc => ?_, hI.boxset, hI.inj, fun t s ht => ?_, hI.tokd, fun b o hs => Nat.lt_of_lt_of_le (hI.set b o hs) hb.size, hI.layE hE⟩
    · obtain ⟨o, a1, a2, a5⟩ := hI.box id c hc
      exact ⟨o, (hb.block _ (hI.blt hc)).trans a1, a2.mono hE, a5⟩
    · obtain ⟨q0, q⟩ := hI.tok t s ht
      refine ⟨q0, fun b o hbo => ?_⟩
      obtain ⟨q1, q2, q3, q4, q5⟩ := q b o hbo
      have hlt : b < w.heap.size := by
        obtain ⟨u, hu⟩ := Option.isSome_iff_exists.1 q3
        exact World.block_lt_of_cell? w _ hu
      exact ⟨q1, q2, by rw [hb.cell (p := ⟨b, o, none⟩) hlt]; exact q3, by rw [hb.frozen (p := ⟨b, o, none⟩) hlt]; exact q4, q5⟩
  · exact hz.elim
/-- What a run from nothing answers. -/
def eIs (P : Program) (mus : FuncId → List Nat) (hook : CallR) (k : Nat) (g : FuncId) (xs : List PV) : Option PV := match eCallD P mus hook k g xs M0 with
  | some (.val v _ _) => some v
  | _ => none
theorem ACalls.ranP {P : Program} {mus : FuncId → List Nat} {hook : CallR} {k : Nat} {g : FuncId} {xs : List PV} {x : PV} {R : PV → M → Prop} (hmix : P.follows .mixedOrders = true) (hh : CallOk P hook)
    (h : eIs P mus hook k g xs = some x) (hx : ∀ x ∈ xs, x.pure = true) (hv : x.flat = true) (m : M) (hR : R x m) : ACalls P g xs m R := by
  unfold eIs at h
  split at h
  · rename_i v m' ws he
    cases h
    have := (ER.grants_val (eCallD_sound (mus := mus) hmix hh k _ _ _ _ he)).1
    exact ACalls.closedP (ACallsZ.mono this (fun v2 m2 q => q.1) (fun _ _ h => h)) hx hv m hR
  · cases h
end Go.Proofs.YteiaedmipkcfeaaDoor

/-
  A run from a given state, cut back: a contract.
-/
set_option linter.unusedVariables false
set_option linter.unusedSimpArgs false
namespace Go.Proofs.YteiaedmipkcfeaaDoor
open Go Go.RowKit

theorem ACalls.leave {P : Program} {g : FuncId} {args : List PV} {m : M} {R R2 : PV → M → Prop} (h : ACalls P g args m R) (hl : ∀ v m', R v m' → ∃ v2 m2, Leave m m' v v2 m2 ∧ R2 v2 m2) : ACalls P g args m R2 := by
  refine ⟨h.1, fun G w vs hI hlen hr => (h.2 G w vs hI hlen hr).mono ?_⟩
  rintro e w' (⟨y, v', m', G', rfl, hR, h3, h4, h5⟩ | ⟨_, _, _, _, _, hz, _⟩)
  · obtain ⟨v2, m2, hv, hR2⟩ := hl _ _ hR
    obtain ⟨G2, g1, g2, g3⟩ := hv.sound hI h5 h4 h3
    exact .inl ⟨y, v2, m2, G2, rfl, hR2, g1, g2, g3⟩
  · exact hz.elim
def M.allIn (m : M) : Bool := m.boxes.all fun b => match b with | some c => PV.withins m.nb m.nt c | none => true
/-- All that is made is handed back. -/
theorem leave_made {m : M} {v : PV} {R : PV → M → Prop} (ha : m.allIn = true) (hv : v.within m.nb m.nt = true) (hR : R v m) : ∃ v' m', Leave M0 m v v' m' ∧ R v' m' :=
  ⟨v, m, .gen _ _ _ (.inl rfl) (Nat.zero_le _) (Nat.zero_le _) (by unfold M.nb; rw [List.take_length]) (by unfold M.nt; rw [List.take_length]) (fun id c hid => .inr (by
    have := List.all_eq_true.1 ha (some c) (by
      unfold M.get at hid
      simp only [Option.join_eq_some_iff] at hid
      exact List.mem_of_getElem? hid)
    exact this)) hv, hR⟩
/-- What a run answers, settled, and its state's first n boxes. -/
def eCutV (P : Program) (mus : FuncId → List Nat) (hook : CallR) (k : Nat) (g : FuncId) (xs : List PV) (m : M) (n : Nat) : Option (PV × M) := match eCallD P mus hook k g xs m with
  | some (.val v m' _) => if decide (m.nb ≤ (⟨m'.boxes.take n, m'.toks.take m.nt⟩ : M).nb) && decide (m.nt ≤ (⟨m'.boxes.take n, m'.toks.take m.nt⟩ : M).nt) && (⟨m'.boxes.take n, m'.toks.take m.nt⟩ : M).allIn && v.settle.within (⟨m'.boxes.take n, m'.toks.take m.nt⟩ : M).nb (⟨m'.boxes.take n, m'.toks.take m.nt⟩ : M).nt
    then some (v.settle, ⟨m'.boxes.take n, m'.toks.take m.nt⟩) else none
  | _ => none
theorem ACalls.ranV {P : Program} {mus : FuncId → List Nat} {hook : CallR} {k : Nat} {g : FuncId} {xs : List PV} {m : M} {n : Nat} {q : PV × M} (hmix : P.follows .mixedOrders = true) (hh : CallOk P hook)
    (h : eCutV P mus hook k g xs m n = some q) : ACalls P g xs m (fun v m' => v = q.1 ∧ m' = q.2) := by
  unfold eCutV at h
  split at h
  · rename_i v m' ws he
    split at h
    · rename_i hc
      cases h
      simp only [Bool.and_eq_true, decide_eq_true_eq] at hc
      obtain ⟨⟨⟨c1, c2⟩, c3⟩, c4⟩ := hc
      have hrun := (ER.grants_val (eCallD_sound (mus := mus) hmix hh k _ _ _ _ he)).1
      refine ACalls.leave (ACallsZ.mono hrun (fun v2 m2 q => q) (fun _ _ h => h)) fun v2 m2 hq => ?_
      obtain ⟨rfl, rfl⟩ := hq
      refine ⟨_, _, .gen _ _ _ (.inr rfl) c1 c2 ?_ ?_ (fun id c hid => .inr ?_) c4, rfl, rfl⟩
      · simp only [M.nb, List.length_take]
        rw [List.take_eq_take_iff]
        omega
      · simp only [M.nt, List.length_take]
        rw [List.take_eq_take_iff]
        omega
      · have := List.all_eq_true.1 c3 (some c) (by
          unfold M.get at hid
          simp only [Option.join_eq_some_iff] at hid
          exact List.mem_of_getElem? hid)
        exact this
    · cases h
  · cases h
end Go.Proofs.YteiaedmipkcfeaaDoor
