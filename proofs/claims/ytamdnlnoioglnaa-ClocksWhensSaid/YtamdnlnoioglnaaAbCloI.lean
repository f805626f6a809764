/-
  Runs from nothing, with letters in what is handed in: an error, or a truth and a place.
-/
import Derived.Test.YtamdnlnoioglnaaAbClo
set_option linter.unusedVariables false
set_option linter.unusedSimpArgs false
namespace Go.Proofs.Ytamdnlnoioglnaa
open Go Go.RowKit

theorem ACalls.closedG {P : Program} {g : FuncId} {xs : List PV} {Q : PV → Prop} {R : PV → M → Prop} (h : ACalls P g xs M0 (fun v2 _ => Q v2)) (hx : ∀ x ∈ xs, x.pure = true) (m : M) (hv : ∀ (x : PV) (G G' : Ghost) (w' : World) (y : Value), Q x → Rep G' w' x y → ∃ v, Rep G w' v y ∧ R v m) : ACalls P g xs m R := by
  refine ⟨h.1, fun G w vs hI hl hr => (h.2 (G0 w) w vs (inv0 w hI.layW) hl (fun j h1 h2 => (hr j h1 h2).pure_mono (fun b o hs => ?_) (fun _ _ _ => rfl) (hx _ (List.getElem_mem _)))).mono ?_⟩
  · refine .inl ?_
    rcases hs with hs | hs
    · exact Nat.lt_of_lt_of_le hs hI.base
    · exact hI.set b o hs
  rintro e w' (⟨y, v', m', G', rfl, hQ, h3, h4, h5⟩ | ⟨_, _, _, _, _, hz, _⟩)
  · have hb : Below w.heap.size w w' := h5.below
    have hE : Ext G w G w' := ⟨rfl, Nat.le_refl _, fun _ _ => rfl, fun _ _ => rfl, Nat.le_refl _, fun _ _ => rfl, fun _ _ h => h, fun b o hs => hb.cell (p := ⟨b, o, none⟩) (hI.set b o hs), hb.mono hI.base⟩
    obtain ⟨v, hv1, hv2⟩ := hv _ G G' w' y hQ h3
    refine .inl ⟨y, v, m, G, rfl, hv2, hv1, ?_, hE⟩
    refine ⟨hI.nb, hI.nt, Nat.le_trans hI.base hb.size, fun id c hc => ?_, hI.boxset, hI.inj, fun t s ht => ?_, hI.tokd, fun b o hs => Nat.lt_of_lt_of_le (hI.set b o hs) hb.size, hI.layE hE⟩
    · obtain ⟨o, a1, a2, a5⟩ := hI.box id c hc
      exact ⟨o, (hb.block _ (hI.blt hc)).trans a1, a2.mono hE, a5⟩
    · obtain ⟨q0, q⟩ := hI.tok t s ht
      refine ⟨q0, fun b o hbo => ?_⟩
      obtain ⟨q1, q2, q3, q4, q5⟩ := q b o hbo
      have hlt : b < w.heap.size := by
        obtain ⟨u, hu⟩ := Option.isSome_iff_exists.1 q3
        exact World.block_lt_of_cell? w _ hu
      exact ⟨q1, q2, by rw [hb.cell (p := ⟨b, o, none⟩) hlt]; exact q3, by rw [hb.frozen (p := ⟨b, o, none⟩) hlt]; exact q4, q5⟩
  · exact hz.elim

/-- An error's type. -/
def eIfc (P : Program) (mus : FuncId → List Nat) (hook : CallR) (k : Nat) (g : FuncId) (xs : List PV) : Option TypeId := match eCallD P mus hook k g xs M0 with
  | some (.val (.ifc t _) _ _) => some t
  | _ => none
theorem ACalls.ranI {P : Program} {mus : FuncId → List Nat} {hook : CallR} {k : Nat} {g : FuncId} {xs : List PV} {t : TypeId} (hmix : P.follows .mixedOrders = true) (hh : CallOk P hook)
    (h : eIfc P mus hook k g xs = some t) (hx : ∀ x ∈ xs, x.pure = true) (m : M) : ACalls P g xs m (fun v m' => v = .ifc t .junk ∧ m' = m) := by
  unfold eIfc at h
  split at h
  · rename_i u z m' ws he
    cases h
    have := (ER.grants_val (eCallD_sound (mus := mus) hmix hh k _ _ _ _ he)).1
    refine ACalls.closedG (Q := fun v => v = .ifc t z) (ACallsZ.mono this (fun v2 m2 q => q.1) (fun _ _ h => h)) hx m (fun x G G' w' y hq hr => ?_)
    subst hq
    cases hr with
    | ifc _ _ u hu => exact ⟨_, .ifc t .junk u (.junk u), rfl, rfl⟩
  · cases h
/-- A truth and a place. -/
def eTpB (P : Program) (mus : FuncId → List Nat) (hook : CallR) (k : Nat) (g : FuncId) (xs : List PV) : Option Bool := match eCallD P mus hook k g xs M0 with
  | some (.val (.tp [.v (.bool b), .ag [.v (.int .i64 _), .v (.int .i64 _)]]) _ _) => some b
  | _ => none
theorem ACalls.ranB {P : Program} {mus : FuncId → List Nat} {hook : CallR} {k : Nat} {g : FuncId} {xs : List PV} {b : Bool} (hmix : P.follows .mixedOrders = true) (hh : CallOk P hook)
    (h : eTpB P mus hook k g xs = some b) (hx : ∀ x ∈ xs, x.pure = true) (m : M) : ACalls P g xs m (fun v m' => ∃ l c, v = .tp [.v (.bool b), .ag [.v (.int .i64 l), .v (.int .i64 c)]] ∧ m' = m) := by
  unfold eTpB at h
  split at h
  · rename_i b' l c m' ws he
    cases h
    have := (ER.grants_val (eCallD_sound (mus := mus) hmix hh k _ _ _ _ he)).1
    refine ACalls.closedG (Q := fun v => v = .tp [.v (.bool b), .ag [.v (.int .i64 l), .v (.int .i64 c)]]) (ACallsZ.mono this (fun v2 m2 q => q.1) (fun _ _ h => h)) hx m (fun x G G' w' y hq hr => ?_)
    subst hq
    refine ⟨.tp [.v (.bool b), .ag [.v (.int .i64 l), .v (.int .i64 c)]], ?_, l, c, rfl, rfl⟩
    cases hr with
    | tp _ cs hl hcs => exact .tp _ cs hl (fun j q1 q2 => (hcs j q1 q2).flat (by
        match j, q1 with
        | 0, _ => rfl
        | 1, _ => rfl))
  · cases h
end Go.Proofs.Ytamdnlnoioglnaa
