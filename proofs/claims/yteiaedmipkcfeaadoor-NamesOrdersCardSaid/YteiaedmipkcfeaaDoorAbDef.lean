/-
  A function that defers one closure ahead of its work: what the closure does where the work is done, and where it panics.
-/
import Derived.Test.YteiaedmipkcfeaaDoorAbFn
import Derived.Defers
import Derived.Recover
set_option linter.unusedVariables false
set_option linter.unusedSimpArgs false
namespace Go.Proofs.YteiaedmipkcfeaaDoor
open Go Go.RowKit

/-- What a frame holds as it is entered. -/
theorem enter_fr {G : Ghost} {w : World} {args : List PV} {vs : List Value} {k : Nat} (hl : args.length = vs.length) (hr : ∀ j (h1 : j < args.length) (h2 : j < vs.length), Rep G w args[j] vs[j]) : FR G w (F.args args) (vs.toArray ++ Array.replicate (k - vs.toArray.size) undef) := by
  intro t
  have e : ((vs.toArray ++ Array.replicate (k - vs.toArray.size) undef).getD t undef) = vs.getD t undef := by
    by_cases ht : t < vs.length
    · simp [List.getD, Array.getElem?_append, ht]
    · simp only [List.getD, Array.getD_eq_getD_getElem?, Array.getElem?_append, List.size_toArray, ht, if_false, List.getElem?_eq_none (Nat.le_of_not_lt ht)]
      simp only [Array.getElem?_replicate]
      split <;> rfl
  simp only [e, F.args]
  by_cases ht : t < args.length
  · have := hr t ht (hl ▸ ht)
    simpa [List.getD, ht, hl ▸ ht] using this
  · simp only [List.getD, List.getElem?_eq_none (Nat.le_of_not_lt ht), List.getElem?_eq_none (Nat.le_of_not_lt (hl ▸ ht)), Option.getD_none]
    exact .tp [] [] rfl (fun j h => by simp at h)
/-- What is handed back. -/
theorem res_fin {P : Program} {fn : Func} {tmps : Array Value} {f : F} {m m' : M} {G G' : Ghost} {w w' : World} {R : PV → M → Prop} (hI : Inv G m w) (hE : Ext G w G' w') (hI' : Inv G' m' w') (hF : FR G' w' f tmps)
    (ha : aRes P f m' fn.results.toList (fun vs => ∃ v' m'', Leave m m' (pack vs) v' m'' ∧ R v' m'')) : ∃ y, (results fn tmps).run P w' = .ok y w' ∧ ∃ v m'' G'', R v m'' ∧ Rep G'' w' v y ∧ Inv G'' m'' w' ∧ Ext G w G'' w' := by
  obtain ⟨us, ys, ⟨v', m'', hlv, hR⟩, h2, h3, h4⟩ := aRes_sound hI' hF _ ha
  have hpk : ∃ y, Rep G' w' (pack us) y ∧ (results fn tmps).run P w' = .ok y w' := by
    have e : (fn.results.mapM (resF tmps)).run P w' = .ok ys.toArray w' := by
      rw [Array.mapM_eq_mapM_toList, ← bind_pure_comp, Sem.run_bind, h4]
      rfl
    by_cases h1 : ys.length = 1
    · obtain ⟨y, rfl⟩ := List.length_eq_one_iff.1 h1
      obtain ⟨u, rfl⟩ := List.length_eq_one_iff.1 (h2.trans h1)
      refine ⟨y, by simpa [pack] using h3 0 (by simp) (by simp), ?_⟩
      rw [results_run, e]
      rfl
    · refine ⟨.tuple ys.toArray, ?_, ?_⟩
      · have : pack us = .tp us := by
          cases us with
          | nil => rfl
          | cons u us =>
            cases us with
            | nil => simp at h2; omega
            | cons u' us => rfl
        rw [this]
        exact .tp us ys h2 h3
      · rw [results_run, e]
        simp only [Result.andThen_ok, List.size_toArray, h1, dite_false]
  obtain ⟨y, hy1, hy2⟩ := hpk
  obtain ⟨G'', g1, g2, g3⟩ := hlv.sound hI hE hI' hy1
  exact ⟨y, hy2, v', m'', G'', hR, g1, g2, g3⟩

/-- A closure that is run as its frame returns; as its frame panics with a value, and takes that up. -/
def DRet (P : Program) (h : FuncId) (args : List PV) (m : M) (Q : M → Prop) : Prop := ∀ (G : Ghost) (w : World) (vs : List Value), Inv G m w → args.length = vs.length → (∀ j (h1 : j < args.length) (h2 : j < vs.length), Rep G w args[j] vs[j]) →
  CallsD P h vs.toArray .returning w fun e u' w' => e = .returned (.tuple #[]) ∧ u' = .returning ∧ ∃ m' G', Q m' ∧ Inv G' m' w' ∧ Ext G w G' w'
def DPan (P : Program) (h : FuncId) (args : List PV) (v : PV) (m : M) (Q : M → Prop) : Prop := ∀ (G : Ghost) (w : World) (vs : List Value) (y : Value), Inv G m w → args.length = vs.length → (∀ j (h1 : j < args.length) (h2 : j < vs.length), Rep G w args[j] vs[j]) → Rep G w v y →
  CallsD P h vs.toArray (.panicking [{ v := y, recovered := false }]) w fun e u' w' => e = .returned (.tuple #[]) ∧ u' = .panicking [{ v := y, recovered := true }] ∧ ∃ m' G', Q m' ∧ Inv G' m' w' ∧ Ext G w G' w'

/-- Some slots of a frame are known. -/
def F.only (ks : List Nat) (g : F) : F := fun t => if t ∈ ks then g t else .junk
end Go.Proofs.YteiaedmipkcfeaaDoor
