/-
  Which variables may have no value at first: passes over a list of names.
-/
import Derived.Test.YtfemdelaciccmaaAbPr
set_option linter.unusedVariables false
set_option linter.unusedSimpArgs false
namespace Go.Proofs.Ytfemdelaciccmaa
open Go

/-- Is a name there? -/
def hasN (l : List Str) (s : Str) : Bool := l.any fun a => eqS a s
theorem hasN_iff (l : List Str) (s : Str) : hasN l s = true ↔ s ∈ l := by
  unfold hasN
  rw [List.any_eq_true]
  constructor
  · rintro ⟨a, ha, h⟩; rw [eqS_iff] at h; exact h ▸ ha
  · intro h; exact ⟨s, h, eqS_iff.2 rfl⟩
theorem hasN_app (l : List Str) (a s : Str) : hasN (l ++ [a]) s = (hasN l s || eqS a s) := by unfold hasN; simp
mutual
def mayB (L : Str → Bool) : Ex → Bool
  | .mk k _ _ nm _ ks _ _ => if k = 4 then L nm else if k = 10 then true else if k = 9 ∨ k = 11 then mayH L ks else mays L ks
def mayH (L : Str → Bool) : List Ex → Bool
  | [] => false
  | a :: _ => mayB L a
def mays (L : Str → Bool) : List Ex → Bool
  | [] => false
  | e :: l => mayB L e || mays L l
end
theorem mays_any (L : Str → Bool) : ∀ l : List Ex, mays L l = l.any (mayB L)
  | [] => by rw [mays]; rfl
  | a :: l => by rw [mays, mays_any L l]; rfl
theorem mayB_eq (L : Str → Bool) (e : Ex) : mayB L e = if e.kind = 4 then L e.name else if e.kind = 10 then true else if e.kind = 9 ∨ e.kind = 11 then mayH L e.kids else e.kids.any (mayB L) := by
  cases e
  rw [mayB, mays_any]
  rfl
/-- What is late: of what is about, and of the block's own. -/
def lkA (A : Str → Bool) (late : List Str) (s : Str) : Bool := A s || hasN late s
/-- What an equation defines first. -/
def Qu.x (q : Qu) : Str := q.lhs.headD ⟨#[]⟩
/-- Is an equation's variable late from now on? -/
def turns (A : Str → Bool) (names late : List Str) (q : Qu) : Bool := (q.kind == 1) && (hasN names q.x && !hasN late q.x && mayB (lkA A late) q.e)
/-- A look through the equations. -/
def pass (A : Str → Bool) (names : List Str) : List Qu → List Str → Bool → List Str × Bool
  | [], late, ag => (late, ag)
  | q :: l, late, ag => if turns A names late q = true then pass A names l (late ++ [q.x]) true else pass A names l late ag
def fixL (A : Str → Bool) (names : List Str) (eqs : List Qu) : Nat → List Str → List Str
  | 0, late => late
  | k + 1, late => if (pass A names eqs late false).2 = true then fixL A names eqs k (pass A names eqs late false).1 else (pass A names eqs late false).1
/-- What stands: each once, and among the names. -/
structure LateOk (names late : List Str) : Prop where
  nd : late.Nodup
  sub : ∀ s ∈ late, s ∈ names
theorem nd_len {α : Type} [DecidableEq α] : ∀ (l m : List α), l.Nodup → (∀ s ∈ l, s ∈ m) → l.length ≤ m.length
  | [], m, _, _ => Nat.zero_le _
  | a :: l, m, h, hs => by
    rw [List.nodup_cons] at h
    have ha := hs a (List.mem_cons_self ..)
    have := nd_len l (m.erase a) h.2 (fun s hsl => by
      have h1 := hs s (List.mem_cons_of_mem _ hsl)
      have hne : s ≠ a := fun e => h.1 (e ▸ hsl)
      exact (List.mem_erase_of_ne hne).2 h1)
    rw [List.length_erase_of_mem ha] at this
    have hp : 0 < m.length := List.length_pos_of_mem ha
    simp only [List.length_cons]
    omega
theorem LateOk.len {names late : List Str} (h : LateOk names late) : late.length ≤ names.length := nd_len late names h.nd h.sub
theorem pass_ok (A : Str → Bool) (names : List Str) : ∀ (l : List Qu) (late : List Str) (ag : Bool), LateOk names late → LateOk names (pass A names l late ag).1 ∧ late.length ≤ (pass A names l late ag).1.length ∧ (ag = false → (pass A names l late ag).2 = true → late.length + 1 ≤ (pass A names l late ag).1.length) ∧ (ag = true → (pass A names l late ag).2 = true) ∧ ((pass A names l late false).2 = false → (pass A names l late false).1 = late)
  | [], late, ag, h => ⟨h, Nat.le_refl _, (fun h1 h2 => by subst h1; cases h2), (fun h1 => h1), (fun _ => rfl)⟩
  | q :: l, late, ag, h => by
    by_cases hc : turns A names late q = true
    · have e1 : ∀ ag, pass A names (q :: l) late ag = pass A names l (late ++ [q.x]) true := fun ag => by rw [pass, if_pos hc]
      rw [e1, e1]
      unfold turns at hc
      simp only [Bool.and_eq_true, Bool.not_eq_true'] at hc
      have h' : LateOk names (late ++ [q.x]) := by
        refine ⟨?_, fun s hs => ?_⟩
        · rw [List.nodup_append]
          refine ⟨h.nd, by simp, fun a ha b hb => ?_⟩
          rw [List.mem_singleton] at hb
          subst hb
          rintro rfl
          have := (hasN_iff late q.x).2 ha
          rw [hc.2.1.2] at this
          cases this
        · rcases List.mem_append.1 hs with hs | hs
          · exact h.sub s hs
          · rw [List.mem_singleton] at hs
            subst hs
            exact (hasN_iff names q.x).1 hc.2.1.1
      obtain ⟨a1, a2, a3, a4, a5⟩ := pass_ok A names l (late ++ [q.x]) true h'
      have hl : (late ++ [q.x]).length = late.length + 1 := by simp
      refine ⟨a1, by omega, fun _ _ => by omega, fun _ => a4 rfl, fun h2 => ?_⟩
      rw [a4 rfl] at h2
      cases h2
    · have e1 : ∀ ag, pass A names (q :: l) late ag = pass A names l late ag := fun ag => by rw [pass, if_neg hc]
      rw [e1, e1]
      exact pass_ok A names l late ag h
/-- Enough fuel is enough. -/
theorem fixL_step (A : Str → Bool) (names : List Str) (eqs : List Qu) (k : Nat) (late : List Str) (h : LateOk names late) (hk : names.length + 1 ≤ k + late.length) :
    ∃ k', k = k' + 1 ∧ (((pass A names eqs late false).2 = true ∧ fixL A names eqs k late = fixL A names eqs k' (pass A names eqs late false).1 ∧ LateOk names (pass A names eqs late false).1 ∧ names.length + 1 ≤ k' + (pass A names eqs late false).1.length ∧ late.length + 1 ≤ (pass A names eqs late false).1.length) ∨
      ((pass A names eqs late false).2 = false ∧ fixL A names eqs k late = late ∧ (pass A names eqs late false).1 = late)) := by
  have hl := h.len
  refine ⟨k - 1, by omega, ?_⟩
  obtain ⟨a1, a2, a3, a4, a5⟩ := pass_ok A names eqs late false h
  have hk' : k = (k - 1) + 1 := by omega
  cases hp : (pass A names eqs late false).2 with
  | true =>
    have := a3 rfl hp
    refine .inl ⟨rfl, ?_, a1, by omega, this⟩
    conv => lhs; rw [hk']
    rw [fixL, if_pos hp]
  | false =>
    refine .inr ⟨rfl, ?_, a5 hp⟩
    rw [hk', fixL, if_neg (by rw [hp]; simp), a5 hp]
theorem fixL_ok (A : Str → Bool) (names : List Str) (eqs : List Qu) : ∀ (k : Nat) (late : List Str), LateOk names late → LateOk names (fixL A names eqs k late)
  | 0, late, h => h
  | k + 1, late, h => by
    rw [fixL]
    have := (pass_ok A names eqs late false h).1
    split
    · exact fixL_ok A names eqs k _ this
    · exact this
end Go.Proofs.Ytfemdelaciccmaa
