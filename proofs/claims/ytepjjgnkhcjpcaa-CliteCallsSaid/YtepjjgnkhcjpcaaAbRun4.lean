/-
  Code, loops and calls on values that are known.
-/
import Derived.Test.YtepjjgnkhcjpcaaAbRun3
import Derived.Test.YtepjjgnkhcjpcaaAbDef
set_option linter.unusedVariables false
set_option linter.unusedSimpArgs false
namespace Go.Proofs.Ytepjjgnkhcjpcaa
open Go Go.RowKit

inductive EX where
  | n
  | x (i : Nat)
  | r
def EX.e : EX → Exit
  | .n => .normal
  | .x i => .exit i
  | .r => .ret
inductive CR where
  | fin (e : EX) (env : EN) (m : M)
  | pan (v : PV) (m : M)
def CR.to (K : Exit → F → M → Prop) (Z : PV → M → Prop) : CR → Prop
  | .fin e env m => K e.e (fl env) m
  | .pan v m => Z v m
def eCode (P : Program) (call : CallR) (mu : List Nat) : Nat → Code → EN → M → Option CR
  | 0, _, _, _ => none
  | k + 1, c, env, m => match c with
    | .skip => some (.fin .n env m)
    | .label _ => some (.fin .n env m)
    | .region _ ops false => (match eOps P call mu ops ops.toList env m with
      | some (.nxt env' m') => some (.fin .n env' m')
      | some (.pan v m') => some (.pan v m')
      | none => none)
    | .region _ ops true => if lexOk mu ops then (match eLex P call mu ops (eCol P call mu ops ops.toList env m) m 0 ops.toList env m with
        | some (.nxt env' m') => some (.fin .n env' m')
        | some (.pan v m') => some (.pan v m')
        | none => none)
      else none
    | .seq a b => (match eCode P call mu k a env m with
      | some (.fin .n env' m') => eCode P call mu k b env' m'
      | r => r)
    | .cond c x y => (match ev (fl env) c with
      | .v (.bool b) => eCode P call mu k (if b then x else y) env m
      | _ => none)
    | .block id c => (match eCode P call mu k c env m with
      | some (.fin (.x i) env' m') => if i = id then some (.fin .n env' m') else some (.fin (.x i) env' m')
      | r => r)
    | .loop c => (match eCode P call mu k c env m with
      | some (.fin .n env' m') => eCode P call mu k (.loop c) env' m'
      | r => r)
    | .exit id => some (.fin (.x id) env m)
    | .ret => some (.fin .r env m)
    | _ => none
theorem least_of {p : Nat → Prop} (h : ∃ k, p k) : ∃ k, p k ∧ ∀ j, p j → k ≤ j := by
  obtain ⟨k, hk⟩ := h
  induction k using Nat.strongRecOn with
  | ind k ih =>
    by_cases hl : ∃ j, j < k ∧ p j
    · obtain ⟨j, hj, hp⟩ := hl
      exact ih j hj hp
    · exact ⟨k, hk, fun j hj => Nat.le_of_not_lt fun hlt => hl ⟨j, hlt, hj⟩⟩
theorem measure_of {A B : Type} (p : A → B → Nat → Prop) : ∃ mf : A → B → Nat, ∀ f m, (∃ k, p f m k) → p f m (mf f m) ∧ ∀ j, p f m j → mf f m ≤ j := by
  classical
  refine ⟨fun f m => if h : ∃ k, p f m k then Classical.choose (least_of h) else 0, fun f m h => ?_⟩
  simp only [dif_pos h]
  exact Classical.choose_spec (least_of h)
section
variable {P : Program} {call : CallR} {mu : List Nat} {Z : PV → M → Prop}
theorem eCode_sound (hc : CallOk P call) : ∀ (c : Code) {k : Nat} {K : Exit → F → M → Prop} {env : EN} {m : M} {r : CR}, eCode P call mu k c env m = some r → r.to K Z → aCode P mu Z c K (fl env) m := by
  intro c
  induction c with
  | skip => intro k K env m r h hr; cases k <;> cases h; exact hr
  | label l => intro k K env m r h hr; cases k <;> cases h; exact hr
  | region id ops d =>
    intro k K env m r h hr
    cases k with
    | zero => cases h
    | succ k =>
      cases d with
      | false =>
        simp only [eCode] at h
        refine ⟨_, _, .inl ⟨rfl, rfl⟩, ?_⟩
        split at h
        · rename_i env' m' he
          cases h
          exact eOps_sound hc _ he hr
        · rename_i v m' he
          cases h
          exact eOps_sound hc _ he hr
        · cases h
      | true =>
        simp only [eCode] at h
        split at h
        · rename_i hlex
          split at h
          · rename_i env' m' he
            cases h
            refine ⟨_, _, .inl ⟨rfl, rfl⟩, .inr (.inr (.inr ⟨hlex, SR (eCol P call mu ops ops.toList env m) m, fun _ _ => rfl, ?_⟩))⟩
            have := eLex_sound (Z := Z) (K := K .normal) hc ops.toList (k := 0) (fun j => by simp) he (fun _ _ => rfl) hr
            rw [List.range_eq_range']
            simpa using this
          · rename_i v m' he
            cases h
            refine ⟨_, _, .inl ⟨rfl, rfl⟩, .inr (.inr (.inr ⟨hlex, SR (eCol P call mu ops ops.toList env m) m, fun _ _ => rfl, ?_⟩))⟩
            have := eLex_sound (Z := Z) (K := K .normal) hc ops.toList (k := 0) (fun j => by simp) he (fun _ _ => rfl) hr
            rw [List.range_eq_range']
            simpa using this
          · cases h
        · cases h
  | seq a b iha ihb =>
    intro k K env m r h hr
    cases k with
    | zero => cases h
    | succ k =>
      simp only [eCode] at h
      simp only [aCode]
      split at h
      · rename_i env' m' he
        refine iha he ?_
        exact ihb h hr
      · rename_i hne
        refine iha h ?_
        cases r with
        | fin e env' m' =>
          cases e with
          | n => exact absurd h (hne env' m')
          | x i => exact hr
          | r => exact hr
        | pan v m' => exact hr
  | cond c x y ihx ihy =>
    intro k K env m r h hr
    cases k with
    | zero => cases h
    | succ k =>
      simp only [eCode] at h
      simp only [aCode]
      split at h
      · rename_i b hb
        rw [hb]
        cases b with
        | true => exact ⟨fun _ => ihx h hr, (fun h => by cases h)⟩
        | false => exact ⟨(fun h => by cases h), fun _ => ihy h hr⟩
      · cases h
  | block id c ih =>
    intro k K env m r h hr
    cases k with
    | zero => cases h
    | succ k =>
      simp only [eCode] at h
      simp only [aCode]
      split at h
      · rename_i i env' m' he
        refine ih he ?_
        show aBlock id K (.exit i) (fl env') m'
        simp only [aBlock]
        split at h
        · rename_i hi
          cases h
          rw [if_pos hi]
          exact hr
        · rename_i hi
          cases h
          rw [if_neg hi]
          exact hr
      · rename_i hne
        refine ih h ?_
        cases r with
        | fin e env' m' =>
          cases e with
          | n => exact hr
          | x i => exact absurd h (hne i env' m')
          | r => exact hr
        | pan v m' => exact hr
  | loop c ih =>
    intro k K env m r h hr
    simp only [aCode]
    let p : F → M → Nat → Prop := fun f m k => ∃ env, f = fl env ∧ eCode P call mu k (.loop c) env m = some r
    obtain ⟨mf, hmf⟩ := measure_of p
    refine ⟨fun f m => ∃ k, p f m k, mf, ⟨k, env, rfl, h⟩, .inl ?_⟩
    intro f m hp
    obtain ⟨⟨env1, hf, h1⟩, _⟩ := hmf f m hp
    subst hf
    generalize hk : mf (fl env1) m = k1 at h1
    cases k1 with
    | zero => cases h1
    | succ k1 =>
      simp only [eCode] at h1
      split at h1
      · rename_i env' m' he
        refine ih he ?_
        show (∃ k, p (fl env') m' k) ∧ mf (fl env') m' < k1 + 1
        have hp' : p (fl env') m' k1 := ⟨env', rfl, h1⟩
        exact ⟨⟨k1, hp'⟩, Nat.lt_succ_of_le ((hmf _ _ ⟨k1, hp'⟩).2 _ hp')⟩
      · rename_i hne
        refine ih h1 ?_
        cases r with
        | fin e env' m' =>
          cases e with
          | n => exact absurd h1 (hne env' m')
          | x i => exact hr
          | r => exact hr
        | pan v m' => exact hr
  | exit id => intro k K env m r h hr; cases k <;> cases h; exact hr
  | ret => intro k K env m r h hr; cases k <;> cases h; exact hr
  | _ => intro k K env m r h hr; cases k <;> simp [eCode] at h
end
end Go.Proofs.Ytepjjgnkhcjpcaa
