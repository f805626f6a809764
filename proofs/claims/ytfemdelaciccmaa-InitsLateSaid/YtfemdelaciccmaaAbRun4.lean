/-
  Code, loops and calls on values that are known.
-/
import Derived.Test.YtfemdelaciccmaaAbRun3
import Derived.Test.YtfemdelaciccmaaAbDef
set_option linter.unusedVariables false
set_option linter.unusedSimpArgs false
namespace Go.Proofs.Ytfemdelaciccmaa
open Go Go.RowKit

inductive EX where
  | n
  | x (i : Nat)
  | r
def EX.e : EX → Exit
  | .n => .normal
  | .x i => .exit i
  | .r => .ret
inductive CR where
  | fin (e : EX) (env : EN) (s : MW)
  | pan (v : PV) (m : M)
def CR.to (K : Exit → F → M → Prop) (Z : PV → M → Prop) : CR → Prop
  | .fin e env s => K e.e (fl env) s.m
  | .pan v m => Z v m
def CR.fr (m0 : M) : CR → Prop
  | .fin _ _ s => frO m0 s.m s.w
  | .pan _ _ => True
def eCode (P : Program) (call : CallR) (mu : List Nat) : Nat → Code → EN → MW → Option CR
  | 0, _, _, _ => none
  | k + 1, c, env, m => match c with
    | .skip => some (.fin .n env m)
    | .label _ => some (.fin .n env m)
    | .region _ ops false => (match eOps P call mu ops ops.toList env m with
      | some (.nxt env' m') => some (.fin .n env' m')
      | some (.pan v m') => some (.pan v m')
      | none => none)
    | .region _ ops true => if lexOk mu ops then (match eLex P call mu ops (eCol P call mu ops ops.toList env m.m) m.m 0 ops.toList env m with
        | some (.nxt env' m') => some (.fin .n env' m')
        | some (.pan v m') => some (.pan v m')
        | none => none)
      else none
    | .seq a b => (match eCode P call mu k a env m with
      | some (.fin .n env' m') => eCode P call mu k b env' m'
      | r => r)
    | .cond c x y => (match ev (fl env) c with
      | .v (.bool b) => eCode P call mu k (if b then x else y) env m
      | _ => none)
    | .block id c => (match eCode P call mu k c env m with
      | some (.fin (.x i) env' m') => if i = id then some (.fin .n env' m') else some (.fin (.x i) env' m')
      | r => r)
    | .loop c => (match eCode P call mu k c env m with
      | some (.fin .n env' m') => eCode P call mu k (.loop c) env' m'
      | r => r)
    | .exit id => some (.fin (.x id) env m)
    | .ret => some (.fin .r env m)
    | _ => none
theorem least_of {p : Nat → Prop} (h : ∃ k, p k) : ∃ k, p k ∧ ∀ j, p j → k ≤ j := by
  obtain ⟨k, hk⟩ := h
  induction k using Nat.strongRecOn with
  | ind k ih =>
    by_cases hl : ∃ j, j < k ∧ p j
    · obtain ⟨j, hj, hp⟩ := hl
      exact ih j hj hp
    · exact ⟨k, hk, fun j hj => Nat.le_of_not_lt fun hlt => hl ⟨j, hlt, hj⟩⟩
theorem measure_of {A B : Type} (p : A → B → Nat → Prop) : ∃ mf : A → B → Nat, ∀ f m, (∃ k, p f m k) → p f m (mf f m) ∧ ∀ j, p f m j → mf f m ≤ j := by
  classical
  refine ⟨fun f m => if h : ∃ k, p f m k then Classical.choose (least_of h) else 0, fun f m h => ?_⟩
  simp only [dif_pos h]
  exact Classical.choose_spec (least_of h)
section
variable {P : Program} {call : CallR} {mu : List Nat} {Z : PV → M → Prop}
theorem eCode_fr (hc : CallOk P call) {m0 : M} : ∀ (k : Nat) (c : Code) {env : EN} {s : MW} {r : CR}, eCode P call mu k c env s = some r → frO m0 s.m s.w → r.fr m0
  | 0, c, env, s, r, h, _ => by cases h
  | k + 1, c, env, s, r, h, hs => by
    have ih := fun (c : Code) {env : EN} {s : MW} {r : CR} => eCode_fr hc (m0 := m0) k c (env := env) (s := s) (r := r)
    cases c with
    | skip => cases h; exact hs
    | label l => cases h; exact hs
    | region id ops d =>
      cases d with
      | false =>
        simp only [eCode] at h
        split at h
        · rename_i env' m' he
          cases h
          exact eOps_fr hc _ he hs
        · cases h; trivial
        · cases h
      | true =>
        simp only [eCode] at h
        split at h
        · split at h
          · rename_i env' m' he
            cases h
            exact eLex_fr hc _ he hs
          · cases h; trivial
          · cases h
        · cases h
    | seq a b =>
      simp only [eCode] at h
      split at h
      · rename_i env' m' he
        exact ih b h (ih a he hs)
      · exact ih a h hs
    | cond c x y =>
      simp only [eCode] at h
      split at h
      · exact ih _ h hs
      · cases h
    | block id c =>
      simp only [eCode] at h
      split at h
      · rename_i i env' m' he
        have := ih c he hs
        split at h <;> cases h <;> exact this
      · exact ih c h hs
    | loop c =>
      simp only [eCode] at h
      split at h
      · rename_i env' m' he
        exact ih (.loop c) h (ih c he hs)
      · exact ih c h hs
    | exit id => cases h; exact hs
    | ret => cases h; exact hs
    | _ => simp [eCode] at h
theorem eCode_sound (hc : CallOk P call) : ∀ (c : Code) {k : Nat} {K : Exit → F → M → Prop} {env : EN} {m : MW} {r : CR}, eCode P call mu k c env m = some r → r.to K Z → aCode P mu Z c K (fl env) m.m := by
  intro c
  induction c with
  | skip => intro k K env m r h hr; cases k <;> cases h; exact hr
  | label l => intro k K env m r h hr; cases k <;> cases h; exact hr
  | region id ops d =>
    intro k K env m r h hr
    cases k with
    | zero => cases h
    | succ k =>
      cases d with
      | false =>
        simp only [eCode] at h
        refine ⟨_, _, .inl ⟨rfl, rfl⟩, ?_⟩
        split at h
        · rename_i env' m' he
          cases h
          exact eOps_sound hc _ he hr
        · rename_i v m' he
          cases h
          exact eOps_sound hc _ he hr
        · cases h
      | true =>
        simp only [eCode] at h
        split at h
        · rename_i hlex
          split at h
          · rename_i env' m' he
            cases h
            refine ⟨_, _, .inl ⟨rfl, rfl⟩, .inr (.inr (.inr ⟨hlex, SR (eCol P call mu ops ops.toList env m.m) m.m, fun _ _ => rfl, ?_⟩))⟩
            have := eLex_sound (Z := Z) (K := K .normal) hc ops.toList (k := 0) (fun j => by simp) he (fun _ _ => rfl) hr
            rw [List.range_eq_range']
            simpa using this
          · rename_i v m' he
            cases h
            refine ⟨_, _, .inl ⟨rfl, rfl⟩, .inr (.inr (.inr ⟨hlex, SR (eCol P call mu ops ops.toList env m.m) m.m, fun _ _ => rfl, ?_⟩))⟩
            have := eLex_sound (Z := Z) (K := K .normal) hc ops.toList (k := 0) (fun j => by simp) he (fun _ _ => rfl) hr
            rw [List.range_eq_range']
            simpa using this
          · cases h
        · cases h
  | seq a b iha ihb =>
    intro k K env m r h hr
    cases k with
    | zero => cases h
    | succ k =>
      simp only [eCode] at h
      simp only [aCode]
      split at h
      · rename_i env' m' he
        refine iha he ?_
        exact ihb h hr
      · rename_i hne
        refine iha h ?_
        cases r with
        | fin e env' m' =>
          cases e with
          | n => exact absurd h (hne env' m')
          | x i => exact hr
          | r => exact hr
        | pan v m' => exact hr
  | cond c x y ihx ihy =>
    intro k K env m r h hr
    cases k with
    | zero => cases h
    | succ k =>
      simp only [eCode] at h
      simp only [aCode]
      split at h
      · rename_i b hb
        rw [hb]
        cases b with
        | true => exact ⟨fun _ => ihx h hr, (fun h => by cases h)⟩
        | false => exact ⟨(fun h => by cases h), fun _ => ihy h hr⟩
      · cases h
  | block id c ih =>
    intro k K env m r h hr
    cases k with
    | zero => cases h
    | succ k =>
      simp only [eCode] at h
      simp only [aCode]
      split at h
      · rename_i i env' m' he
        refine ih he ?_
        show aBlock id K (.exit i) (fl env') m'.m
        simp only [aBlock]
        split at h
        · rename_i hi
          cases h
          rw [if_pos hi]
          exact hr
        · rename_i hi
          cases h
          rw [if_neg hi]
          exact hr
      · rename_i hne
        refine ih h ?_
        cases r with
        | fin e env' m' =>
          cases e with
          | n => exact hr
          | x i => exact absurd h (hne i env' m')
          | r => exact hr
        | pan v m' => exact hr
  | loop c ih =>
    intro k K env m r h hr
    simp only [aCode]
    let p : F → M → Nat → Prop := fun f m k => ∃ env s, f = fl env ∧ m = s.m ∧ eCode P call mu k (.loop c) env s = some r
    obtain ⟨mf, hmf⟩ := measure_of p
    refine ⟨fun f m => ∃ k, p f m k, mf, ⟨k, env, m, rfl, rfl, h⟩, .inl ?_⟩
    intro f m1 hp
    obtain ⟨⟨env1, s1, hf, hm1, h1⟩, _⟩ := hmf f m1 hp
    subst hf
    subst hm1
    generalize hk : mf (fl env1) s1.m = k1 at h1
    cases k1 with
    | zero => cases h1
    | succ k1 =>
      simp only [eCode] at h1
      split at h1
      · rename_i env' m' he
        refine ih he ?_
        show (∃ k, p (fl env') m'.m k) ∧ mf (fl env') m'.m < k1 + 1
        have hp' : p (fl env') m'.m k1 := ⟨env', m', rfl, rfl, h1⟩
        exact ⟨⟨k1, hp'⟩, Nat.lt_succ_of_le ((hmf _ _ ⟨k1, hp'⟩).2 _ hp')⟩
      · rename_i hne
        refine ih h1 ?_
        cases r with
        | fin e env' m' =>
          cases e with
          | n => exact absurd h1 (hne env' m')
          | x i => exact hr
          | r => exact hr
        | pan v m' => exact hr
  | exit id => intro k K env m r h hr; cases k <;> cases h; exact hr
  | ret => intro k K env m r h hr; cases k <;> cases h; exact hr
  | _ => intro k K env m r h hr; cases k <;> simp [eCode] at h
end
end Go.Proofs.Ytfemdelaciccmaa
