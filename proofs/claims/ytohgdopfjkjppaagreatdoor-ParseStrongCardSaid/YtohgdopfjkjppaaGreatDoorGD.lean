/-
 Texts that belong together: AbRun4, AbRun5.
-/
-- halved
import Derived.Test.YtohgdopfjkjppaaGreatDoorGC
import Derived.Test.YtohgdopfjkjppaaGreatDoorLwA
/-
 Code, loops and calls on values that are known.
-/
set_option linter.unusedVariables false
set_option linter.unusedSimpArgs false
namespace Go.Proofs.YtohgdopfjkjppaaGreatDoor
open Go Go.RowKit

inductive EX where
 | n
 | x (i : Nat)
 | r
def EX.e : EX → Exit
 | .n => .normal
 | .x i => .exit i
 | .r => .ret
inductive CR where
 | fin (e : EX) (env : EN) (s : MW)
 | pan (v : PV) (m : M)
def CR.to (K : Exit → F → M → Prop) (Z : PV → M → Prop) : CR → Prop
 | .fin e env s => K e.e (fl env) s.m
 | .pan v m => Z v m
def CR.fr (m0 : M) : CR → Prop
 | .fin _ _ s => frO m0 s.m s.w
 | .pan _ _ => True
def eCode (P : Program) (call : CallR) (mu : List Nat) : Nat → Code → EN → MW → Option CR
 | 0, _, _, _ => none
 | k + 1, c, env, m => match c with
  | .skip => some (.fin .n env m)
  | .label _ => some (.fin .n env m)
  | .region _ ops false => (match eOps P call mu ops ops.toList env m with
   | some (.nxt env' m') => some (.fin .n env' m')
   | some (.pan v m') => some (.pan v m')
   | none => none)
  | .region _ ops true => if lexOk mu ops then (match eLex P call mu ops (eCol P call mu ops ops.toList env m.m) m.m 0 ops.toList env m with
      | some (.nxt env' m') => some (.fin .n env' m')
      | some (.pan v m') => some (.pan v m')
      | none => none)
   else none
  | .seq a b => (match eCode P call mu k a env m with
   | some (.fin .n env' m') => eCode P call mu k b env' m'
   | r => r)
  | .cond c x y => (match ev (fl env) c with
   | .v (.bool b) => eCode P call mu k (if b then x else y) env m
   | _ => none)
  | .block id c => (match eCode P call mu k c env m with
   | some (.fin (.x i) env' m') => if i = id then some (.fin .n env' m') else some (.fin (.x i) env' m')
   | r => r)
  | .loop c => (match eCode P call mu k c env m with
   | some (.fin .n env' m') => eCode P call mu k (.loop c) env' m'
   | r => r)
  | .exit id => some (.fin (.x id) env m)
  | .ret => some (.fin .r env m)
  | _ => none
theorem least_of {p : Nat → Prop} (h : ∃ k, p k) : ∃ k, p k ∧ ∀ j, p j → k ≤ j := by
 obtain ⟨k, hk⟩ := h
 induction k using Nat.strongRecOn with
 | ind k ih =>
  by_cases hl : ∃ j, j < k ∧ p j
  ·obtain ⟨j, hj, hp⟩ := hl
   exact ih j hj hp
  ·exact ⟨k, hk, fun j hj => Nat.le_of_not_lt fun hlt => hl ⟨j, hlt, hj⟩⟩
theorem measure_of {A B : Type} (p : A → B → Nat → Prop) : ∃ mf : A → B → Nat, ∀ f m, (∃ k, p f m k) → p f m (mf f m) ∧ ∀ j, p f m j → mf f m ≤ j := by
 classical
 refine ⟨fun f m => if h : ∃ k, p f m k then Classical.choose (least_of h) else 0, fun f m h => ?_⟩
 simp only [dif_pos h]
 exact Classical.choose_spec (least_of h)
section
variable {P : Program} {call : CallR} {mu : List Nat} {Z : PV → M → Prop}
theorem eCode_fr (hc : CallOk P call) {m0 : M} : ∀ (k : Nat) (c : Code) {env : EN} {s : MW} {r : CR}, eCode P call mu k c env s = some r → frO m0 s.m s.w → r.fr m0
 | 0, c, env, s, r, h, _ => by cases h
 | k + 1, c, env, s, r, h, hs => by
  have ih := fun (c : Code) {env : EN} {s : MW} {r : CR} => eCode_fr hc (m0 := m0) k c (env := env) (s := s) (r := r)
  cases c with
  | skip => cases h; exact hs
  | label l => cases h; exact hs
  | region id ops d =>
   cases d with
   | false =>
    simp only [eCode] at h
    split at h
    ·rename_i env' m' he
     cases h
     exact eOps_fr hc _ he hs
    ·cases h; trivial
    ·cases h
   | true =>
    simp only [eCode] at h
    split at h
    ·split at h
     ·rename_i env' m' he
      cases h
      exact eLex_fr hc _ he hs
     ·cases h; trivial
     ·cases h
    ·cases h
  | seq a b =>
   simp only [eCode] at h
   split at h
   ·rename_i env' m' he
    exact ih b h (ih a he hs)
   ·exact ih a h hs
  | cond c x y =>
   simp only [eCode] at h
   split at h
   ·exact ih _ h hs
   ·cases h
  | block id c =>
   simp only [eCode] at h
   split at h
   ·rename_i i env' m' he
    have := ih c he hs
    split at h <;> cases h <;> exact this
   ·exact ih c h hs
  | loop c =>
   simp only [eCode] at h
   split at h
   ·rename_i env' m' he
    exact ih (.loop c) h (ih c he hs)
   ·exact ih c h hs
  | exit id => cases h; exact hs
  | ret => cases h; exact hs
  | _ => simp [eCode] at h
theorem eCode_sound (hc : CallOk P call) : ∀ (c : Code) {k : Nat} {K : Exit → F → M → Prop} {env : EN} {m : MW} {r : CR}, eCode P call mu k c env m = some r → r.to K Z → aCode P mu Z c K (fl env) m.m := by
 intro c
 induction c with
 | skip => intro k K env m r h hr; cases k <;> cases h; exact hr
 | label l => intro k K env m r h hr; cases k <;> cases h; exact hr
 | region id ops d =>
  intro k K env m r h hr
  cases k with
  | zero => cases h
  | succ k =>
   cases d with
   | false =>
    simp only [eCode] at h
    refine ⟨_, _, .inl ⟨rfl, rfl⟩, ?_⟩
    split at h
    ·rename_i env' m' he
     cases h
     exact eOps_sound hc _ he hr
    ·rename_i v m' he
     cases h
     exact eOps_sound hc _ he hr
    ·cases h
   | true =>
    simp only [eCode] at h
    split at h
    ·rename_i hlex
     split at h
     ·rename_i env' m' he
      cases h
      refine ⟨_, _, .inl ⟨rfl, rfl⟩, .inr (.inr (.inr (.inl ⟨hlex, SR (eCol P call mu ops ops.toList env m.m) m.m, fun _ _ => rfl, ?_⟩)))⟩
      have := eLex_sound (Z := Z) (K := K .normal) hc ops.toList (k := 0) (fun j => by simp) he (fun _ _ => rfl) hr
      rw [List.range_eq_range']
      simpa using this
     ·rename_i v m' he
      cases h
      refine ⟨_, _, .inl ⟨rfl, rfl⟩, .inr (.inr (.inr (.inl ⟨hlex, SR (eCol P call mu ops ops.toList env m.m) m.m, fun _ _ => rfl, ?_⟩)))⟩
      have := eLex_sound (Z := Z) (K := K .normal) hc ops.toList (k := 0) (fun j => by simp) he (fun _ _ => rfl) hr
      rw [List.range_eq_range']
      simpa using this
     ·cases h
    ·cases h
 | seq a b iha ihb =>
  intro k K env m r h hr
  cases k with
  | zero => cases h
  | succ k =>
   simp only [eCode] at h
   simp only [aCode]
   split at h
   ·rename_i env' m' he
    refine iha he ?_
    exact ihb h hr
   ·rename_i hne
    refine iha h ?_
    cases r with
    | fin e env' m' =>
     cases e with
     | n => exact absurd h (hne env' m')
     | x i => exact hr
     | r => exact hr
    | pan v m' => exact hr
 | cond c x y ihx ihy =>
  intro k K env m r h hr
  cases k with
  | zero => cases h
  | succ k =>
   simp only [eCode] at h
   simp only [aCode]
   split at h
   ·rename_i b hb
    rw [hb]
    cases b with
    | true => exact ⟨fun _ => ihx h hr, (fun h => by cases h)⟩
    | false => exact ⟨(fun h => by cases h), fun _ => ihy h hr⟩
   ·cases h
 | block id c ih =>
  intro k K env m r h hr
  cases k with
  | zero => cases h
  | succ k =>
   simp only [eCode] at h
   simp only [aCode]
   split at h
   ·rename_i i env' m' he
    refine ih he ?_
    show aBlock id K (.exit i) (fl env') m'.m
    simp only [aBlock]
    split at h
    ·rename_i hi
     cases h
     rw [if_pos hi]
     exact hr
    ·rename_i hi
     cases h
     rw [if_neg hi]
     exact hr
   ·rename_i hne
    refine ih h ?_
    cases r with
    | fin e env' m' =>
     cases e with
     | n => exact hr
     | x i => exact absurd h (hne i env' m')
     | r => exact hr
    | pan v m' => exact hr
 | loop c ih =>
  intro k K env m r h hr
  simp only [aCode]
  let p : F → M → Nat → Prop := fun f m k => ∃ env s, f = fl env ∧ m = s.m ∧ eCode P call mu k (.loop c) env s = some r
  obtain ⟨mf, hmf⟩ := measure_of p
  refine ⟨fun f m => ∃ k, p f m k, mf, ⟨k, env, m, rfl, rfl, h⟩, .inl ?_⟩
  intro f m1 hp
  obtain ⟨⟨env1, s1, hf, hm1, h1⟩, _⟩ := hmf f m1 hp
  subst hf
  subst hm1
  generalize hk : mf (fl env1) s1.m = k1 at h1
  cases k1 with
  | zero => cases h1
  | succ k1 =>
   simp only [eCode] at h1
   split at h1
   ·rename_i env' m' he
    refine ih he ?_
    show (∃ k, p (fl env') m'.m k) ∧ mf (fl env') m'.m < k1 + 1
    have hp' : p (fl env') m'.m k1 := ⟨env', m', rfl, rfl, h1⟩
    exact ⟨⟨k1, hp'⟩, Nat.lt_succ_of_le ((hmf _ _ ⟨k1, hp'⟩).2 _ hp')⟩
   ·rename_i hne
    refine ih h1 ?_
    cases r with
    | fin e env' m' =>
     cases e with
     | n => exact absurd h1 (hne env' m')
     | x i => exact hr
     | r => exact hr
    | pan v m' => exact hr
 | exit id => intro k K env m r h hr; cases k <;> cases h; exact hr
 | ret => intro k K env m r h hr; cases k <;> cases h; exact hr
 | _ => intro k K env m r h hr; cases k <;> simp [eCode] at h
end
end Go.Proofs.YtohgdopfjkjppaaGreatDoor

/-
 Calls on values that are known, and what a run without arguments from nothing is good for.
-/
set_option linter.unusedVariables false
set_option linter.unusedSimpArgs false
namespace Go.Proofs.YtohgdopfjkjppaaGreatDoor
open Go Go.RowKit

/-- The results as they stand, nothing given up. -/
def aPostK (P : Program) (rs : List ResultVar) (R : PV → M → Prop) : Exit → F → M → Prop := fun e f m =>
 match e with
 | .normal | .ret => aRes P f m rs fun vs => R (pack vs) m
 | _ => False
theorem res_keep {P : Program} {fn : Func} {tmps : Array Value} {f : F} {m' : M} {G' : Ghost} {w' : World} {R : PV → M → Prop} (hI' : Inv G' m' w') (hF : FR G' w' f tmps)
    (ha : aRes P f m' fn.results.toList (fun vs => R (pack vs) m')) : ∃ y v, (results fn tmps).run P w' = .ok y w' ∧ R v m' ∧ Rep G' w' v y := by
 obtain ⟨us, ys, hR, h2, h3, h4⟩ := aRes_sound hI' hF _ ha
 have e : (fn.results.mapM (resF tmps)).run P w' = .ok ys.toArray w' := by
  rw [Array.mapM_eq_mapM_toList, ← bind_pure_comp, Sem.run_bind, h4]
  rfl
 by_cases h1 : ys.length = 1
 ·obtain ⟨y, rfl⟩ := List.length_eq_one_iff.1 h1
  obtain ⟨u, rfl⟩ := List.length_eq_one_iff.1 (h2.trans h1)
  refine ⟨y, pack [u], ?_, hR, by simpa [pack] using h3 0 (by simp) (by simp)⟩
  rw [results_run, e]
  rfl
 ·refine ⟨.tuple ys.toArray, pack us, ?_, hR, ?_⟩
  ·rw [results_run, e]
   simp only [Result.andThen_ok, List.size_toArray, h1, dite_false]
  ·have : pack us = .tp us := by
     cases us with
     | nil => rfl
     | cons u us =>
      cases us with
      | nil => simp at h2; omega
      | cons u' us => rfl
   rw [this]
   exact .tp us ys h2 h3
theorem ACallsZ.enterK {P : Program} {mu : List Nat} {g : FuncId} {fn : Func} {c : Code} {args : List PV} {m : M} {R Z : PV → M → Prop} (hmix : P.follows .mixedOrders = true) (hf : P.funcs[g]? = some fn) (hb : fn.body = some c) (hc : canCall P g = true)
    (hbd : Go.Code.bd (.of fn.ntmps) c = true) (hn : args.length ≤ fn.ntmps) (h : aCode P mu Z c (aPostK P fn.results.toList R) (F.args args) m) : ACallsZ P g args m R Z := by
 refine ⟨hc, fun G w vs hI hl hr => calls_of_wp hf hb ?_⟩
 have hS : St (.of fn.ntmps) [] G (F.args args) m { tmps := vs.toArray ++ Array.replicate (fn.ntmps - vs.toArray.size) undef, defers := [] } w :=
  ⟨enter_fr hl hr, hI, rfl, by simp [Fi.of]; omega, fun k hk => by simp [Fi.of] at hk⟩
 refine wp_mono (aCode_sound hmix c h hbd hS) fun e a w' hl => ?_
 rcases hl with ⟨G', f, m', hp, hS', hE⟩ | ⟨y, v, m', G', rfl, hzz, hr', hI', hE, hds, _⟩
 case inr => exact ⟨hds, .inr ⟨y, v, m', G', rfl, hzz, hr', hI', hE⟩⟩
 have fin : aRes P f m' fn.results.toList (fun vs => R (pack vs) m') → a.defers = [] ∧ ∃ y, (results fn a.tmps).run P w' = .ok y w' ∧ ((∃ y' v m'' G'', Ending.returned y = .returned y' ∧ R v m'' ∧ Rep G'' w' v y' ∧ Inv G'' m'' w' ∧ Ext G w G'' w') ∨ (∃ y' v m'' G'', Ending.returned y = .panicked [{ v := y', recovered := false }] ∧ Z v m'' ∧ Rep G'' w' v y' ∧ Inv G'' m'' w' ∧ Ext G w G'' w')) := fun ha => by
  obtain ⟨y, v, hy2, hR, hy1⟩ := res_keep hS'.inv hS'.fr ha
  exact ⟨hS'.defers, y, hy2, .inl ⟨y, v, m', G', rfl, hR, hy1, hS'.inv, hE⟩⟩
 cases e with
 | normal => exact fin hp
 | ret => exact fin hp
 | _ => exact hp.elim

def eRes (P : Program) (f : F) (m : M) : List ResultVar → Option (List PV)
 | [] => some []
 | .tmp t :: r => (eRes P f m r).map (f t :: ·)
 | .cell a t :: r => match aStep P false (.load t (.tmp a)) f m with
  | .ok _ v _ => if ePre P false (.load t (.tmp a)) f m then (eRes P f m r).map (v :: ·) else none
  | _ => none
theorem eRes_sound {P : Program} {f : F} {m : M} : ∀ (rs : List ResultVar) {vs : List PV} {K : List PV → Prop}, eRes P f m rs = some vs → K vs → aRes P f m rs K
 | [], vs, K, h, hk => by cases h; exact hk
 | .tmp t :: r, vs, K, h, hk => by
  simp only [eRes, Option.map_eq_some_iff] at h
  obtain ⟨us, h1, rfl⟩ := h
  exact eRes_sound r h1 hk
 | .cell a t :: r, vs, K, h, hk => by
  simp only [eRes] at h
  simp only [aRes]
  cases hs : aStep P false (.load t (.tmp a)) f m with
  | ok p v m' =>
   simp only [hs] at h ⊢
   split at h
   ·rename_i hp
    simp only [Option.map_eq_some_iff] at h
    obtain ⟨us, h1, rfl⟩ := h
    exact ⟨ePre_sound hs hp, eRes_sound r h1 hk⟩
   ·cases h
  | call g args => simp [hs] at h
  | pan v => simp [hs] at h
  | alt p S => simp [hs] at h
  | bad => simp [hs] at h

/-- A function of the program, as the run enters it. -/
structure FnE where
 fn : Func
 c : Code
def eEntry (P : Program) (g : FuncId) : Option FnE := match P.funcs[g]? with
 | some fn => (match fn.body with
  | some c => if canCall P g && Go.Code.bd (.of fn.ntmps) c then some ⟨fn, c⟩ else none
  | none => none)
 | none => none
theorem eEntry_some {P : Program} {g : FuncId} {q : FnE} (h : eEntry P g = some q) : P.funcs[g]? = some q.fn ∧ q.fn.body = some q.c ∧ canCall P g = true ∧ Go.Code.bd (.of q.fn.ntmps) q.c = true := by
 unfold eEntry at h
 split at h
 ·rename_i fn hf
  split at h
  ·rename_i c hc
   split at h
   ·rename_i hb
    cases h
    simp only [Bool.and_eq_true] at hb
    exact ⟨hf, hc, hb⟩
   ·cases h
  ·cases h
 ·cases h
def eFrame (n : Nat) (args : List PV) : EN := ⟨args, .nil⟩
theorem fl_frame (n : Nat) (args : List PV) : fl (eFrame n args) = F.args args := rfl
/-! ### From nothing -/
end Go.Proofs.YtohgdopfjkjppaaGreatDoor
