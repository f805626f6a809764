/-
  Calls on values that are known, and what a run without arguments from nothing is good for.
-/
import Derived.Test.YtfemdelaciccmaaAbRun4
import Derived.Test.YtfemdelaciccmaaAbOpen
set_option linter.unusedVariables false
set_option linter.unusedSimpArgs false
namespace Go.Proofs.Ytfemdelaciccmaa
open Go Go.RowKit

/-- The results as they stand, nothing given up. -/
def aPostK (P : Program) (rs : List ResultVar) (R : PV → M → Prop) : Exit → F → M → Prop := fun e f m =>
  match e with
  | .normal | .ret => aRes P f m rs fun vs => R (pack vs) m
  | _ => False
theorem res_keep {P : Program} {fn : Func} {tmps : Array Value} {f : F} {m' : M} {G' : Ghost} {w' : World} {R : PV → M → Prop} (hI' : Inv G' m' w') (hF : FR G' w' f tmps)
    (ha : aRes P f m' fn.results.toList (fun vs => R (pack vs) m')) : ∃ y v, (results fn tmps).run P w' = .ok y w' ∧ R v m' ∧ Rep G' w' v y := by
  obtain ⟨us, ys, hR, h2, h3, h4⟩ := aRes_sound hI' hF _ ha
  have e : (fn.results.mapM (resF tmps)).run P w' = .ok ys.toArray w' := by
    rw [Array.mapM_eq_mapM_toList, ← bind_pure_comp, Sem.run_bind, h4]
    rfl
  by_cases h1 : ys.length = 1
  · obtain ⟨y, rfl⟩ := List.length_eq_one_iff.1 h1
    obtain ⟨u, rfl⟩ := List.length_eq_one_iff.1 (h2.trans h1)
    refine ⟨y, pack [u], ?_, hR, by simpa [pack] using h3 0 (by simp) (by simp)⟩
    rw [results_run, e]
    rfl
  · refine ⟨.tuple ys.toArray, pack us, ?_, hR, ?_⟩
    · rw [results_run, e]
      simp only [Result.andThen_ok, List.size_toArray, h1, dite_false]
    · have : pack us = .tp us := by
        cases us with
        | nil => rfl
        | cons u us =>
          cases us with
          | nil => simp at h2; omega
          | cons u' us => rfl
      rw [this]
      exact .tp us ys h2 h3
theorem ACallsZ.enterK {P : Program} {mu : List Nat} {g : FuncId} {fn : Func} {c : Code} {args : List PV} {m : M} {R Z : PV → M → Prop} (hmix : P.follows .mixedOrders = true) (hf : P.funcs[g]? = some fn) (hb : fn.body = some c) (hc : canCall P g = true)
    (hbd : Go.Code.bd (.of fn.ntmps) c = true) (hn : args.length ≤ fn.ntmps) (h : aCode P mu Z c (aPostK P fn.results.toList R) (F.args args) m) : ACallsZ P g args m R Z := by
  refine ⟨hc, fun G w vs hI hl hr => calls_of_wp hf hb ?_⟩
  have hS : St (.of fn.ntmps) [] G (F.args args) m { tmps := vs.toArray ++ Array.replicate (fn.ntmps - vs.toArray.size) undef, defers := [] } w :=
    ⟨enter_fr hl hr, hI, rfl, by simp [Fi.of]; omega, fun k hk => by simp [Fi.of] at hk⟩
  refine wp_mono (aCode_sound hmix c h hbd hS) fun e a w' hl => ?_
  rcases hl with ⟨G', f, m', hp, hS', hE⟩ | ⟨y, v, m', G', rfl, hzz, hr', hI', hE, hds, _⟩
  case inr => exact ⟨hds, .inr ⟨y, v, m', G', rfl, hzz, hr', hI', hE⟩⟩
  have fin : aRes P f m' fn.results.toList (fun vs => R (pack vs) m') → a.defers = [] ∧ ∃ y, (results fn a.tmps).run P w' = .ok y w' ∧ ((∃ y' v m'' G'', Ending.returned y = .returned y' ∧ R v m'' ∧ Rep G'' w' v y' ∧ Inv G'' m'' w' ∧ Ext G w G'' w') ∨ (∃ y' v m'' G'', Ending.returned y = .panicked [{ v := y', recovered := false }] ∧ Z v m'' ∧ Rep G'' w' v y' ∧ Inv G'' m'' w' ∧ Ext G w G'' w')) := fun ha => by
    obtain ⟨y, v, hy2, hR, hy1⟩ := res_keep hS'.inv hS'.fr ha
    exact ⟨hS'.defers, y, hy2, .inl ⟨y, v, m', G', rfl, hR, hy1, hS'.inv, hE⟩⟩
  cases e with
  | normal => exact fin hp
  | ret => exact fin hp
  | _ => exact hp.elim

def eRes (P : Program) (f : F) (m : M) : List ResultVar → Option (List PV)
  | [] => some []
  | .tmp t :: r => (eRes P f m r).map (f t :: ·)
  | .cell a t :: r => match aStep P false (.load t (.tmp a)) f m with
    | .ok _ v _ => if ePre P false (.load t (.tmp a)) f m then (eRes P f m r).map (v :: ·) else none
    | _ => none
theorem eRes_sound {P : Program} {f : F} {m : M} : ∀ (rs : List ResultVar) {vs : List PV} {K : List PV → Prop}, eRes P f m rs = some vs → K vs → aRes P f m rs K
  | [], vs, K, h, hk => by cases h; exact hk
  | .tmp t :: r, vs, K, h, hk => by
    simp only [eRes, Option.map_eq_some_iff] at h
    obtain ⟨us, h1, rfl⟩ := h
    exact eRes_sound r h1 hk
  | .cell a t :: r, vs, K, h, hk => by
    simp only [eRes] at h
    simp only [aRes]
    cases hs : aStep P false (.load t (.tmp a)) f m with
    | ok p v m' =>
      simp only [hs] at h ⊢
      split at h
      · rename_i hp
        simp only [Option.map_eq_some_iff] at h
        obtain ⟨us, h1, rfl⟩ := h
        exact ⟨ePre_sound hs hp, eRes_sound r h1 hk⟩
      · cases h
    | call g args => simp [hs] at h
    | pan v => simp [hs] at h
    | alt p S => simp [hs] at h
    | bad => simp [hs] at h

/-- A function of the program, as the run enters it. -/
structure FnE where
  fn : Func
  c : Code
def eEntry (P : Program) (g : FuncId) : Option FnE := match P.funcs[g]? with
  | some fn => (match fn.body with
    | some c => if canCall P g && Go.Code.bd (.of fn.ntmps) c then some ⟨fn, c⟩ else none
    | none => none)
  | none => none
theorem eEntry_some {P : Program} {g : FuncId} {q : FnE} (h : eEntry P g = some q) : P.funcs[g]? = some q.fn ∧ q.fn.body = some q.c ∧ canCall P g = true ∧ Go.Code.bd (.of q.fn.ntmps) q.c = true := by
  unfold eEntry at h
  split at h
  · rename_i fn hf
    split at h
    · rename_i c hc
      split at h
      · rename_i hb
        cases h
        simp only [Bool.and_eq_true] at hb
        exact ⟨hf, hc, hb⟩
      · cases h
    · cases h
  · cases h
def eFrame (n : Nat) (args : List PV) : EN := ⟨args, .nil⟩
theorem fl_frame (n : Nat) (args : List PV) : fl (eFrame n args) = F.args args := rfl
def eCall (P : Program) (mus : FuncId → List Nat) (hook : CallR) : Nat → CallR
  | 0 => fun _ _ _ => none
  | k + 1 => fun g args m => match hook g args m with
    | some r => some r
    | none => match eEntry P g with
      | none => none
      | some q => if args.length ≤ q.fn.ntmps then
          match eCode P (eCall P mus hook k) (mus g) k q.c (eFrame q.fn.ntmps args) ⟨m, some []⟩ with
          | some (.fin .n env s) => (eRes P (fl env) s.m q.fn.results.toList).map fun vs => .val (pack vs) s.m s.w
          | some (.fin .r env s) => (eRes P (fl env) s.m q.fn.results.toList).map fun vs => .val (pack vs) s.m s.w
          | some (.pan v m') => some (.pan v m')
          | _ => none
        else none
theorem eCall_sound {P : Program} {mus : FuncId → List Nat} {hook : CallR} (hmix : P.follows .mixedOrders = true) (hh : CallOk P hook) : ∀ k, CallOk P (eCall P mus hook k)
  | 0 => fun _ _ _ _ h => by cases h
  | k + 1 => by
    intro g args m r h
    simp only [eCall] at h
    split at h
    · rename_i r' hr'
      cases h
      exact hh _ _ _ _ hr'
    · split at h
      · cases h
      · rename_i q hq
        obtain ⟨h1, h2, h3, h4⟩ := eEntry_some hq
        split at h
        · rename_i hn
          have hk := eCall_sound (mus := mus) hmix hh k
          have done : ∀ (e : EX) env (m' : MW), (e = .n ∨ e = .r) → eCode P (eCall P mus hook k) (mus g) k q.c (eFrame q.fn.ntmps args) ⟨m, some []⟩ = some (.fin e env m') → (eRes P (fl env) m'.m q.fn.results.toList).map (fun vs => ER.val (pack vs) m'.m m'.w) = some r → r.grants P g args m := by
            intro e env m' he hc hr
            simp only [Option.map_eq_some_iff] at hr
            obtain ⟨vs, hv, rfl⟩ := hr
            refine ER.grants_mk ?_ (eCode_fr hk (m0 := m) _ _ hc (Fr.refl m))
            refine ACallsZ.enterK (mu := mus g) hmix h1 h2 h3 h4 hn ?_
            rw [← fl_frame q.fn.ntmps args]
            refine eCode_sound hk q.c hc ?_
            rcases he with rfl | rfl <;> exact eRes_sound _ hv ⟨rfl, rfl⟩
          split at h
          · rename_i env m' hc
            exact done .n env m' (.inl rfl) hc h
          · rename_i env m' hc
            exact done .r env m' (.inr rfl) hc h
          · rename_i v m' hc
            cases h
            refine ACallsZ.enterK (mu := mus g) hmix h1 h2 h3 h4 hn ?_
            rw [← fl_frame q.fn.ntmps args]
            exact eCode_sound hk q.c hc ⟨rfl, rfl⟩
          · cases h
        · cases h

def noHook : CallR := fun _ _ _ => none
theorem noHook_ok {P : Program} : CallOk P noHook := fun _ _ _ _ h => by cases h

/-! ### From nothing -/
/-- A call without arguments that answers, from nothing, a value without an address answers it from anything. -/
theorem ACalls.closed {P : Program} {g : FuncId} {x : Value} {R : PV → M → Prop} (h : ACalls P g [] M0 (fun v2 _ => v2 = .v x)) (m : M) (hR : R (.v x) m) : ACalls P g [] m R := by
  refine ⟨h.1, fun G w vs hI hl hr => (h.2 (G0 w) w vs (inv0 w hI.layW) hl (fun j h1 => by simp at h1)).mono ?_⟩
  rintro e w' (⟨y, v', m', G', rfl, rfl, h3, h4, h5⟩ | ⟨_, _, _, _, _, hz, _⟩)
  · have hb : Below w.heap.size w w' := h5.below
    have hE : Ext G w G w' := ⟨rfl, Nat.le_refl _, fun _ _ => rfl, fun _ _ => rfl, Nat.le_refl _, fun _ _ => rfl, fun _ _ h => h, fun b o hs => hb.cell (p := ⟨b, o, none⟩) (hI.set b o hs), hb.mono hI.base⟩
    refine .inl ⟨y, .v x, m, G, rfl, hR, ?_, ?_, hE⟩
    · cases h3
      exact .v (by assumption)
    · refine ⟨hI.nb, hI.nt, Nat.le_trans hI.base hb.size, fun id c hc => ?_, hI.boxset, hI.inj, fun t s ht => ?_, hI.tokd, fun b o hs => Nat.lt_of_lt_of_le (hI.set b o hs) hb.size, hI.layE hE⟩
      · obtain ⟨o, a1, a2, a5⟩ := hI.box id c hc
        exact ⟨o, (hb.block _ (hI.blt hc)).trans a1, a2.mono hE, a5⟩
      · obtain ⟨q0, q⟩ := hI.tok t s ht
        refine ⟨q0, fun b o hbo => ?_⟩
        obtain ⟨q1, q2, q3, q4, q5⟩ := q b o hbo
        have hlt : b < w.heap.size := by
          obtain ⟨u, hu⟩ := Option.isSome_iff_exists.1 q3
          exact World.block_lt_of_cell? w _ hu
        exact ⟨q1, q2, by rw [hb.cell (p := ⟨b, o, none⟩) hlt]; exact q3, by rw [hb.frozen (p := ⟨b, o, none⟩) hlt]; exact q4, q5⟩
  · exact hz.elim
/-- What the run answers. -/
def eTrue (P : Program) (mus : FuncId → List Nat) (hook : CallR) (k : Nat) (g : FuncId) : Bool := match eCall P mus hook k g [] M0 with
  | some (.val (.v (.bool b)) _ _) => b
  | _ => false
theorem ACalls.ran {P : Program} {mus : FuncId → List Nat} {hook : CallR} {k : Nat} {g : FuncId} {R : PV → M → Prop} (hmix : P.follows .mixedOrders = true) (hh : CallOk P hook)
    (h : eTrue P mus hook k g = true) (m : M) (hR : R (.v (.bool true)) m) : ACalls P g [] m R := by
  unfold eTrue at h
  split at h
  · rename_i b m' ws he
    have := (ER.grants_val (eCall_sound (mus := mus) hmix hh k _ _ _ _ he)).1
    subst h
    exact ACalls.closed (ACallsZ.mono this (fun v2 m2 q => q.1) (fun _ _ h => h)) m hR
  · cases h
end Go.Proofs.Ytfemdelaciccmaa
