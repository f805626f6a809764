/-
  A function's contract out of its code, on values without addresses.
-/
import Derived.Test.YtepjjgnkhcjpcaaDoorAbWp
set_option linter.unusedVariables false
set_option linter.unusedSimpArgs false
namespace Go.Proofs.YtepjjgnkhcjpcaaDoor
open Go Go.RowKit

/-- How a call may leave: what it hands back, and the state. -/
inductive Leave (m0 m : M) : PV → PV → M → Prop
  | plain (v : PV) (hb : m.boxes.take m0.nb = m0.boxes) (ht : m.toks.take m0.nt = m0.toks) (hv : v.settle.pure = true) : Leave m0 m v v.settle m0
  | tok (o : Own) (xs : List PV) (s : Nat) (mk : M) (hb : m.boxes.take m0.nb = m0.boxes) (hkb : mk.boxes = m0.boxes) (hf : o.free m s) (ht : (o.use m).toks.take m0.nt = mk.toks) (hkl : mk.toks.length = m0.nt) (hs : ∀ x ∈ xs, x.cells.length = s) :
      Leave m0 m (.sl o xs) (.sl (.tok m0.nt) xs) (mk.fresh s)
  | upd (v : PV) (m' : M) (hl : m'.boxes.length = m0.nb) (hb : m.boxes.take m0.nb = m'.boxes) (ht : m.toks.take m'.nt = m'.toks) (hk : m0.nt ≤ m'.nt) (hp : ∀ id c, m'.get id = some c → m0.get id = some c ∨ PV.pures c = true) (hv : v.settle.pure = true) : Leave m0 m v v.settle m'
  | gen (v v' : PV) (m' : M) (hvv : v' = v ∨ v' = v.settle) (hn : m0.nb ≤ m'.nb) (hk : m0.nt ≤ m'.nt) (hb : m.boxes.take m'.nb = m'.boxes) (ht : m.toks.take m'.nt = m'.toks) (hp : ∀ id c, m'.get id = some c → m0.get id = some c ∨ PV.withins m'.nb m'.nt c = true) (hv : v'.within m'.nb m'.nt = true) : Leave m0 m v v' m'

theorem Leave.sound {m0 m m' : M} {v v' : PV} (h : Leave m0 m v v' m') {G0 G : Ghost} {w0 w : World} (hI0 : Inv G0 m0 w0) (hE : Ext G0 w0 G w) (hI : Inv G m w) {y : Value} (hr : Rep G w v y) : ∃ G', Rep G' w v' y ∧ Inv G' m' w ∧ Ext G0 w0 G' w := by
  cases h with
  | plain _ hb ht hv =>
    obtain ⟨h1, h2⟩ := cut_inv (m' := m0) hI0 hE hI (Nat.le_refl _) hI0.nb hI0.nt (fun id c hc => ⟨take_get hb hc, .inl hc⟩) (fun t s ha => take_alive ht ha)
    exact ⟨_, hr.settle.pureCut hv _ _, h1, h2⟩
  | upd _ _ hl hb ht hk hp hv =>
    obtain ⟨h1, h2⟩ := cut_inv (m' := m') hI0 hE hI (k := m'.nt) (by have : m0.nt = G0.nt := hI0.nt; omega) (by have : m0.nb = G0.nb := hI0.nb; omega) rfl (fun id c hc => ⟨take_get hb hc, hp id c hc⟩) (fun t s ha => take_alive ht ha)
    exact ⟨_, hr.settle.pureCut hv _ _, h1, h2⟩
  | gen _ _ _ hvv hn hk hb ht hp hv =>
    obtain ⟨h1, h2⟩ := cut_invW (m' := m') hI0 hE hI (n := m'.nb) (k := m'.nt) (by have : m0.nb = G0.nb := hI0.nb; omega) (by have : m0.nt = G0.nt := hI0.nt; omega) rfl rfl (fun id c hc => ⟨take_get hb hc, hp id c hc⟩) (fun t s ha => take_alive ht ha)
    refine ⟨_, ?_, h1, h2⟩
    rcases hvv with rfl | rfl
    · exact hr.cutW hv
    · exact hr.settle.cutW hv
  | tok o xs s mk hb hkb hf ht hkl hs =>
    have hnt : m0.nt = G0.nt := hI0.nt
    have hsub : ∀ t s', mk.alive t s' → (o.use m).alive t s' := fun t s' ha => take_alive ht ha
    have hsub' : ∀ t s', mk.alive t s' → m.alive t s' := fun t s' ha => by
      have := hsub t s' ha
      cases o with
      | tok t0 => exact (M.alive_kill this).2
      | _ => exact this
    have hgk : ∀ id, mk.get id = m0.get id := fun id => by unfold M.get; rw [hkb]
    obtain ⟨h1, h2⟩ := cut_inv (m' := mk) hI0 hE hI (Nat.le_refl _) (by rw [hkb]; exact hI0.nb) (by rw [hkl]; exact hnt) (fun id c hc => ⟨take_get hb (m' := m0) (by rw [← hgk]; exact hc), .inl (by rw [← hgk]; exact hc)⟩) hsub'
    have hcut : ∀ {x : PV} {u : Value}, Rep G w x u → x.pure = true → Rep (G.cut G0.nb G0.nt) w x u := fun h hp => h.pureCut hp _ _
    -- the places that go over to the new token
    have fin : ∀ (r : Res), r.sz = s → (∀ b o', r.has b o' → ∃ t, o = .tok t ∧ (G.res t).has b o') → Inv ((G.cut G0.nb G0.nt).addTok r) (mk.fresh s) w := fun r hrs hrh => by
      have := h1.addTok r (fun b o' hbo => by
        obtain ⟨t, rfl, hto⟩ := hrh b o' hbo
        obtain ⟨q1, q2, q3, q4, q5⟩ := (hI.tok t s hf).2 b o' hto
        exact ⟨q1, q2, q3, q4, fun id c hc => q5 id c (take_get hb (m' := m0) (by rw [← hgk]; exact hc))⟩) (fun t' s' ha b o' hbo hx => by
        obtain ⟨t, rfl, hto⟩ := hrh b o' hx
        obtain ⟨hne, ha'⟩ := M.alive_kill (hsub t' s' ha)
        exact hI.tokd t' t s' s ha' hf hne b o' hbo hto)
      rwa [hrs] at this
    have hres : ∀ r, ((G.cut G0.nb G0.nt).addTok r).res m0.nt = r := fun r => if_pos hnt
    have hlt : ∀ r, m0.nt < ((G.cut G0.nb G0.nt).addTok r).nt := fun r => by show m0.nt < G0.nt + 1; omega
    rcases sl_inv hr with ⟨⟨ao, rfl⟩, rfl, hnil⟩ | ⟨b, off, cap, sz, cs, rfl, a1, a2, a3, a4, a5, a6, a7, a8⟩
    · refine ⟨_, .snil _ ao (fun t ht' => ?_), fin ⟨0, 0, 0, s⟩ rfl (fun b o' hbo => by obtain ⟨_, k1, k2⟩ := hbo; simp at k2), h2.trans (Ext.addTok _ _ _)⟩
      cases ht'
      exact ⟨hlt _, by rw [hres]; simp⟩
    · have hE2 := h2.trans (Ext.addTok (G.cut G0.nb G0.nt) w ⟨b, off + xs.length * s, off + cap * s, s⟩)
      have hrl : RL (G.cut G0.nb G0.nt) w (xs.flatMap PV.cells) cs := ⟨a3.len, fun j q1 q2 => hcut (a3.rep j q1 q2) (by
        obtain ⟨x, hx, hxc⟩ := List.mem_flatMap.1 (List.getElem_mem q1)
        obtain ⟨i, hi, he⟩ := List.mem_iff_getElem.1 hxc
        rw [← he]
        exact (ok_cells (a2 x hx) i hi).1), a3.one⟩
      refine ⟨_, slice_rep (sz := s) hs a2 (hrl.mono (Ext.addTok _ _ _)) (fun k hk => ⟨(a4 k hk).1, (a4 k hk).2⟩) a5 a6 (fun h => by cases h) (fun t ht' => ?_), fin ⟨b, off + xs.length * s, off + cap * s, s⟩ rfl (fun b' o' hbo => ?_), hE2⟩
      · cases ht'
        exact ⟨hlt _, hres _⟩
      · obtain ⟨k0, k1, k2⟩ := hbo
        simp only at k0 k1 k2
        cases o with
        | no => exact absurd hf (by simp [Own.free])
        | full => rw [a7 rfl] at k2; omega
        | tok t =>
          refine ⟨t, rfl, ?_⟩
          obtain ⟨q1, q2⟩ := a8 t rfl
          have hsz : sz = s := by have := (hI.tok t s hf).1; rw [q2] at this; exact this
          rw [q2, hsz]
          exact ⟨k0, k1, k2⟩

/-- The results. -/
def aRes (P : Program) (f : F) (m : M) : List ResultVar → (List PV → Prop) → Prop
  | [], K => K []
  | .tmp t :: r, K => aRes P f m r fun vs => K (f t :: vs)
  | .cell a t :: r, K => match aStep P false (.load t (.tmp a)) f m with
    | .ok p v _ => p ∧ aRes P f m r fun vs => K (v :: vs)
    | _ => False
def pack : List PV → PV
  | [x] => x
  | vs => .tp vs
def aPost (P : Program) (rs : List ResultVar) (m0 : M) (R : PV → M → Prop) : Exit → F → M → Prop := fun e f m =>
  match e with
  | .normal | .ret => aRes P f m rs fun vs => ∃ v' m', Leave m0 m (pack vs) v' m' ∧ R v' m'
  | _ => False
def F.args (args : List PV) : F := fun i => args.getD i (.tp [])

def resF (tmps : Array Value) : ResultVar → Sem Value
  | .tmp t => pure (tmps.getD t undef)
  | .cell a t => do loadVar t (← asAddr (tmps.getD a undef))
theorem results_run {P : Program} (fn : Func) (tmps : Array Value) (w : World) : (results fn tmps).run P w = ((fn.results.mapM (resF tmps)).run P w).andThen fun vs w' => .ok (if h : vs.size = 1 then vs[0] else .tuple vs) w' := by
  unfold results
  rw [Sem.run_bind]
  rfl
theorem aRes_sound {P : Program} {f : F} {m : M} {G : Ghost} {w : World} {tmps : Array Value} (hI : Inv G m w) (hF : FR G w f tmps) : ∀ (rs : List ResultVar) {K : List PV → Prop}, aRes P f m rs K →
    ∃ (vs : List PV) (ys : List Value), K vs ∧ vs.length = ys.length ∧ (∀ j (h1 : j < vs.length) (h2 : j < ys.length), Rep G w vs[j] ys[j]) ∧
      (rs.mapM (resF tmps)).run P w = .ok ys w
  | [], K, h => ⟨[], [], h, rfl, fun j h => by simp at h, rfl⟩
  | .tmp t :: rs, K, h => by
    obtain ⟨vs, ys, h1, h2, h3, h4⟩ := aRes_sound hI hF rs h
    refine ⟨f t :: vs, tmps.getD t undef :: ys, h1, by simp [h2], fun j q1 q2 => ?_, ?_⟩
    · cases j with
      | zero => exact hF t
      | succ j => simpa using h3 j (by simpa using q1) (by simpa using q2)
    · rw [List.mapM_cons]
      simp only [resF, Sem.run_bind, Sem.run_pure, Result.andThen_ok, h4]
  | .cell a t :: rs, K, h => by
    simp only [aRes] at h
    have hx := hF a
    cases hd : tdat P t with
    | none => simp [aStep, aOr, aGrow, aStep0, hd] at h
    | some d =>
      obtain ⟨y, hy⟩ : ∃ y, tmps.getD a undef = y := ⟨_, rfl⟩
      rw [hy] at hx
      have key : ∃ (v : PV) (p : Prop) (u : Value), aStep P false (.load t (.tmp a)) f m = .ok p v m ∧ p ∧ Rep G w v u ∧ (Instr.loadAt t y).run P w = .ok u w ∧ ∃ ad, y = .pointer (some ad) := by
        cases hev : f a <;> simp only [aStep, aOr, aGrow, aStep0, hd, ev, hev] at h ⊢ <;> rw [hev] at hx
        case ep xs =>
          obtain ⟨u, q1, q2⟩ := load_epw hd hx h.1
          refine ⟨_, _, u, rfl, h.1, q2, q1, ?_⟩
          cases hx
          exact ⟨_, rfl⟩
        case bp id off =>
          cases hg : m.get id with
          | none => simp [hg] at h
          | some c =>
            simp only [hg] at h ⊢
            obtain ⟨u, q1, q2⟩ := load_bpw hd hI hg hx h.1
            refine ⟨_, _, u, rfl, h.1, q2, q1, ?_⟩
            cases hx
            exact ⟨_, rfl⟩
        all_goals exact h.elim
      obtain ⟨v, p, u, e1, e2, e3, e4, ad, rfl⟩ := key
      simp only [e1] at h
      obtain ⟨vs, ys, h1, h2, h3, h4⟩ := aRes_sound hI hF rs h.2
      refine ⟨v :: vs, u :: ys, h1, by simp [h2], fun j q1 q2 => ?_, ?_⟩
      · cases j with
        | zero => exact e3
        | succ j => simpa using h3 j (by simpa using q1) (by simpa using q2)
      · have e5 : (resF tmps (.cell a t)).run P w = .ok u w := by show (do loadVar t (← asAddr (tmps.getD a undef)) : Sem Value).run P w = _; rw [hy]; exact e4
        rw [List.mapM_cons, Sem.run_bind, e5]
        simp only [Result.andThen_ok, Sem.run_bind, h4, Sem.run_pure]

/-- How a call may leave by a panic: the value, and the state, as far as the caller knows it. -/
def LeaveZ (m0 : M) (Z : PV → M → Prop) (v : PV) (m : M) : Prop := ∃ v' m', Leave m0 m v v' m' ∧ Z v' m'
theorem ACallsZ.enterG {P : Program} {mu : List Nat} {g : FuncId} {fn : Func} {c : Code} {args : List PV} {m : M} {R Z Z0 : PV → M → Prop} (hz : ∀ v m', Z0 v m' → LeaveZ m Z v m') (hmix : P.follows .mixedOrders = true) (hf : P.funcs[g]? = some fn) (hb : fn.body = some c) (hc : canCall P g = true)
    (hbd : Go.Code.bd (.of fn.ntmps) c = true) (hn : args.length ≤ fn.ntmps) (h : aCode P mu Z0 c (aPost P fn.results.toList m R) (F.args args) m) : ACallsZ P g args m R Z := by
  refine ⟨hc, fun G w vs hI hl hr => calls_of_wp hf hb ?_⟩
  have hS : St (.of fn.ntmps) [] G (F.args args) m { tmps := vs.toArray ++ Array.replicate (fn.ntmps - vs.toArray.size) undef, defers := [] } w := by
    refine ⟨fun t => ?_, hI, rfl, by simp [Fi.of]; omega, fun k hk => by simp [Fi.of] at hk⟩
    have e : ((vs.toArray ++ Array.replicate (fn.ntmps - vs.toArray.size) undef).getD t undef) = vs.getD t undef := by
      by_cases ht : t < vs.length
      · simp [List.getD, Array.getElem?_append, ht]
      · simp only [List.getD, Array.getD_eq_getD_getElem?, Array.getElem?_append, List.size_toArray, ht, if_false, List.getElem?_eq_none (Nat.le_of_not_lt ht)]
        simp only [Array.getElem?_replicate]
        split <;> rfl
    simp only [e, F.args]
    by_cases ht : t < args.length
    · have := hr t ht (hl ▸ ht)
      simpa [List.getD, ht, hl ▸ ht] using this
    · simp only [List.getD, List.getElem?_eq_none (Nat.le_of_not_lt ht), List.getElem?_eq_none (Nat.le_of_not_lt (hl ▸ ht)), Option.getD_none]
      exact .tp [] [] rfl (fun j h => by simp at h)
  refine wp_mono (aCode_sound hmix c h hbd hS) fun e a w' hl => ?_
  rcases hl with ⟨G', f, m', hp, hS', hE⟩ | ⟨y, v, m', G', rfl, hzz, hr', hI', hE, hds, _⟩
  case inr =>
    obtain ⟨v', m'', hlv, hZ⟩ := hz _ _ hzz
    obtain ⟨G'', g1, g2, g3⟩ := hlv.sound hI hE hI' hr'
    exact ⟨hds, .inr ⟨y, v', m'', G'', rfl, hZ, g1, g2, g3⟩⟩
  have fin : aRes P f m' fn.results.toList (fun vs => ∃ v' m'', Leave m m' (pack vs) v' m'' ∧ R v' m'') → a.defers = [] ∧ ∃ y, (results fn a.tmps).run P w' = .ok y w' ∧ ((∃ y' v m'' G'', Ending.returned y = .returned y' ∧ R v m'' ∧ Rep G'' w' v y' ∧ Inv G'' m'' w' ∧ Ext G w G'' w') ∨ (∃ y' v m'' G'', Ending.returned y = .panicked [{ v := y', recovered := false }] ∧ Z v m'' ∧ Rep G'' w' v y' ∧ Inv G'' m'' w' ∧ Ext G w G'' w')) := fun ha => by
    obtain ⟨us, ys, ⟨v', m'', hlv, hR⟩, h2, h3, h4⟩ := aRes_sound hS'.inv hS'.fr _ ha
    have hpk : ∃ y, Rep G' w' (pack us) y ∧ (results fn a.tmps).run P w' = .ok y w' := by
      have e : (fn.results.mapM (resF a.tmps)).run P w' = .ok ys.toArray w' := by
        rw [Array.mapM_eq_mapM_toList, ← bind_pure_comp, Sem.run_bind, h4]
        rfl
      by_cases h1 : ys.length = 1
      · obtain ⟨y, rfl⟩ := List.length_eq_one_iff.1 h1
        obtain ⟨u, rfl⟩ := List.length_eq_one_iff.1 (h2.trans h1)
        refine ⟨y, by simpa [pack] using h3 0 (by simp) (by simp), ?_⟩
        rw [results_run, e]
        rfl
      · refine ⟨.tuple ys.toArray, ?_, ?_⟩
        · have : pack us = .tp us := by
            cases us with
            | nil => rfl
            | cons u us =>
              cases us with
              | nil => simp at h2; omega
              | cons u' us => rfl
          rw [this]
          exact .tp us ys h2 h3
        · rw [results_run, e]
          simp only [Result.andThen_ok, List.size_toArray, h1, dite_false]
    obtain ⟨y, hy1, hy2⟩ := hpk
    obtain ⟨G'', g1, g2, g3⟩ := hlv.sound hI hE hS'.inv hy1
    exact ⟨hS'.defers, y, hy2, .inl ⟨y, v', m'', G'', rfl, hR, g1, g2, g3⟩⟩
  cases e with
  | normal => exact fin hp
  | ret => exact fin hp
  | _ => exact hp.elim
theorem ACallsZ.enter {P : Program} {mu : List Nat} {g : FuncId} {fn : Func} {c : Code} {args : List PV} {m : M} {R Z : PV → M → Prop} (hmix : P.follows .mixedOrders = true) (hf : P.funcs[g]? = some fn) (hb : fn.body = some c) (hc : canCall P g = true)
    (hbd : Go.Code.bd (.of fn.ntmps) c = true) (hn : args.length ≤ fn.ntmps) (h : aCode P mu (LeaveZ m Z) c (aPost P fn.results.toList m R) (F.args args) m) : ACallsZ P g args m R Z := ACallsZ.enterG (fun _ _ h => h) hmix hf hb hc hbd hn h
theorem ACalls.enter {P : Program} {mu : List Nat} {g : FuncId} {fn : Func} {c : Code} {args : List PV} {m : M} {R : PV → M → Prop} (hmix : P.follows .mixedOrders = true) (hf : P.funcs[g]? = some fn) (hb : fn.body = some c) (hc : canCall P g = true)
    (hbd : Go.Code.bd (.of fn.ntmps) c = true) (hn : args.length ≤ fn.ntmps) (h : aCode P mu noZ c (aPost P fn.results.toList m R) (F.args args) m) : ACalls P g args m R := ACallsZ.enterG (fun _ _ h => h.elim) hmix hf hb hc hbd hn h
end Go.Proofs.YtepjjgnkhcjpcaaDoor
