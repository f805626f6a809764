/-
  A function's contract out of its code, on values without addresses.
-/
import Derived.Test.YtamdnlnoioglnaaAbWp
set_option linter.unusedVariables false
set_option linter.unusedSimpArgs false
namespace Go.Proofs.Ytamdnlnoioglnaa
open Go Go.RowKit

def Ghost.cut (G : Ghost) (n k : Nat) : Ghost := { G with nb := n, nt := k }

theorem Rep.pureCut {G : Ghost} {w : World} {x : PV} {v : Value} (h : Rep G w x v) (hp : x.pure = true) (n k : Nat) : Rep (G.cut n k) w x v :=
  @Rep.pure_mono G (G.cut n k) w w (fun b o hs => hs) (fun b o _ => rfl) x v h hp

/-- What read without the later boxes and tokens reads without them still. -/
theorem Rep.cut {G0 : Ghost} {w0 : World} {x : PV} {v0 : Value} (h0 : Rep G0 w0 x v0) {n k : Nat} (hn : G0.nb ≤ n) (hk : G0.nt ≤ k) : ∀ {G : Ghost} {w : World} {v : Value}, Rep G w x v → Rep (G.cut n k) w x v := by
  have pureCut : ∀ {G : Ghost} {w : World} {x : PV} {v : Value}, Rep G w x v → x.pure = true → Rep (G.cut n k) w x v := fun h hp => h.pureCut hp n k
  induction h0 with
  | v h => intro G w v h; exact pureCut h rfl
  | junk x => intro G w v h; exact .junk _
  | snil o ao ho =>
    intro G w v h
    cases h with
    | snil _ ao' ho' => exact .snil o ao' fun t ht => ⟨Nat.lt_of_lt_of_le (ho t ht).1 hk, (ho' t ht).2⟩
    | sl _ _ b off cap sz c hlen hc hp hr hcap hmax hfull htok =>
      exact .sl o [] b off cap sz c hlen hc hp (fun i hi => by simp at hi) hcap hmax hfull fun t ht => ⟨Nat.lt_of_lt_of_le (ho t ht).1 hk, (htok t ht).2⟩
  | sl o xs b0 off0 cap0 sz0 c0 hlen0 hc0 hp0 hr0 hcap0 hmax0 hfull0 htok0 ih =>
    intro G w v h
    cases h with
    | snil _ ao' ho' => exact .snil o ao' fun t ht => ⟨Nat.lt_of_lt_of_le (htok0 t ht).1 hk, (ho' t ht).2⟩
    | sl _ _ b off cap sz c hlen hc hp hr hcap hmax hfull htok =>
      exact .sl o xs b off cap sz c hlen hc hp (fun i hi j hj => pureCut (hr i hi j hj) (ok_cells (hp i hi) j hj).1) hcap hmax hfull fun t ht => ⟨Nat.lt_of_lt_of_le (htok0 t ht).1 hk, (htok t ht).2⟩
  | ag xs cs0 hl0 h0 h1 ih =>
    intro G w v h
    cases h with
    | ag _ cs hl hr h1 => exact .ag xs cs hl (fun j k1 k2 => ih j k1 (hl0 ▸ k1) (hr j k1 k2)) h1
  | tp xs cs0 hl0 h0 ih =>
    intro G w v h
    cases h with
    | tp _ cs hl hr => exact .tp xs cs hl (fun j k1 k2 => ih j k1 (hl0 ▸ k1) (hr j k1 k2))
  | bp id off hid =>
    intro G w v h
    cases h
    exact Rep.bp (G := G.cut n k) id off (Nat.lt_of_lt_of_le hid hn)
  | bs id off len cap hid hcap hmax =>
    intro G w v h
    cases h with
    | bs _ _ _ cap' _ hcap' hmax' => exact Rep.bs (G := G.cut n k) id off len cap' (Nat.lt_of_lt_of_le hid hn) hcap' hmax'
  | ep xs b0 off0 c0 hc0 hp0 hr0 ih => intro G w v h; exact pureCut h rfl
  | fn f a b a0 b0 ha0 hb0 h1 h2 ih1 ih2 =>
    intro G w v h
    cases h with
    | fn _ _ _ a' b' ha hb k1 k2 => exact .fn f a b a' b' ha hb (fun j q1 q2 => ih1 j q1 (ha0 ▸ q1) (k1 j q1 q2)) (fun j q1 q2 => ih2 j q1 (hb0 ▸ q1) (k2 j q1 q2))
  | ifc t x y h ih =>
    intro G w v h
    cases h with
    | ifc _ _ y' h' => exact .ifc t x y' (ih h')

theorem cut_inv {G0 G : Ghost} {m0 m m' : M} {w0 w : World} (hI0 : Inv G0 m0 w0) (hE : Ext G0 w0 G w) (hI : Inv G m w) {k : Nat} (hk : G0.nt ≤ k) (hb : m'.boxes.length = G0.nb) (ht : m'.toks.length = k)
    (hget : ∀ id c, m'.get id = some c → m.get id = some c ∧ (m0.get id = some c ∨ PV.pures c = true)) (hal : ∀ t s, m'.alive t s → m.alive t s) :
    Inv (G.cut G0.nb k) m' w ∧ Ext G0 w0 (G.cut G0.nb k) w := by
  refine ⟨⟨hb, ht, hI.base, fun id c hc => ?_, fun id c hc => hI.boxset id c (hget id c hc).1, fun id id' c c' h h' => hI.inj id id' c c' (hget id c h).1 (hget id' c' h').1, fun t s h => ?_, fun t t' s s' h h' => hI.tokd t t' s s' (hal t s h) (hal t' s' h'), hI.set⟩,
    ⟨hE.base, Nat.le_refl _, hE.box, hk, hE.res, hE.set, hE.cell, hE.below⟩⟩
  · obtain ⟨h1, h2⟩ := hget id c hc
    obtain ⟨cs, e, a1, a2, a3, a4, a5⟩ := hI.box id c h1
    refine ⟨cs, e, a1, a2, fun j q1 q2 => ?_, a4, a5⟩
    rcases h2 with h2 | h2
    · obtain ⟨cs0, e0, b1, b2, b3, b4, b5⟩ := hI0.box id c h2
      exact (b3 j q1 (b2 ▸ q1)).cut (Nat.le_refl _) hk (a3 j q1 q2)
    · exact (a3 j q1 q2).pureCut ((pures_iff _).1 h2 _ (List.getElem_mem _)) _ _
  · obtain ⟨a1, a2⟩ := hI.tok t s (hal t s h)
    refine ⟨a1, fun b o hbo => ?_⟩
    obtain ⟨q1, q2, q3, q4, q5⟩ := a2 b o hbo
    exact ⟨q1, q2, q3, q4, fun id c hc => q5 id c (hget id c hc).1⟩

mutual
/-- Boxes below n, tokens below k alone. -/
def PV.within (n k : Nat) : PV → Bool
  | .v _ | .junk | .ep _ => true
  | .sl o _ => match o with | .tok t => decide (t < k) | _ => true
  | .ag xs => PV.withins n k xs
  | .tp xs => PV.withins n k xs
  | .bp id _ => decide (id < n)
  | .bs id _ _ => decide (id < n)
  | .fn _ a b => PV.withins n k a && PV.withins n k b
  | .ifc _ x => x.within n k
def PV.withins (n k : Nat) : List PV → Bool
  | [] => true
  | x :: l => x.within n k && PV.withins n k l
end
theorem withins_iff {n k : Nat} (l : List PV) : PV.withins n k l = true ↔ ∀ x ∈ l, x.within n k = true := by
  induction l with
  | nil => simp [PV.withins]
  | cons x l ih => simp [PV.withins, ih]
theorem Rep.cutW {G : Ghost} {w : World} {x : PV} {v : Value} (h : Rep G w x v) {n k : Nat} (hp : x.within n k = true) : Rep (G.cut n k) w x v := by
  induction h with
  | v h => exact .v h
  | junk x => exact .junk x
  | snil o ao ho =>
    refine .snil o ao fun t ht => ⟨?_, (ho t ht).2⟩
    subst ht
    show t < k
    simpa [PV.within] using hp
  | sl o xs b off cap sz c hlen hc hpp hr hcap hmax hfull htok ih =>
    refine .sl o xs b off cap sz c hlen hc hpp (fun i hi j hj => (hr i hi j hj).pureCut (ok_cells (hpp i hi) j hj).1 n k) hcap hmax hfull fun t ht => ⟨?_, (htok t ht).2⟩
    subst ht
    show t < k
    simpa [PV.within] using hp
  | ag xs cs hl h h1 ih =>
    simp only [PV.within] at hp
    exact .ag xs cs hl (fun j k1 k2 => ih j k1 k2 ((withins_iff _).1 hp _ (List.getElem_mem _))) h1
  | tp xs cs hl h ih =>
    simp only [PV.within] at hp
    exact .tp xs cs hl (fun j k1 k2 => ih j k1 k2 ((withins_iff _).1 hp _ (List.getElem_mem _)))
  | bp id off h => exact Rep.bp (G := G.cut n k) id off (by show id < n; simpa [PV.within] using hp)
  | bs id off len cap h hcap hmax => exact Rep.bs (G := G.cut n k) id off len cap (by show id < n; simpa [PV.within] using hp) hcap hmax
  | ep xs b off c hc hpp hr ih => exact (Rep.ep xs b off c hc hpp hr).pureCut rfl n k
  | fn f a b a' b' ha hb h1 h2 ih1 ih2 =>
    simp only [PV.within, Bool.and_eq_true] at hp
    exact .fn f a b a' b' ha hb (fun j q1 q2 => ih1 j q1 q2 ((withins_iff _).1 hp.1 _ (List.getElem_mem _))) (fun j q1 q2 => ih2 j q1 q2 ((withins_iff _).1 hp.2 _ (List.getElem_mem _)))
  | ifc t x y h ih =>
    simp only [PV.within] at hp
    exact .ifc t x y (ih hp)

theorem cut_invW {G0 G : Ghost} {m0 m m' : M} {w0 w : World} (hI0 : Inv G0 m0 w0) (hE : Ext G0 w0 G w) (hI : Inv G m w) {n k : Nat} (hn : G0.nb ≤ n) (hk : G0.nt ≤ k) (hb : m'.boxes.length = n) (ht : m'.toks.length = k)
    (hget : ∀ id c, m'.get id = some c → m.get id = some c ∧ (m0.get id = some c ∨ PV.withins n k c = true)) (hal : ∀ t s, m'.alive t s → m.alive t s) :
    Inv (G.cut n k) m' w ∧ Ext G0 w0 (G.cut n k) w := by
  refine ⟨⟨hb, ht, hI.base, fun id c hc => ?_, fun id c hc => hI.boxset id c (hget id c hc).1, fun id id' c c' h h' => hI.inj id id' c c' (hget id c h).1 (hget id' c' h').1, fun t s h => ?_, fun t t' s s' h h' => hI.tokd t t' s s' (hal t s h) (hal t' s' h'), hI.set⟩,
    ⟨hE.base, hn, hE.box, hk, hE.res, hE.set, hE.cell, hE.below⟩⟩
  · obtain ⟨h1, h2⟩ := hget id c hc
    obtain ⟨cs, e, a1, a2, a3, a4, a5⟩ := hI.box id c h1
    refine ⟨cs, e, a1, a2, fun j q1 q2 => ?_, a4, a5⟩
    rcases h2 with h2 | h2
    · obtain ⟨cs0, e0, b1, b2, b3, b4, b5⟩ := hI0.box id c h2
      exact (b3 j q1 (b2 ▸ q1)).cut hn hk (a3 j q1 q2)
    · exact (a3 j q1 q2).cutW ((withins_iff _).1 h2 _ (List.getElem_mem _))
  · obtain ⟨a1, a2⟩ := hI.tok t s (hal t s h)
    refine ⟨a1, fun b o hbo => ?_⟩
    obtain ⟨q1, q2, q3, q4, q5⟩ := a2 b o hbo
    exact ⟨q1, q2, q3, q4, fun id c hc => q5 id c (hget id c hc).1⟩

/-- How a call may leave: what it hands back, and the state. -/
inductive Leave (m0 m : M) : PV → PV → M → Prop
  | plain (v : PV) (hb : m.boxes.take m0.nb = m0.boxes) (ht : m.toks.take m0.nt = m0.toks) (hv : v.settle.pure = true) : Leave m0 m v v.settle m0
  | tok (o : Own) (xs : List PV) (s : Nat) (mk : M) (hb : m.boxes.take m0.nb = m0.boxes) (hkb : mk.boxes = m0.boxes) (hf : o.free m s) (ht : (o.use m).toks.take m0.nt = mk.toks) (hkl : mk.toks.length = m0.nt) (hs : ∀ x ∈ xs, x.cells.length = s) :
      Leave m0 m (.sl o xs) (.sl (.tok m0.nt) xs) (mk.fresh s)
  | upd (v : PV) (m' : M) (hl : m'.boxes.length = m0.nb) (hb : m.boxes.take m0.nb = m'.boxes) (ht : m.toks.take m'.nt = m'.toks) (hk : m0.nt ≤ m'.nt) (hp : ∀ id c, m'.get id = some c → m0.get id = some c ∨ PV.pures c = true) (hv : v.settle.pure = true) : Leave m0 m v v.settle m'
  | gen (v v' : PV) (m' : M) (hvv : v' = v ∨ v' = v.settle) (hn : m0.nb ≤ m'.nb) (hk : m0.nt ≤ m'.nt) (hb : m.boxes.take m'.nb = m'.boxes) (ht : m.toks.take m'.nt = m'.toks) (hp : ∀ id c, m'.get id = some c → m0.get id = some c ∨ PV.withins m'.nb m'.nt c = true) (hv : v'.within m'.nb m'.nt = true) : Leave m0 m v v' m'

theorem take_get {m m' : M} {n : Nat} (hb : m.boxes.take n = m'.boxes) {id : Nat} {c : List PV} (h : m'.get id = some c) : m.get id = some c := by
  unfold M.get at *
  rw [← hb, List.getElem?_take] at h
  split at h
  · exact h
  · cases h
theorem take_alive {m m' : M} {n : Nat} (ht : m.toks.take n = m'.toks) {t s : Nat} (h : m'.alive t s) : m.alive t s := by
  unfold M.alive at *
  rw [← ht, List.getElem?_take] at h
  split at h
  · exact h
  · cases h

theorem Leave.sound {m0 m m' : M} {v v' : PV} (h : Leave m0 m v v' m') {G0 G : Ghost} {w0 w : World} (hI0 : Inv G0 m0 w0) (hE : Ext G0 w0 G w) (hI : Inv G m w) {y : Value} (hr : Rep G w v y) : ∃ G', Rep G' w v' y ∧ Inv G' m' w ∧ Ext G0 w0 G' w := by
  cases h with
  | plain _ hb ht hv =>
    obtain ⟨h1, h2⟩ := cut_inv (m' := m0) hI0 hE hI (Nat.le_refl _) hI0.nb hI0.nt (fun id c hc => ⟨take_get hb hc, .inl hc⟩) (fun t s ha => take_alive ht ha)
    exact ⟨_, hr.settle.pureCut hv _ _, h1, h2⟩
  | upd _ _ hl hb ht hk hp hv =>
    obtain ⟨h1, h2⟩ := cut_inv (m' := m') hI0 hE hI (k := m'.nt) (by have : m0.nt = G0.nt := hI0.nt; omega) (by have : m0.nb = G0.nb := hI0.nb; omega) rfl (fun id c hc => ⟨take_get hb hc, hp id c hc⟩) (fun t s ha => take_alive ht ha)
    exact ⟨_, hr.settle.pureCut hv _ _, h1, h2⟩
  | gen _ _ _ hvv hn hk hb ht hp hv =>
    obtain ⟨h1, h2⟩ := cut_invW (m' := m') hI0 hE hI (n := m'.nb) (k := m'.nt) (by have : m0.nb = G0.nb := hI0.nb; omega) (by have : m0.nt = G0.nt := hI0.nt; omega) rfl rfl (fun id c hc => ⟨take_get hb hc, hp id c hc⟩) (fun t s ha => take_alive ht ha)
    refine ⟨_, ?_, h1, h2⟩
    rcases hvv with rfl | rfl
    · exact hr.cutW hv
    · exact hr.settle.cutW hv
  | tok o xs s mk hb hkb hf ht hkl hs =>
    have hnt : m0.nt = G0.nt := hI0.nt
    have hsub : ∀ t s', mk.alive t s' → (o.use m).alive t s' := fun t s' ha => take_alive ht ha
    have hsub' : ∀ t s', mk.alive t s' → m.alive t s' := fun t s' ha => by
      have := hsub t s' ha
      cases o with
      | tok t0 => exact (M.alive_kill this).2
      | _ => exact this
    have hgk : ∀ id, mk.get id = m0.get id := fun id => by unfold M.get; rw [hkb]
    obtain ⟨h1, h2⟩ := cut_inv (m' := mk) hI0 hE hI (Nat.le_refl _) (by rw [hkb]; exact hI0.nb) (by rw [hkl]; exact hnt) (fun id c hc => ⟨take_get hb (m' := m0) (by rw [← hgk]; exact hc), .inl (by rw [← hgk]; exact hc)⟩) hsub'
    have hcut : ∀ {x : PV} {u : Value}, Rep G w x u → x.pure = true → Rep (G.cut G0.nb G0.nt) w x u := fun h hp => h.pureCut hp _ _
    -- the places that go over to the new token
    have fin : ∀ (r : Res), r.sz = s → (∀ b o', r.has b o' → ∃ t, o = .tok t ∧ (G.res t).has b o') → Inv ((G.cut G0.nb G0.nt).addTok r) (mk.fresh s) w := fun r hrs hrh => by
      have := h1.addTok r (fun b o' hbo => by
        obtain ⟨t, rfl, hto⟩ := hrh b o' hbo
        obtain ⟨q1, q2, q3, q4, q5⟩ := (hI.tok t s hf).2 b o' hto
        exact ⟨q1, q2, q3, q4, fun id c hc => q5 id c (take_get hb (m' := m0) (by rw [← hgk]; exact hc))⟩) (fun t' s' ha b o' hbo hx => by
        obtain ⟨t, rfl, hto⟩ := hrh b o' hx
        obtain ⟨hne, ha'⟩ := M.alive_kill (hsub t' s' ha)
        exact hI.tokd t' t s' s ha' hf hne b o' hbo hto)
      rwa [hrs] at this
    have hres : ∀ r, ((G.cut G0.nb G0.nt).addTok r).res m0.nt = r := fun r => if_pos hnt
    have hlt : ∀ r, m0.nt < ((G.cut G0.nb G0.nt).addTok r).nt := fun r => by show m0.nt < G0.nt + 1; omega
    rcases sl_inv hr with ⟨⟨ao, rfl⟩, rfl, hnil⟩ | ⟨b, off, cap, sz, cs, rfl, a1, a2, a3, a4, a5, a6, a7, a8⟩
    · refine ⟨_, .snil _ ao (fun t ht' => ?_), fin ⟨0, 0, 0, s⟩ rfl (fun b o' hbo => by obtain ⟨_, k1, k2⟩ := hbo; simp at k2), h2.trans (Ext.addTok _ _ _)⟩
      cases ht'
      exact ⟨hlt _, by rw [hres]; simp⟩
    · have hE2 := h2.trans (Ext.addTok (G.cut G0.nb G0.nt) w ⟨b, off + xs.length * s, off + cap * s, s⟩)
      have hrl : RL (G.cut G0.nb G0.nt) w (xs.flatMap PV.cells) cs := ⟨a3.len, fun j q1 q2 => hcut (a3.rep j q1 q2) (by
        obtain ⟨x, hx, hxc⟩ := List.mem_flatMap.1 (List.getElem_mem q1)
        obtain ⟨i, hi, he⟩ := List.mem_iff_getElem.1 hxc
        rw [← he]
        exact (ok_cells (a2 x hx) i hi).1), a3.one⟩
      refine ⟨_, slice_rep (sz := s) hs a2 (hrl.mono (Ext.addTok _ _ _)) (fun k hk => ⟨(a4 k hk).1, (a4 k hk).2⟩) a5 a6 (fun h => by cases h) (fun t ht' => ?_), fin ⟨b, off + xs.length * s, off + cap * s, s⟩ rfl (fun b' o' hbo => ?_), hE2⟩
      · cases ht'
        exact ⟨hlt _, hres _⟩
      · obtain ⟨k0, k1, k2⟩ := hbo
        simp only at k0 k1 k2
        cases o with
        | no => exact absurd hf (by simp [Own.free])
        | full => rw [a7 rfl] at k2; omega
        | tok t =>
          refine ⟨t, rfl, ?_⟩
          obtain ⟨q1, q2⟩ := a8 t rfl
          have hsz : sz = s := by have := (hI.tok t s hf).1; rw [q2] at this; exact this
          rw [q2, hsz]
          exact ⟨k0, k1, k2⟩

/-- The results. -/
def aRes (P : Program) (f : F) (m : M) : List ResultVar → (List PV → Prop) → Prop
  | [], K => K []
  | .tmp t :: r, K => aRes P f m r fun vs => K (f t :: vs)
  | .cell a t :: r, K => match aStep P false (.load t (.tmp a)) f m with
    | .ok p v _ => p ∧ aRes P f m r fun vs => K (v :: vs)
    | _ => False
def pack : List PV → PV
  | [x] => x
  | vs => .tp vs
def aPost (P : Program) (rs : List ResultVar) (m0 : M) (R : PV → M → Prop) : Exit → F → M → Prop := fun e f m =>
  match e with
  | .normal | .ret => aRes P f m rs fun vs => ∃ v' m', Leave m0 m (pack vs) v' m' ∧ R v' m'
  | _ => False
def F.args (args : List PV) : F := fun i => args.getD i (.tp [])

def resF (tmps : Array Value) : ResultVar → Sem Value
  | .tmp t => pure (tmps.getD t undef)
  | .cell a t => do loadVar t (← asAddr (tmps.getD a undef))
theorem results_run {P : Program} (fn : Func) (tmps : Array Value) (w : World) : (results fn tmps).run P w = ((fn.results.mapM (resF tmps)).run P w).andThen fun vs w' => .ok (if h : vs.size = 1 then vs[0] else .tuple vs) w' := by
  unfold results
  rw [Sem.run_bind]
  rfl
theorem aRes_sound {P : Program} {f : F} {m : M} {G : Ghost} {w : World} {tmps : Array Value} (hI : Inv G m w) (hF : FR G w f tmps) : ∀ (rs : List ResultVar) {K : List PV → Prop}, aRes P f m rs K →
    ∃ (vs : List PV) (ys : List Value), K vs ∧ vs.length = ys.length ∧ (∀ j (h1 : j < vs.length) (h2 : j < ys.length), Rep G w vs[j] ys[j]) ∧
      (rs.mapM (resF tmps)).run P w = .ok ys w
  | [], K, h => ⟨[], [], h, rfl, fun j h => by simp at h, rfl⟩
  | .tmp t :: rs, K, h => by
    obtain ⟨vs, ys, h1, h2, h3, h4⟩ := aRes_sound hI hF rs h
    refine ⟨f t :: vs, tmps.getD t undef :: ys, h1, by simp [h2], fun j q1 q2 => ?_, ?_⟩
    · cases j with
      | zero => exact hF t
      | succ j => simpa using h3 j (by simpa using q1) (by simpa using q2)
    · rw [List.mapM_cons]
      simp only [resF, Sem.run_bind, Sem.run_pure, Result.andThen_ok, h4]
  | .cell a t :: rs, K, h => by
    simp only [aRes] at h
    have hx := hF a
    cases hd : tdat P t with
    | none => simp [aStep, hd] at h
    | some d =>
      obtain ⟨y, hy⟩ : ∃ y, tmps.getD a undef = y := ⟨_, rfl⟩
      rw [hy] at hx
      have key : ∃ (v : PV) (p : Prop) (u : Value), aStep P false (.load t (.tmp a)) f m = .ok p v m ∧ p ∧ Rep G w v u ∧ (Instr.loadAt t y).run P w = .ok u w ∧ ∃ ad, y = .pointer (some ad) := by
        cases hev : f a <;> simp only [aStep, hd, ev, hev] at h ⊢ <;> rw [hev] at hx
        case ep xs =>
          obtain ⟨u, q1, q2⟩ := load_epw hd hx h.1
          refine ⟨_, _, u, rfl, h.1, q2, q1, ?_⟩
          cases hx
          exact ⟨_, rfl⟩
        case bp id off =>
          cases hg : m.get id with
          | none => simp [hg] at h
          | some c =>
            simp only [hg] at h ⊢
            obtain ⟨u, q1, q2⟩ := load_bpw hd hI hg hx h.1
            refine ⟨_, _, u, rfl, h.1, q2, q1, ?_⟩
            cases hx
            exact ⟨_, rfl⟩
        all_goals exact h.elim
      obtain ⟨v, p, u, e1, e2, e3, e4, ad, rfl⟩ := key
      simp only [e1] at h
      obtain ⟨vs, ys, h1, h2, h3, h4⟩ := aRes_sound hI hF rs h.2
      refine ⟨v :: vs, u :: ys, h1, by simp [h2], fun j q1 q2 => ?_, ?_⟩
      · cases j with
        | zero => exact e3
        | succ j => simpa using h3 j (by simpa using q1) (by simpa using q2)
      · have e5 : (resF tmps (.cell a t)).run P w = .ok u w := by show (do loadVar t (← asAddr (tmps.getD a undef)) : Sem Value).run P w = _; rw [hy]; exact e4
        rw [List.mapM_cons, Sem.run_bind, e5]
        simp only [Result.andThen_ok, Sem.run_bind, h4, Sem.run_pure]

/-- How a call may leave by a panic: the value, and the state, as far as the caller knows it. -/
def LeaveZ (m0 : M) (Z : PV → M → Prop) (v : PV) (m : M) : Prop := ∃ v' m', Leave m0 m v v' m' ∧ Z v' m'
theorem ACallsZ.enterG {P : Program} {mu : List Nat} {g : FuncId} {fn : Func} {c : Code} {args : List PV} {m : M} {R Z Z0 : PV → M → Prop} (hz : ∀ v m', Z0 v m' → LeaveZ m Z v m') (hmix : P.follows .mixedOrders = true) (hf : P.funcs[g]? = some fn) (hb : fn.body = some c) (hc : canCall P g = true)
    (hbd : Go.Code.bd (.of fn.ntmps) c = true) (hn : args.length ≤ fn.ntmps) (h : aCode P mu Z0 c (aPost P fn.results.toList m R) (F.args args) m) : ACallsZ P g args m R Z := by
  refine ⟨hc, fun G w vs hI hl hr => calls_of_wp hf hb ?_⟩
  have hS : St (.of fn.ntmps) [] G (F.args args) m { tmps := vs.toArray ++ Array.replicate (fn.ntmps - vs.toArray.size) undef, defers := [] } w := by
    refine ⟨fun t => ?_, hI, rfl, by simp [Fi.of]; omega, by simp [Fi.of]; rw [Array.getElem?_eq_none (by simp; omega)]; rfl⟩
    have e : ((vs.toArray ++ Array.replicate (fn.ntmps - vs.toArray.size) undef).getD t undef) = vs.getD t undef := by
      by_cases ht : t < vs.length
      · simp [List.getD, Array.getElem?_append, ht]
      · simp only [List.getD, Array.getD_eq_getD_getElem?, Array.getElem?_append, List.size_toArray, ht, if_false, List.getElem?_eq_none (Nat.le_of_not_lt ht)]
        simp only [Array.getElem?_replicate]
        split <;> rfl
    simp only [e, F.args]
    by_cases ht : t < args.length
    · have := hr t ht (hl ▸ ht)
      simpa [List.getD, ht, hl ▸ ht] using this
    · simp only [List.getD, List.getElem?_eq_none (Nat.le_of_not_lt ht), List.getElem?_eq_none (Nat.le_of_not_lt (hl ▸ ht)), Option.getD_none]
      exact .tp [] [] rfl (fun j h => by simp at h)
  refine wp_mono (aCode_sound hmix c h hbd hS) fun e a w' hl => ?_
  rcases hl with ⟨G', f, m', hp, hS', hE⟩ | ⟨y, v, m', G', rfl, hzz, hr', hI', hE, hds, _⟩
  case inr =>
    obtain ⟨v', m'', hlv, hZ⟩ := hz _ _ hzz
    obtain ⟨G'', g1, g2, g3⟩ := hlv.sound hI hE hI' hr'
    exact ⟨hds, .inr ⟨y, v', m'', G'', rfl, hZ, g1, g2, g3⟩⟩
  have fin : aRes P f m' fn.results.toList (fun vs => ∃ v' m'', Leave m m' (pack vs) v' m'' ∧ R v' m'') → a.defers = [] ∧ ∃ y, (results fn a.tmps).run P w' = .ok y w' ∧ ((∃ y' v m'' G'', Ending.returned y = .returned y' ∧ R v m'' ∧ Rep G'' w' v y' ∧ Inv G'' m'' w' ∧ Ext G w G'' w') ∨ (∃ y' v m'' G'', Ending.returned y = .panicked [{ v := y', recovered := false }] ∧ Z v m'' ∧ Rep G'' w' v y' ∧ Inv G'' m'' w' ∧ Ext G w G'' w')) := fun ha => by
    obtain ⟨us, ys, ⟨v', m'', hlv, hR⟩, h2, h3, h4⟩ := aRes_sound hS'.inv hS'.fr _ ha
    have hpk : ∃ y, Rep G' w' (pack us) y ∧ (results fn a.tmps).run P w' = .ok y w' := by
      have e : (fn.results.mapM (resF a.tmps)).run P w' = .ok ys.toArray w' := by
        rw [Array.mapM_eq_mapM_toList, ← bind_pure_comp, Sem.run_bind, h4]
        rfl
      by_cases h1 : ys.length = 1
      · obtain ⟨y, rfl⟩ := List.length_eq_one_iff.1 h1
        obtain ⟨u, rfl⟩ := List.length_eq_one_iff.1 (h2.trans h1)
        refine ⟨y, by simpa [pack] using h3 0 (by simp) (by simp), ?_⟩
        rw [results_run, e]
        rfl
      · refine ⟨.tuple ys.toArray, ?_, ?_⟩
        · have : pack us = .tp us := by
            cases us with
            | nil => rfl
            | cons u us =>
              cases us with
              | nil => simp at h2; omega
              | cons u' us => rfl
          rw [this]
          exact .tp us ys h2 h3
        · rw [results_run, e]
          simp only [Result.andThen_ok, List.size_toArray, h1, dite_false]
    obtain ⟨y, hy1, hy2⟩ := hpk
    obtain ⟨G'', g1, g2, g3⟩ := hlv.sound hI hE hS'.inv hy1
    exact ⟨hS'.defers, y, hy2, .inl ⟨y, v', m'', G'', rfl, hR, g1, g2, g3⟩⟩
  cases e with
  | normal => exact fin hp
  | ret => exact fin hp
  | _ => exact hp.elim
theorem ACallsZ.enter {P : Program} {mu : List Nat} {g : FuncId} {fn : Func} {c : Code} {args : List PV} {m : M} {R Z : PV → M → Prop} (hmix : P.follows .mixedOrders = true) (hf : P.funcs[g]? = some fn) (hb : fn.body = some c) (hc : canCall P g = true)
    (hbd : Go.Code.bd (.of fn.ntmps) c = true) (hn : args.length ≤ fn.ntmps) (h : aCode P mu (LeaveZ m Z) c (aPost P fn.results.toList m R) (F.args args) m) : ACallsZ P g args m R Z := ACallsZ.enterG (fun _ _ h => h) hmix hf hb hc hbd hn h
theorem ACalls.enter {P : Program} {mu : List Nat} {g : FuncId} {fn : Func} {c : Code} {args : List PV} {m : M} {R : PV → M → Prop} (hmix : P.follows .mixedOrders = true) (hf : P.funcs[g]? = some fn) (hb : fn.body = some c) (hc : canCall P g = true)
    (hbd : Go.Code.bd (.of fn.ntmps) c = true) (hn : args.length ≤ fn.ntmps) (h : aCode P mu noZ c (aPost P fn.results.toList m R) (F.args args) m) : ACalls P g args m R := ACallsZ.enterG (fun _ _ h => h.elim) hmix hf hb hc hbd hn h
end Go.Proofs.Ytamdnlnoioglnaa
