/-
 Later boxes and tokens are forgotten.
-/
-- halved
import Derived.Test.YtibhhoknipdlpaaAbFrz
set_option linter.unusedVariables false
set_option linter.unusedSimpArgs false
namespace Go.Proofs.Ytibhhoknipdlpaa
open Go Go.RowKit

def Ghost.cut (G : Ghost) (n k : Nat) : Ghost := { G with nb := n, nt := k }

theorem Rep.pureCut {G : Ghost} {w : World} {x : PV} {v : Value} (h : Rep G w x v) (hp : x.pure = true) (n k : Nat) : Rep (G.cut n k) w x v :=
 @Rep.pure_mono G (G.cut n k) w w (fun b o hs => hs) (fun b o _ => rfl) x v h hp

/-- What read without the later boxes and tokens reads without them still. -/
theorem Rep.cut {G0 : Ghost} {w0 : World} {x : PV} {v0 : Value} (h0 : Rep G0 w0 x v0) {n k : Nat} (hn : G0.nb ≤ n) (hk : G0.nt ≤ k) : ∀ {G : Ghost} {w : World} {v : Value}, Rep G w x v → Rep (G.cut n k) w x v := by
 have pureCut : ∀ {G : Ghost} {w : World} {x : PV} {v : Value}, Rep G w x v → x.pure = true → Rep (G.cut n k) w x v := fun h hp => h.pureCut hp n k
 induction h0 with
 | v h => intro G w v h; exact pureCut h rfl
 | junk x => intro G w v h; exact .junk _
 | snil o ao ho =>
  intro G w v h
  cases h with
  | snil _ ao' ho' => exact .snil o ao' fun t ht => ⟨Nat.lt_of_lt_of_le (ho t ht).1 hk, (ho' t ht).2⟩
  | sl _ _ b off cap sz c hlen hc hp hr hcap hmax hfull htok =>
   exact .sl o [] b off cap sz c hlen hc hp (fun i hi => by simp at hi) hcap hmax hfull fun t ht => ⟨Nat.lt_of_lt_of_le (ho t ht).1 hk, (htok t ht).2⟩
 | sl o xs b0 off0 cap0 sz0 c0 hlen0 hc0 hp0 hr0 hcap0 hmax0 hfull0 htok0 ih =>
  intro G w v h
  cases h with
  | snil _ ao' ho' => exact .snil o ao' fun t ht => ⟨Nat.lt_of_lt_of_le (htok0 t ht).1 hk, (ho' t ht).2⟩
  | sl _ _ b off cap sz c hlen hc hp hr hcap hmax hfull htok =>
   exact .sl o xs b off cap sz c hlen hc hp (fun i hi j hj => pureCut (hr i hi j hj) (ok_cells (hp i hi) j hj).1) hcap hmax hfull fun t ht => ⟨Nat.lt_of_lt_of_le (htok0 t ht).1 hk, (htok t ht).2⟩
 | ag xs cs0 hl0 h0 h1 ih =>
  intro G w v h
  cases h with
  | ag _ cs hl hr h1 => exact .ag xs cs hl (fun j k1 k2 => ih j k1 (hl0 ▸ k1) (hr j k1 k2)) h1
 | tp xs cs0 hl0 h0 ih =>
  intro G w v h
  cases h with
  | tp _ cs hl hr => exact .tp xs cs hl (fun j k1 k2 => ih j k1 (hl0 ▸ k1) (hr j k1 k2))
 | mp id hid hm =>
  intro G w v h
  cases h with
  | mp _ _ hm' => exact Rep.mp (G := G.cut n k) id (Nat.lt_of_lt_of_le hid hn) hm'
 | it id hid hm =>
  intro G w v h
  cases h with
  | it _ _ hm' => exact Rep.it (G := G.cut n k) id (Nat.lt_of_lt_of_le hid hn) hm'
 | bp id off hid hm =>
  intro G w v h
  cases h with
  | bp _ _ _ hm' => exact Rep.bp (G := G.cut n k) id off (Nat.lt_of_lt_of_le hid hn) hm'
 | bs id off len cap hid hm hcap hmax =>
  intro G w v h
  cases h with
  | bs _ _ _ cap' _ hm' hcap' hmax' => exact Rep.bs (G := G.cut n k) id off len cap' (Nat.lt_of_lt_of_le hid hn) hm' hcap' hmax'
 | gs id len cap hid hm hcap hmax =>
  intro G w v h
  cases h with
  | gs _ _ _ _ hm' hcap' hmax' => exact Rep.gs (G := G.cut n k) id len cap (Nat.lt_of_lt_of_le hid hn) hm' hcap' hmax'
 | ep xs b0 off0 c0 hc0 hp0 hr0 ih => intro G w v h; exact pureCut h rfl
 | fn f a b a0 b0 ha0 hb0 h1 h2 ih1 ih2 =>
  intro G w v h
  cases h with
  | fn _ _ _ a' b' ha hb k1 k2 => exact .fn f a b a' b' ha hb (fun j q1 q2 => ih1 j q1 (ha0 ▸ q1) (k1 j q1 q2)) (fun j q1 q2 => ih2 j q1 (hb0 ▸ q1) (k2 j q1 q2))
 | ifc t x y h ih =>
  intro G w v h
  cases h with
  | ifc _ _ y' h' => exact .ifc t x y' (ih h')

/-- Content that read before the later boxes and tokens reads without them. -/
theorem BoxAt.cut {G0 G : Ghost} {w0 w : World} {b0 b : Bool} {o0 o : Obj} {c : List PV} (h0 : BoxAt G0 w0 b0 o0 c) {n k : Nat} (hn : G0.nb ≤ n) (hk : G0.nt ≤ k) (h : BoxAt G w b o c) : BoxAt (G.cut n k) w b o c := by
 cases h with
 | cells _ cs e hl hr h1 =>
  cases h0 with
  | cells _ cs0 e0 hl0 hr0 h10 => exact .cells _ cs e hl (fun j q1 q2 => (hr0 j q1 (hl0 ▸ q1)).cut hn hk (hr j q1 q2)) h1
  | map ks vs es b0 tl htl hb0 hkk hl0 hr0 =>
   have hv := hr 1 (by simp) (by rw [← hl]; simp)
   have := h1 _ (List.getElem_mem (by rw [← hl]; simp : 1 < cs.length))
   simp only [List.getElem_cons_succ, List.getElem_cons_zero] at hv
   generalize cs[1]'(by rw [← hl]; simp) = u at hv this
   cases hv
   simp [Value.oneCell'] at this
  | iter mid bm since st seen tl htl hs hm =>
   have hv := hr 1 (by simp) (by rw [← hl]; simp)
   have := h1 _ (List.getElem_mem (by rw [← hl]; simp : 1 < cs.length))
   simp only [List.getElem_cons_succ, List.getElem_cons_zero] at hv
   generalize cs[1]'(by rw [← hl]; simp) = u at hv this
   cases hv
   simp [Value.oneCell'] at this
 | map ks vs es b0 tl htl hb0 hkk hl hr =>
  generalize hc : PV.tp (ks.map fun k => .v (.string k)) :: .tp vs :: tl = c at h0
  cases h0 with
  | cells _ cs0 e0 hl0 hr0 h10 =>
   subst hc
   have hv := hr0 1 (by simp) (by rw [← hl0]; simp)
   have := h10 _ (List.getElem_mem (by rw [← hl0]; simp : 1 < cs0.length))
   simp only [List.getElem_cons_succ, List.getElem_cons_zero] at hv
   generalize cs0[1]'(by rw [← hl0]; simp) = u at hv this
   cases hv
   simp [Value.oneCell'] at this
  | map ks0 vs0 es0 b00 tl0 htl0 hb00 hkk0 hl0 hr0 =>
   simp only [List.cons.injEq, PV.tp.injEq] at hc
   obtain ⟨hc1, rfl, rfl⟩ := hc
   rw [← hc1]
   exact .map ks vs es b0 tl htl hb0 hkk hl (fun j q1 q2 => (hr0 j q1 (hl0 ▸ q1)).cut hn hk (hr j q1 q2))
  | iter mid bm since st seen tl htl hs hm => simp at hc
 | iter mid bm since st seen tl htl hs hm =>
  generalize hc : PV.mp mid :: .tp (seen.map fun (n : Nat) => .v (.int .i64 n)) :: tl = c at h0
  cases h0 with
  | cells _ cs0 e0 hl0 hr0 h10 =>
   subst hc
   have hv := hr0 1 (by simp) (by rw [← hl0]; simp)
   have := h10 _ (List.getElem_mem (by rw [← hl0]; simp : 1 < cs0.length))
   simp only [List.getElem_cons_succ, List.getElem_cons_zero] at hv
   generalize cs0[1]'(by rw [← hl0]; simp) = u at hv this
   cases hv
   simp [Value.oneCell'] at this
  | map ks0 vs0 es0 b00 tl0 htl0 hb00 hkk0 hl0 hr0 => simp at hc
  | iter mid0 bm0 since0 st0 seen0 tl0 htl0 hs0 hm0 =>
   simp only [List.cons.injEq, PV.mp.injEq, PV.tp.injEq] at hc
   obtain ⟨rfl, hc1, rfl⟩ := hc
   rw [← hc1]
   exact .iter mid bm since st seen tl htl hs (hm0.cut hn hk hm)
theorem BoxAt.impP {G G' : Ghost} {w : World} {b : Bool} {o : Obj} {c : List PV} (hb : BoxAt G w b o c) (hp : PV.pures c = true) (h : ∀ x y, x.pure = true → Rep G w x y → Rep G' w x y) : BoxAt G' w b o c := by
 cases hb with
 | cells _ cs e hl hr h1 => exact .cells _ cs e hl (fun j q1 q2 => h _ _ ((pures_iff _).1 hp _ (List.getElem_mem _)) (hr j q1 q2)) h1
 | iter mid bm since st seen tl htl hs hm => simp [PV.pures, PV.pure] at hp
 | map ks vs es b0 tl htl hb0 hk hl hr =>
  have hv : PV.pures vs = true := by have := (pures_iff _).1 hp (.tp vs) (by simp); simpa [PV.pure] using this
  exact .map ks vs es b0 tl htl hb0 hk hl (fun j q1 q2 => h _ _ ((pures_iff _).1 hv _ (List.getElem_mem _)) (hr j q1 q2))

theorem cut_inv {G0 G : Ghost} {m0 m m' : M} {w0 w : World} (hI0 : Inv G0 m0 w0) (hE : Ext G0 w0 G w) (hI : Inv G m w) {k : Nat} (hk : G0.nt ≤ k) (hb : m'.boxes.length = G0.nb) (ht : m'.toks.length = k)
    (hget : ∀ id c, m'.get id = some c → m.get id = some c ∧ (m0.get id = some c ∨ PV.pures c = true)) (hal : ∀ t s, m'.alive t s → m.alive t s) :
    Inv (G.cut G0.nb k) m' w ∧ Ext G0 w0 (G.cut G0.nb k) w := by
 refine ⟨⟨hb, ht, hI.base, fun id c hc => ?_, fun id c hc => hI.boxset id c (hget id c hc).1, fun id id' c c' h h' => hI.inj id id' c c' (hget id c h).1 (hget id' c' h').1, fun t s h => ?_, fun t t' s s' h h' => hI.tokd t t' s s' (hal t s h) (hal t' s' h'), hI.set, hI.lay⟩,
  ⟨hE.base, Nat.le_refl _, hE.box, hE.mp, hk, hE.res, hE.set, hE.cell, hE.below⟩⟩
 ·obtain ⟨h1, h2⟩ := hget id c hc
  obtain ⟨o, a1, a2, a5⟩ := hI.box id c h1
  refine ⟨o, a1, ?_, a5⟩
  rcases h2 with h2 | h2
  ·obtain ⟨o0, b1, b2, b5⟩ := hI0.box id c h2
   exact b2.cut (Nat.le_refl _) hk a2
  ·exact a2.impP h2 fun x y hx hr => hr.pureCut hx _ _
 ·obtain ⟨a1, a2⟩ := hI.tok t s (hal t s h)
  refine ⟨a1, fun b o hbo => ?_⟩
  obtain ⟨q1, q2, q3, q4, q5⟩ := a2 b o hbo
  exact ⟨q1, q2, q3, q4, fun id c hc => q5 id c (hget id c hc).1⟩

mutual
/-- Boxes below n, tokens below k alone. -/
def PV.within (n k : Nat) : PV → Bool
 | .v _ | .junk | .ep _ => true
 | .sl o _ => match o with | .tok t => decide (t < k) | _ => true
 | .ag xs => PV.withins n k xs
 | .tp xs => PV.withins n k xs
 | .bp id _ => decide (id < n)
 | .mp id => decide (id < n)
 | .it id => decide (id < n)
 | .bs id _ _ => decide (id < n)
 | .gs id _ _ => decide (id < n)
 | .fn _ a b => PV.withins n k a && PV.withins n k b
 | .ifc _ x => x.within n k
def PV.withins (n k : Nat) : List PV → Bool
 | [] => true
 | x :: l => x.within n k && PV.withins n k l
end
theorem withins_iff {n k : Nat} (l : List PV) : PV.withins n k l = true ↔ ∀ x ∈ l, x.within n k = true := by
 induction l with
 | nil => simp [PV.withins]
 | cons x l ih => simp [PV.withins, ih]
theorem Rep.cutW {G : Ghost} {w : World} {x : PV} {v : Value} (h : Rep G w x v) {n k : Nat} (hp : x.within n k = true) : Rep (G.cut n k) w x v := by
 induction h with
 | v h => exact .v h
 | junk x => exact .junk x
 | snil o ao ho =>
  refine .snil o ao fun t ht => ⟨?_, (ho t ht).2⟩
  subst ht
  show t < k
  simpa [PV.within] using hp
 | sl o xs b off cap sz c hlen hc hpp hr hcap hmax hfull htok ih =>
  refine .sl o xs b off cap sz c hlen hc hpp (fun i hi j hj => (hr i hi j hj).pureCut (ok_cells (hpp i hi) j hj).1 n k) hcap hmax hfull fun t ht => ⟨?_, (htok t ht).2⟩
  subst ht
  show t < k
  simpa [PV.within] using hp
 | ag xs cs hl h h1 ih =>
  simp only [PV.within] at hp
  exact .ag xs cs hl (fun j k1 k2 => ih j k1 k2 ((withins_iff _).1 hp _ (List.getElem_mem _))) h1
 | tp xs cs hl h ih =>
  simp only [PV.within] at hp
  exact .tp xs cs hl (fun j k1 k2 => ih j k1 k2 ((withins_iff _).1 hp _ (List.getElem_mem _)))
 | mp id h hm => exact Rep.mp (G := G.cut n k) id (by show id < n; simpa [PV.within] using hp) hm
 | it id h hm => exact Rep.it (G := G.cut n k) id (by show id < n; simpa [PV.within] using hp) hm
 | bp id off h hm => exact Rep.bp (G := G.cut n k) id off (by show id < n; simpa [PV.within] using hp) hm
 | bs id off len cap h hm hcap hmax => exact Rep.bs (G := G.cut n k) id off len cap (by show id < n; simpa [PV.within] using hp) hm hcap hmax
 | gs id len cap h hm hcap hmax => exact Rep.gs (G := G.cut n k) id len cap (by show id < n; simpa [PV.within] using hp) hm hcap hmax
 | ep xs b off c hc hpp hr ih => exact (Rep.ep xs b off c hc hpp hr).pureCut rfl n k
 | fn f a b a' b' ha hb h1 h2 ih1 ih2 =>
  simp only [PV.within, Bool.and_eq_true] at hp
  exact .fn f a b a' b' ha hb (fun j q1 q2 => ih1 j q1 q2 ((withins_iff _).1 hp.1 _ (List.getElem_mem _))) (fun j q1 q2 => ih2 j q1 q2 ((withins_iff _).1 hp.2 _ (List.getElem_mem _)))
 | ifc t x y h ih =>
  simp only [PV.within] at hp
  exact .ifc t x y (ih hp)

theorem BoxAt.impW {G G' : Ghost} {w : World} {n k : Nat} {b : Bool} {o : Obj} {c : List PV} (hb : BoxAt G w b o c) (hp : PV.withins n k c = true) (h : ∀ x y, x.within n k = true → Rep G w x y → Rep G' w x y) : BoxAt G' w b o c := by
 cases hb with
 | cells _ cs e hl hr h1 => exact .cells _ cs e hl (fun j q1 q2 => h _ _ ((withins_iff _).1 hp _ (List.getElem_mem _)) (hr j q1 q2)) h1
 | iter mid bm since st seen tl htl hs hm => exact .iter mid bm since st seen tl htl hs (h _ _ ((withins_iff _).1 hp _ (by simp)) hm)
 | map ks vs es b0 tl htl hb0 hk hl hr =>
  have hv : PV.withins n k vs = true := by have := (withins_iff _).1 hp (.tp vs) (by simp); simpa [PV.within] using this
  exact .map ks vs es b0 tl htl hb0 hk hl (fun j q1 q2 => h _ _ ((withins_iff _).1 hv _ (List.getElem_mem _)) (hr j q1 q2))
theorem cut_invW {G0 G : Ghost} {m0 m m' : M} {w0 w : World} (hI0 : Inv G0 m0 w0) (hE : Ext G0 w0 G w) (hI : Inv G m w) {n k : Nat} (hn : G0.nb ≤ n) (hk : G0.nt ≤ k) (hb : m'.boxes.length = n) (ht : m'.toks.length = k)
    (hget : ∀ id c, m'.get id = some c → m.get id = some c ∧ (m0.get id = some c ∨ PV.withins n k c = true)) (hal : ∀ t s, m'.alive t s → m.alive t s) :
    Inv (G.cut n k) m' w ∧ Ext G0 w0 (G.cut n k) w := by
 refine ⟨⟨hb, ht, hI.base, fun id c hc => ?_, fun id c hc => hI.boxset id c (hget id c hc).1, fun id id' c c' h h' => hI.inj id id' c c' (hget id c h).1 (hget id' c' h').1, fun t s h => ?_, fun t t' s s' h h' => hI.tokd t t' s s' (hal t s h) (hal t' s' h'), hI.set, hI.lay⟩,
  ⟨hE.base, hn, hE.box, hE.mp, hk, hE.res, hE.set, hE.cell, hE.below⟩⟩
 ·obtain ⟨h1, h2⟩ := hget id c hc
  obtain ⟨o, a1, a2, a5⟩ := hI.box id c h1
  refine ⟨o, a1, ?_, a5⟩
  rcases h2 with h2 | h2
  ·obtain ⟨o0, b1, b2, b5⟩ := hI0.box id c h2
   exact b2.cut hn hk a2
  ·exact a2.impW h2 fun x y hx hr => hr.cutW hx
 ·obtain ⟨a1, a2⟩ := hI.tok t s (hal t s h)
  refine ⟨a1, fun b o hbo => ?_⟩
  obtain ⟨q1, q2, q3, q4, q5⟩ := a2 b o hbo
  exact ⟨q1, q2, q3, q4, fun id c hc => q5 id c (hget id c hc).1⟩

theorem take_get {m m' : M} {n : Nat} (hb : m.boxes.take n = m'.boxes) {id : Nat} {c : List PV} (h : m'.get id = some c) : m.get id = some c := by
 unfold M.get at *
 rw [← hb, List.getElem?_take] at h
 split at h
 ·exact h
 ·cases h
theorem take_alive {m m' : M} {n : Nat} (ht : m.toks.take n = m'.toks) {t s : Nat} (h : m'.alive t s) : m.alive t s := by
 unfold M.alive at *
 rw [← ht, List.getElem?_take] at h
 split at h
 ·exact h
 ·cases h


/-- The state cut back, not behind what stood at first (m0): slots and boxes that know more are forgotten, or settled. -/
def Trim (m0 : M) (f : F) (m : M) (f' : F) (m' : M) : Prop := (f' = f ∧ m' = m) ∨
 (m0.nb ≤ m'.nb ∧ m0.nt ≤ m'.nt ∧ m.boxes.take m'.nb = m'.boxes ∧ m.toks.take m'.nt = m'.toks ∧ (∀ id c, m'.get id = some c → m0.get id = some c ∨ PV.withins m'.nb m'.nt c = true) ∧
  ∀ t, ((f' t = f t ∨ f' t = (f t).settle) ∧ (f' t).within m'.nb m'.nt = true) ∨ f' t = .junk)
theorem Trim.sound {n : Fi} {ds : List Deferred} {G0 G : Ghost} {f f' : F} {m0 m m' : M} {a : Act} {w0 w : World} (h : Trim m0 f m f' m') (hI0 : Inv G0 m0 w0) (hE : Ext G0 w0 G w) (hS : St n ds G f m a w) : ∃ G', St n ds G' f' m' a w ∧ Ext G0 w0 G' w := by
 rcases h with ⟨rfl, rfl⟩ | ⟨hn, hk, hb, ht, hp, hf⟩
 ·exact ⟨G, hS, hE⟩
 ·obtain ⟨h1, h2⟩ := cut_invW (m' := m') hI0 hE hS.inv (n := m'.nb) (k := m'.nt) (by have : m0.nb = G0.nb := hI0.nb; omega) (by have : m0.nt = G0.nt := hI0.nt; omega) rfl rfl (fun id c hc => ⟨take_get hb hc, hp id c hc⟩) (fun t s ha => take_alive ht ha)
  refine ⟨_, ⟨fun t => ?_, h1, hS.defers, hS.size, hS.kept⟩, h2⟩
  rcases hf t with ⟨hv | hv, hw⟩ | hv
  ·have := hS.fr t
   rw [← hv] at this
   exact this.cutW hw
  ·have := (hS.fr t).settle
   rw [← hv] at this
   exact this.cutW hw
  ·rw [hv]; exact .junk _
end Go.Proofs.Ytibhhoknipdlpaa
