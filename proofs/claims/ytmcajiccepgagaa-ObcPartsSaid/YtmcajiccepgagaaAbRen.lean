/-
  Boxes are names: a state whose boxes are named anew.
-/
import Derived.Test.YtmcajiccepgagaaAbFn
set_option linter.unusedVariables false
set_option linter.unusedSimpArgs false
namespace Go.Proofs.Ytmcajiccepgagaa
open Go Go.RowKit

mutual
def PV.ren (s : Nat → Nat) : PV → PV
  | .bp i o => .bp (s i) o
  | .mp i => .mp (s i)
  | .it i => .it (s i)
  | .bs i o l => .bs (s i) o l
  | .ag ys => .ag (PV.rens s ys)
  | .tp ys => .tp (PV.rens s ys)
  | .fn f a b => .fn f (PV.rens s a) (PV.rens s b)
  | .ifc t y => .ifc t (y.ren s)
  | .v y => .v y
  | .junk => .junk
  | .sl o ys => .sl o ys
  | .ep ys => .ep ys
def PV.rens (s : Nat → Nat) : List PV → List PV
  | [] => []
  | y :: l => y.ren s :: PV.rens s l
end
theorem rens_eq (s : Nat → Nat) (l : List PV) : PV.rens s l = l.map (PV.ren s) := by
  induction l with
  | nil => rfl
  | cons x l ih => simp [PV.rens, ih]
def Ghost.ren (G : Ghost) (s : Nat → Nat) : Ghost := { G with box := fun i => G.box (s i), mp := fun i => G.mp (s i) }
theorem Rep.ren {G : Ghost} {w : World} {s : Nat → Nat} (hs : ∀ i, s (s i) = i) (hb : ∀ i, i < G.nb → s i < G.nb) {x : PV} {y : Value} (h : Rep G w x y) : Rep (G.ren s) w (x.ren s) y := by
  have box : ∀ i, (G.ren s).box (s i) = G.box i := fun i => by show G.box (s (s i)) = _; rw [hs]
  have mp : ∀ i, (G.ren s).mp (s i) = G.mp i := fun i => by show G.mp (s (s i)) = _; rw [hs]
  have pur : ∀ {x : PV} {y : Value}, Rep G w x y → x.pure = true → Rep (G.ren s) w x y := fun h hp => Rep.pure_mono (G := G) (G' := G.ren s) (fun _ _ h => h) (fun _ _ _ => rfl) h hp
  induction h with
  | v h => exact .v h
  | junk x => exact .junk x
  | snil o ao ho => exact .snil o ao ho
  | sl o ys b off cap sz' c hlen hc hp hr hcap hmax hfull htok ih => exact .sl o ys b off cap sz' c hlen hc hp (fun i hi j hj => pur (hr i hi j hj) (ok_cells (hp i hi) j hj).1) hcap hmax hfull htok
  | ag ys cs' hl h h1 ih =>
    simp only [PV.ren, rens_eq]
    exact .ag _ cs' (by simpa using hl) (fun j k1 k2 => by simpa using ih j (by simpa using k1) k2) h1
  | tp ys cs' hl h ih =>
    simp only [PV.ren, rens_eq]
    exact .tp _ cs' (by simpa using hl) (fun j k1 k2 => by simpa using ih j (by simpa using k1) k2)
  | mp i h hm =>
    have := Rep.mp (G := G.ren s) (w := w) (s i) (hb i h) ((mp i).trans hm)
    rwa [box] at this
  | it i h hm =>
    have := Rep.it (G := G.ren s) (w := w) (s i) (hb i h) ((mp i).trans hm)
    rwa [box] at this
  | bp i off h hm =>
    have := Rep.bp (G := G.ren s) (w := w) (s i) off (hb i h) ((mp i).trans hm)
    rwa [box] at this
  | bs i off len cap h hm hcap hmax =>
    have := Rep.bs (G := G.ren s) (w := w) (s i) off len cap (hb i h) ((mp i).trans hm) hcap hmax
    rwa [box] at this
  | ep ys b off c hc hp hr ih => exact .ep ys b off c hc hp (fun i hi => pur (hr i hi) (hp i hi).1)
  | fn f a b a' b' ha hb' h1 h2 ih1 ih2 =>
    simp only [PV.ren, rens_eq]
    exact .fn f _ _ a' b' (by simpa using ha) (by simpa using hb') (fun j k1 k2 => by simpa using ih1 j (by simpa using k1) k2) (fun j k1 k2 => by simpa using ih2 j (by simpa using k1) k2)
  | ifc t x y h ih => exact .ifc t _ y ih
theorem BoxAt.ren {G : Ghost} {w : World} {s : Nat → Nat} (hs : ∀ i, s (s i) = i) (hb : ∀ i, i < G.nb → s i < G.nb) {k : Bool} {o : Obj} {c : List PV} (h : BoxAt G w k o c) : BoxAt (G.ren s) w k o (c.map (PV.ren s)) := by
  cases h with
  | cells _ cs e hl hr h1 => exact .cells _ cs e (by simpa using hl) (fun j q1 q2 => by simpa using (hr j (by simpa using q1) q2).ren hs hb) h1
  | iter mid bm since st seen tl htl h2 hm =>
    have hkk : PV.rens s (seen.map fun (n : Nat) => .v (.int .i64 n)) = seen.map fun (n : Nat) => .v (.int .i64 n) := by
      rw [rens_eq, List.map_map]
      rfl
    have htt : tl.map (PV.ren s) = tl := by rcases htl with ⟨_, rfl⟩ | rfl <;> rfl
    simp only [List.map_cons, PV.ren, hkk, htt]
    exact .iter (s mid) bm since st seen tl htl h2 (hm.ren hs hb)
  | map ks vs es b0 tl htl hb0 hk hl hr =>
    have htt : tl.map (PV.ren s) = tl := by rcases htl with rfl | rfl <;> rfl
    have hkk : PV.rens s (ks.map fun k => .v (.string k)) = ks.map fun k => .v (.string k) := by
      rw [rens_eq, List.map_map]
      rfl
    simp only [List.map_cons, PV.ren, hkk, htt]
    rw [rens_eq]
    exact .map ks _ es b0 tl htl hb0 hk (by simpa using hl) (fun j q1 q2 => by simpa using (hr j (by simpa using q1) q2).ren hs hb)
/-- The boxes of a state, named anew. -/
structure Ren (s : Nat → Nat) (m m' : M) : Prop where
  inv : ∀ i, s (s i) = i
  bd : ∀ i, i < m.nb → s i < m.nb
  nb : m'.nb = m.nb
  toks : m'.toks = m.toks
  get : ∀ i, i < m.nb → m'.get (s i) = (m.get i).map fun c => c.map (PV.ren s)
theorem Inv.ren {G : Ghost} {m m' : M} {w : World} {s : Nat → Nat} (hI : Inv G m w) (h : Ren s m m') : Inv (G.ren s) m' w := by
  have hnb : m.nb = G.nb := hI.nb
  have hbd : ∀ i, i < G.nb → s i < G.nb := fun i hi => hnb ▸ h.bd i (hnb ▸ hi)
  have old : ∀ id c, m'.get id = some c → ∃ c0, m.get (s id) = some c0 ∧ c = c0.map (PV.ren s) := fun id c hc => by
    have hlt : id < m.nb := by have := M.get_lt hc; have e := h.nb; unfold M.nb at e; unfold M.nb; omega
    have := h.get (s id) (h.bd id hlt)
    rw [h.inv, hc] at this
    obtain ⟨c0, e1, e2⟩ := Option.map_eq_some_iff.1 this.symm
    exact ⟨c0, e1, e2.symm⟩
  have hal : ∀ t k, m'.alive t k → m.alive t k := fun t k ha => by unfold M.alive at *; rwa [h.toks] at ha
  refine ⟨h.nb.trans hI.nb, by show m'.toks.length = G.nt; rw [h.toks]; exact hI.nt, hI.base, fun id c hc => ?_, fun id c hc => ?_, fun id id' c c' hc hc' he => ?_, fun t k ht => ?_, fun t t' k k' ha ha' => hI.tokd t t' k k' (hal t k ha) (hal t' k' ha'), hI.set, hI.lay⟩
  · obtain ⟨c0, h0, rfl⟩ := old id c hc
    obtain ⟨o, a1, a2, a5⟩ := hI.box _ c0 h0
    exact ⟨o, a1, a2.ren h.inv hbd, a5⟩
  · obtain ⟨c0, h0, rfl⟩ := old id c hc
    exact hI.boxset _ c0 h0
  · obtain ⟨c0, h0, _⟩ := old id c hc
    obtain ⟨c1, h1, _⟩ := old id' c' hc'
    have := hI.inj _ _ c0 c1 h0 h1 he
    rw [← h.inv id, this, h.inv]
  · obtain ⟨a1, a2⟩ := hI.tok t k (hal t k ht)
    refine ⟨a1, fun b o hbo => ?_⟩
    obtain ⟨d1, d2, d3, d4, d5⟩ := a2 b o hbo
    refine ⟨d1, d2, d3, d4, fun id c hc => ?_⟩
    obtain ⟨c0, h0, _⟩ := old id c hc
    exact d5 _ c0 h0
theorem Ext.ren {G0 G : Ghost} {w0 w : World} {s : Nat → Nat} (h : Ext G0 w0 G w) (hf : ∀ i, i < G0.nb → s i = i) : Ext G0 w0 (G.ren s) w :=
  ⟨h.base, h.nb, fun i hi => by show G.box (s i) = _; rw [hf i hi]; exact h.box i hi, fun i hi => by show G.mp (s i) = _; rw [hf i hi]; exact h.mp i hi, h.nt, h.res, h.set, h.cell, h.below⟩
/-- A contract whose boxes are named anew. -/
theorem ACalls.ren {P : Program} {g : FuncId} {args : List PV} {m : M} {R R2 : PV → M → Prop} (h : ACalls P g args m R) (hl : ∀ v m', R v m' → R2 v m' ∨ ∃ s m2, Ren s m' m2 ∧ (∀ i, i < m.nb → s i = i) ∧ R2 (v.ren s) m2) : ACalls P g args m R2 := by
  refine ⟨h.1, fun G w vs hI hlen hr => (h.2 G w vs hI hlen hr).mono ?_⟩
  rintro e w' (⟨y, v', m', G', rfl, hR, h3, h4, h5⟩ | ⟨_, _, _, _, _, hz, _⟩)
  · rcases hl _ _ hR with hR2 | ⟨s, m2, hs, hf, hR2⟩
    · exact .inl ⟨y, v', m', G', rfl, hR2, h3, h4, h5⟩
    · have hnb : m'.nb = G'.nb := h4.nb
      have hnb0 : m.nb = G.nb := hI.nb
      exact .inl ⟨y, _, m2, G'.ren s, rfl, hR2, h3.ren hs.inv (fun i hi => hnb ▸ hs.bd i (hnb ▸ hi)), h4.ren hs, h5.ren (fun i hi => hf i (hnb0 ▸ hi))⟩
  · exact hz.elim
def swp (a b i : Nat) : Nat := if i = a then b else if i = b then a else i
theorem swp_inv (a b i : Nat) : swp a b (swp a b i) = i := by
  unfold swp
  by_cases h1 : i = a
  · subst h1
    by_cases h2 : b = i <;> simp [h2]
  · by_cases h2 : i = b
    · subst h2; simp [h1]
    · simp [h1, h2]
end Go.Proofs.Ytmcajiccepgagaa
