/-
 A slice that was written to is settled: from there on it reads as a plain list.
-/
-- halved
import Derived.Test.YtibhhoknipdlpaaAbFloat
set_option linter.unusedVariables false
set_option linter.unusedSimpArgs false
namespace Go.Proofs.Ytibhhoknipdlpaa
open Go Go.RowKit

mutual
/-- The slice of a whole box becomes a list; what else points into it is forgotten. -/
def PV.frz (id : Nat) (xs : List PV) : PV → PV
 | .bs i o l => if i = id then (if o = 0 ∧ l = xs.length then .sl .no xs else .junk) else .bs i o l
 | .gs i l c => if i = id then .junk else .gs i l c
 | .bp i o => if i = id then .ep ((xs.flatMap PV.cells).drop o) else .bp i o
 | .mp i => .mp i
 | .it i => .it i
 | .ag ys => .ag (PV.frzs id xs ys)
 | .tp ys => .tp (PV.frzs id xs ys)
 | .fn f a b => .fn f (PV.frzs id xs a) (PV.frzs id xs b)
 | .ifc t y => .ifc t (y.frz id xs)
 | .v y => .v y
 | .junk => .junk
 | .sl o ys => .sl o ys
 | .ep ys => .ep ys
def PV.frzs (id : Nat) (xs : List PV) : List PV → List PV
 | [] => []
 | y :: l => y.frz id xs :: PV.frzs id xs l
end
theorem frzs_eq (id : Nat) (xs l : List PV) : PV.frzs id xs l = l.map (PV.frz id xs) := by
 induction l with
 | nil => rfl
 | cons x l ih => simp [PV.frzs, ih]
theorem Rep.frz {G : Ghost} {w : World} {id : Nat} {xs : List PV} {sz : Nat} {cs : List Value} {e : TypeId} (hx : ∀ x ∈ xs, x.cells.length = sz ∧ x.ok = true) (hb : w.heap[G.box id]? = some (.cells cs.toArray e (0, 0))) (hrl : RL G w (xs.flatMap PV.cells) cs)
    {G' : Ghost} (hE : Ext G w G' w) (hset : ∀ o, G'.set (G.box id) o) {y : PV} {v : Value} (h : Rep G w y v) : Rep G' w (y.frz id xs) v := by
 induction h with
 | v h => exact .v h
 | junk x => exact .junk x
 | snil o ao ho => exact (Rep.snil o ao ho).mono hE
 | sl o ys b off cap sz' c hlen hc hp hr hcap hmax hfull htok ih => exact (Rep.sl o ys b off cap sz' c hlen hc hp hr hcap hmax hfull htok).mono hE
 | ag ys cs' hl h h1 ih =>
  simp only [PV.frz, frzs_eq]
  exact .ag _ cs' (by simpa using hl) (fun j k1 k2 => by simpa using ih j (by simpa using k1) k2) h1
 | tp ys cs' hl h ih =>
  simp only [PV.frz, frzs_eq]
  exact .tp _ cs' (by simpa using hl) (fun j k1 k2 => by simpa using ih j (by simpa using k1) k2)
 | mp i h hm => exact (Rep.mp i h hm).mono hE
 | it i h hm => exact (Rep.it i h hm).mono hE
 | bp i off h hm =>
  simp only [PV.frz]
  split
  ·rename_i hi
   subst hi
   have hok : ∀ y ∈ xs.flatMap PV.cells, y.pure = true ∧ y.one = true := fun y hy => by
    obtain ⟨x, hxm, hyc⟩ := List.mem_flatMap.1 hy
    obtain ⟨j, hj, rfl⟩ := List.mem_iff_getElem.1 hyc
    exact ok_cells (hx x hxm).2 j hj
   refine .ep _ _ _ (fun k => cs.getD (off + k) undef) (fun k hk => ⟨?_, .inr (hset _)⟩) (fun j hj => by rw [List.getElem_drop]; exact hok _ (List.getElem_mem _)) (fun j hj => ?_)
   ·have hk' : off + k < cs.length := by rw [← hrl.len]; rw [List.length_drop] at hk; omega
    rw [World.cell?, hb]
    simp [List.getD, hk']
   ·have hj' : off + j < (xs.flatMap PV.cells).length := by rw [List.length_drop] at hj; omega
    have hj2 : off + j < cs.length := by rw [← hrl.len]; exact hj'
    rw [List.getElem_drop]
    have := (hrl.mono hE).rep (off + j) hj' hj2
    simpa [List.getD, hj2] using this
  ·exact (Rep.bp i off h hm).mono hE
 | bs i off len cap h hm hcap hmax =>
  simp only [PV.frz]
  split
  ·rename_i hi
   subst hi
   split
   ·rename_i ho
    obtain ⟨rfl, rfl⟩ := ho
    refine slice_rep (sz := sz) (fun x q => (hx x q).1) (fun x q => (hx x q).2) (hrl.mono hE) (fun k hk => ⟨?_, .inr (hset _)⟩) hcap hmax (fun h => by cases h) (fun t h => by cases h)
    rw [World.cell?, hb]
    simp
   ·exact .junk _
  ·exact (Rep.bs i off len cap h hm hcap hmax).mono hE
 | gs i len cap h hm hcap hmax =>
  simp only [PV.frz]
  split
  ·exact .junk _
  ·exact (Rep.gs i len cap h hm hcap hmax).mono hE
 | ep ys b off c hc hp hr ih => exact (Rep.ep ys b off c hc hp hr).mono hE
 | fn f a b a' b' ha hb' h1 h2 ih1 ih2 =>
  simp only [PV.frz, frzs_eq]
  exact .fn f _ _ a' b' (by simpa using ha) (by simpa using hb') (fun j k1 k2 => by simpa using ih1 j (by simpa using k1) k2) (fun j k1 k2 => by simpa using ih2 j (by simpa using k1) k2)
 | ifc t x y h ih => exact .ifc t _ y ih

/-- A step of the ghosts alone: a box is settled, and slots and boxes may know it, or forget. -/
def GStep (f : F) (m : M) (f' : F) (m' : M) : Prop := (f' = f ∧ m' = m) ∨ ∃ id xs sz c1, m.get id = some c1 ∧ (c1 = xs.flatMap PV.cells ∨ c1.map PV.settle = xs.flatMap PV.cells) ∧ (∀ x ∈ xs, x.cells.length = sz ∧ x.ok = true) ∧ (∀ t, f' t = f t ∨ f' t = (f t).frz id xs ∨ f' t = .junk) ∧
 m'.toks = m.toks ∧ m'.boxes.length = m.boxes.length ∧ ∀ k c, m'.get k = some c → k ≠ id ∧ (m.get k = some c ∨ ∃ c0, m.get k = some c0 ∧ c = c0.map (PV.frz id xs))

theorem GStep.sound {n : Fi} {ds : List Deferred} {G : Ghost} {f f' : F} {m m' : M} {a : Act} {w : World} (h : GStep f m f' m') (hS : St n ds G f m a w) : ∃ G', St n ds G' f' m' a w ∧ Ext G w G' w := by
 rcases h with ⟨rfl, rfl⟩ | ⟨id, xs, sz, c1, hid, hc1, hx, hf, htk, hln, hm⟩
 ·exact ⟨G, hS, Ext.refl _ _⟩
 ·have hI := hS.inv
  have hmp : G.mp id = false := by
   cases hq : G.mp id with
   | false => rfl
   | true =>
    obtain ⟨ob, _, q2, _⟩ := hI.box id _ hid
    rw [hq] at q2
    have hone : ∀ y ∈ xs.flatMap PV.cells, y.one = true := fun y hy => by
     obtain ⟨x, hxm, hyc⟩ := List.mem_flatMap.1 hy
     obtain ⟨j, hj, rfl⟩ := List.mem_iff_getElem.1 hyc
     exact (ok_cells (hx x hxm).2 j hj).2
    cases q2 with
    | iter mid bm since st seen tl =>
     rcases hc1 with hc1 | hc1
     ·have := hone (.tp (seen.map fun (n : Nat) => .v (.int .i64 n))) (by rw [← hc1]; simp)
      simp [PV.one] at this
     ·have := hone (PV.settle (.tp (seen.map fun (n : Nat) => .v (.int .i64 n)))) (by rw [← hc1]; simp)
      simp [PV.settle, PV.one] at this
    | map ks vs es b0 tl =>
     rcases hc1 with hc1 | hc1
     ·have := hone (.tp vs) (by rw [← hc1]; simp)
      simp [PV.one] at this
     ·have := hone (PV.settle (.tp vs)) (by rw [← hc1]; simp)
      simp [PV.settle, PV.one] at this
  obtain ⟨cs, e, h1, h2, h3, h4, h5⟩ := hI.boxC hid hmp
  have hrl : RL G w (xs.flatMap PV.cells) cs := by
   rcases hc1 with rfl | hc1
   ·exact ⟨h2, h3, h4⟩
   ·rw [← hc1]
    exact ⟨by simpa using h2, fun j q1 q2 => by simpa using (h3 j (by simpa using q1) q2).settle, h4⟩
  have hlt : G.box id < w.heap.size := (Array.getElem?_eq_some_iff.1 h1).1
  let G' := G.more (G.box id) (fun _ => True)
  have hE : Ext G w G' w := ⟨rfl, Nat.le_refl _, fun _ _ => rfl, fun _ _ => rfl, Nat.le_refl _, fun _ _ => rfl, fun _ _ h => .inl h, fun _ _ _ => rfl, Below.refl _ _⟩
  have hset : ∀ o, G'.set (G.box id) o := fun o => .inr ⟨rfl, trivial⟩
  have hrep := fun {y : PV} {v : Value} (h : Rep G w y v) => h.frz (id := id) (xs := xs) (sz := sz) hx h1 hrl hE hset
  have hget : ∀ k c, m'.get k = some c → k ≠ id ∧ ∃ c0, m.get k = some c0 ∧ ∀ b o, BoxAt G w b o c0 → BoxAt G' w b o c := fun k c hc => by
   obtain ⟨hk, hc1⟩ := hm k c hc
   refine ⟨hk, ?_⟩
   rcases hc1 with hc1 | ⟨c0, hc0, rfl⟩
   ·exact ⟨c, hc1, fun b o hb => hb.mono hE⟩
   ·refine ⟨c0, hc0, fun b o hb => ?_⟩
    cases hb with
    | cells _ cs e hl hr h1 => exact .cells _ cs e (by simpa using hl) (fun j q1 q2 => by simpa using hrep (hr j (by simpa using q1) q2)) h1
    | iter mid bm since st seen tl htl hs hm =>
     have hkk : PV.frzs id xs (seen.map fun (n : Nat) => .v (.int .i64 n)) = seen.map fun (n : Nat) => .v (.int .i64 n) := by
      rw [frzs_eq, List.map_map]
      rfl
     have htt : tl.map (PV.frz id xs) = tl := by rcases htl with ⟨_, rfl⟩ | rfl <;> rfl
     simp only [List.map_cons, PV.frz, hkk, htt]
     exact .iter mid bm since st seen tl htl hs (hm.mono hE)
    | map ks vs es b0 tl htl hb0 hk hl hr =>
     have htt : tl.map (PV.frz id xs) = tl := by rcases htl with rfl | rfl <;> rfl
     have hkk : PV.frzs id xs (ks.map fun k => .v (.string k)) = ks.map fun k => .v (.string k) := by
      rw [frzs_eq, List.map_map]
      rfl
     simp only [List.map_cons, PV.frz, hkk, htt]
     rw [frzs_eq]
     exact .map ks _ es b0 tl htl hb0 hk (by simpa using hl) (fun j q1 q2 => by simpa using hrep (hr j (by simpa using q1) q2))
  refine ⟨G', ⟨fun t => ?_, ?_, hS.defers, hS.size, hS.kept⟩, hE⟩
  ·rcases hf t with h | h | h
   ·rw [h]; exact (hS.fr t).mono hE
   ·rw [h]; exact hrep (hS.fr t)
   ·rw [h]; exact .junk _
  refine ⟨by show _ = G.nb; rw [hln]; exact hI.nb, by show _ = G.nt; rw [htk]; exact hI.nt, hI.base, fun k c hc => ?_, fun k c hc o ho => ?_, fun k k' c c' hc hc' he => ?_, fun t s ht => ?_, fun t t' s s' ha ha' => hI.tokd t t' s s' (by unfold M.alive at *; rwa [htk] at ha) (by unfold M.alive at *; rwa [htk] at ha'), fun b o hs => ?_, hI.lay⟩
  ·obtain ⟨hk, c0, hc0, hr0⟩ := hget k c hc
   obtain ⟨o1, a1, a2, a5⟩ := hI.box k c0 hc0
   exact ⟨o1, a1, hr0 _ _ a2, a5⟩
  ·obtain ⟨hk, c0, hc0, _⟩ := hget k c hc
   rcases ho with ho | ⟨ho, _⟩
   ·exact hI.boxset k c0 hc0 o ho
   ·exact hk (hI.inj k id c0 _ hc0 hid ho)
  ·obtain ⟨_, c0, hc0, _⟩ := hget k c hc
   obtain ⟨_, c1, hc1, _⟩ := hget k' c' hc'
   exact hI.inj k k' c0 c1 hc0 hc1 he
  ·obtain ⟨a1, a2⟩ := hI.tok t s (by unfold M.alive at *; rwa [htk] at ht)
   refine ⟨a1, fun b o hbo => ?_⟩
   obtain ⟨d1, d2, d3, d4, d5⟩ := a2 b o hbo
   refine ⟨d1, fun hs => ?_, d3, d4, fun k c hc => ?_⟩
   ·rcases hs with hs | ⟨hs, _⟩
    ·exact d2 hs
    ·exact d5 id _ hid hs.symm
   ·obtain ⟨_, c0, hc0, _⟩ := hget k c hc
    exact d5 k c0 hc0
  ·rcases hs with hs | ⟨hs, _⟩
   ·exact hI.set b o hs
   ·rw [hs]; exact hlt
end Go.Proofs.Ytibhhoknipdlpaa
