/-
 Texts that belong together: AbFrz, AbCut, AbEnd, AbEnC.
-/
-- halved
import Derived.Test.YthhhnfjcaicjnaaGreatDoorAbFloat
set_option linter.unusedVariables false
set_option linter.unusedSimpArgs false
namespace Go.Proofs.YthhhnfjcaicjnaaGreatDoor
open Go Go.RowKit

mutual
def PV.frz (id : Nat) (xs : List PV) : PV → PV
 | .bs i o l => if i = id then (if o = 0 ∧ l = xs.length then .sl .no xs else .junk) else .bs i o l
 | .gs i l c => if i = id then (if l = xs.length then .sl .no xs else .junk) else .gs i l c
 | .bp i o => if i = id then .ep ((xs.flatMap PV.cells).drop o) else .bp i o
 | .mp i => .mp i
 | .it i => .it i
 | .ag ys => .ag (PV.frzs id xs ys)
 | .tp ys => .tp (PV.frzs id xs ys)
 | .fn f a b => .fn f (PV.frzs id xs a) (PV.frzs id xs b)
 | .ifc t y => .ifc t (y.frz id xs)
 | .v y => .v y
 | .junk => .junk
 | .sl o ys => .sl o ys
 | .ep ys => .ep ys
def PV.frzs (id : Nat) (xs : List PV) : List PV → List PV
 | [] => []
 | y :: l => y.frz id xs :: PV.frzs id xs l
end
theorem frzs_eq (id : Nat) (xs l : List PV) : PV.frzs id xs l = l.map (PV.frz id xs) := by
 induction l with
 | nil => rfl
 | cons x l ih => simp [PV.frzs, ih]
theorem Rep.frz {G : Ghost} {w : World} {id : Nat} {xs : List PV} {sz : Nat} {cs r : List Value} {e : TypeId} (hx : ∀ x ∈ xs, x.cells.length = sz ∧ x.ok = true) (hb : w.heap[G.box id]? = some (.cells (cs ++ r).toArray e (0, 0))) (hrl : RL G w (xs.flatMap PV.cells) cs)
    {G' : Ghost} (hE : Ext G w G' w) (hset : ∀ o, G'.set (G.box id) o) {y : PV} {v : Value} (h : Rep G w y v) : Rep G' w (y.frz id xs) v := by
 induction h with
 | v h => exact .v h
 | junk x => exact .junk x
 | snil o ao ho => exact (Rep.snil o ao ho).mono hE
 | sl o ys b off cap sz' c hlen hc hp hr hcap hmax hfull htok ih => exact (Rep.sl o ys b off cap sz' c hlen hc hp hr hcap hmax hfull htok).mono hE
 | ag ys cs' hl h h1 ih =>
  simp only [PV.frz, frzs_eq]
  exact .ag _ cs' (by simpa using hl) (fun j k1 k2 => by simpa using ih j (by simpa using k1) k2) h1
 | tp ys cs' hl h ih =>
  simp only [PV.frz, frzs_eq]
  exact .tp _ cs' (by simpa using hl) (fun j k1 k2 => by simpa using ih j (by simpa using k1) k2)
 | mp i h hm => exact (Rep.mp i h hm).mono hE
 | it i h hm => exact (Rep.it i h hm).mono hE
 | bp i off h hm =>
  simp only [PV.frz]
  split
  ·rename_i hi
   subst hi
   have hok : ∀ y ∈ xs.flatMap PV.cells, y.pure = true ∧ y.one = true := fun y hy => by
    obtain ⟨x, hxm, hyc⟩ := List.mem_flatMap.1 hy
    obtain ⟨j, hj, rfl⟩ := List.mem_iff_getElem.1 hyc
    exact ok_cells (hx x hxm).2 j hj
   refine .ep _ _ _ (fun k => cs.getD (off + k) undef) (fun k hk => ⟨?_, .inr (hset _)⟩) (fun j hj => by rw [List.getElem_drop]; exact hok _ (List.getElem_mem _)) (fun j hj => ?_)
   ·have hk' : off + k < cs.length := by rw [← hrl.len]; rw [List.length_drop] at hk; omega
    rw [World.cell?, hb]
    simp [List.getD, hk', List.getElem?_append_left hk']
   ·have hj' : off + j < (xs.flatMap PV.cells).length := by rw [List.length_drop] at hj; omega
    have hj2 : off + j < cs.length := by rw [← hrl.len]; exact hj'
    rw [List.getElem_drop]
    have := (hrl.mono hE).rep (off + j) hj' hj2
    simpa [List.getD, hj2] using this
  ·exact (Rep.bp i off h hm).mono hE
 | bs i off len cap h hm hcap hmax =>
  simp only [PV.frz]
  split
  ·rename_i hi
   subst hi
   split
   ·rename_i ho
    obtain ⟨rfl, rfl⟩ := ho
    refine slice_rep (sz := sz) (fun x q => (hx x q).1) (fun x q => (hx x q).2) (hrl.mono hE) (fun k hk => ⟨?_, .inr (hset _)⟩) hcap hmax (fun h => by cases h) (fun t h => by cases h)
    rw [World.cell?, hb]
    have hk2 : k < cs.length := hk
    simp [List.getElem?_append_left hk2]
   ·exact .junk _
  ·exact (Rep.bs i off len cap h hm hcap hmax).mono hE
 | gs i len cap h hm hcap hmax =>
  simp only [PV.frz]
  split
  ·rename_i hi
   subst hi
   split
   ·rename_i ho
    subst ho
    refine slice_rep (sz := sz) (fun x q => (hx x q).1) (fun x q => (hx x q).2) (hrl.mono hE) (fun k hk => ⟨?_, .inr (hset _)⟩) hcap hmax (fun h => by cases h) (fun t h => by cases h)
    rw [World.cell?, hb]
    have hk2 : k < cs.length := hk
    simp [List.getElem?_append_left hk2]
   ·exact .junk _
  ·exact (Rep.gs i len cap h hm hcap hmax).mono hE
 | ep ys b off c hc hp hr ih => exact (Rep.ep ys b off c hc hp hr).mono hE
 | fn f a b a' b' ha hb' h1 h2 ih1 ih2 =>
  simp only [PV.frz, frzs_eq]
  exact .fn f _ _ a' b' (by simpa using ha) (by simpa using hb') (fun j k1 k2 => by simpa using ih1 j (by simpa using k1) k2) (fun j k1 k2 => by simpa using ih2 j (by simpa using k1) k2)
 | ifc t x y h ih => exact .ifc t _ y ih

def PV.isTp : PV → Bool
 | .tp _ => true
 | _ => false
def GStep (f : F) (m : M) (f' : F) (m' : M) : Prop := (f' = f ∧ m' = m) ∨ ∃ id xs sz c1, m.get id = some c1 ∧ (c1 = xs.flatMap PV.cells ∨ c1.map PV.settle = xs.flatMap PV.cells ∨ ∃ r, c1 = xs.flatMap PV.cells ++ r ∧ ∀ y ∈ r, y.isTp = false) ∧ (∀ x ∈ xs, x.cells.length = sz ∧ x.ok = true) ∧ (∀ t, f' t = f t ∨ f' t = (f t).frz id xs ∨ f' t = .junk) ∧
 m'.toks = m.toks ∧ m'.boxes.length = m.boxes.length ∧ ∀ k c, m'.get k = some c → k ≠ id ∧ (m.get k = some c ∨ ∃ c0, m.get k = some c0 ∧ c = c0.map (PV.frz id xs))

theorem GStep.sound {n : Fi} {ds : List Deferred} {G : Ghost} {f f' : F} {m m' : M} {a : Act} {w : World} (h : GStep f m f' m') (hS : St n ds G f m a w) : ∃ G', St n ds G' f' m' a w ∧ Ext G w G' w := by
 rcases h with ⟨rfl, rfl⟩ | ⟨id, xs, sz, c1, hid, hc1, hx, hf, htk, hln, hm⟩
 ·exact ⟨G, hS, Ext.refl _ _⟩
 ·have hI := hS.inv
  have hmp : G.mp id = false := by
   cases hq : G.mp id with
   | false => rfl
   | true =>
    obtain ⟨ob, _, q2, _⟩ := hI.box id _ hid
    rw [hq] at q2
    have hone : ∀ y ∈ xs.flatMap PV.cells, y.one = true := fun y hy => by
     obtain ⟨x, hxm, hyc⟩ := List.mem_flatMap.1 hy
     obtain ⟨j, hj, rfl⟩ := List.mem_iff_getElem.1 hyc
     exact (ok_cells (hx x hxm).2 j hj).2
    have hall : ∀ y ∈ c1, y.one = true ∨ (PV.settle y).one = true ∨ y.isTp = false := fun y hy => by
     rcases hc1 with rfl | hc1 | ⟨r, rfl, hr⟩
     ·exact .inl (hone y hy)
     ·exact .inr (.inl (hone _ (by rw [← hc1]; exact List.mem_map_of_mem hy)))
     ·rcases List.mem_append.1 hy with h | h
      ·exact .inl (hone y h)
      ·exact .inr (.inr (hr y h))
    cases q2 with
    | iter mid bm since st seen tl =>
     have := hall (.tp (seen.map fun (n : Nat) => .v (.int .i64 n))) (by simp)
     simp [PV.settle, PV.one, PV.isTp] at this
    | map ks vs es b0 tl htl =>
     have := hall (.tp vs) (by simp)
     simp [PV.settle, PV.one, PV.isTp] at this
  obtain ⟨cs, e, h1, h2, h3, h4, h5⟩ := hI.boxC hid hmp
  obtain ⟨cs1, cr, rfl, hrl⟩ : ∃ cs1 cr, cs = cs1 ++ cr ∧ RL G w (xs.flatMap PV.cells) cs1 := by
   rcases hc1 with rfl | hc1 | ⟨r, rfl, hr⟩
   ·exact ⟨cs, [], by simp, ⟨h2, h3, h4⟩⟩
   ·refine ⟨cs, [], by simp, ?_⟩
    rw [← hc1]
    exact ⟨by simpa using h2, fun j q1 q2 => by simpa using (h3 j (by simpa using q1) q2).settle, h4⟩
   ·refine ⟨cs.take (xs.flatMap PV.cells).length, cs.drop (xs.flatMap PV.cells).length, by simp, ⟨?_, fun j q1 q2 => ?_, fun u hu => h4 u (List.mem_of_mem_take hu)⟩⟩
    ·rw [List.length_append] at h2
     rw [List.length_take]
     omega
    ·have h6 : j < cs.length := by rw [List.length_take] at q2; omega
     have := h3 j (by rw [List.length_append]; omega) h6
     rw [List.getElem_append_left q1] at this
     rw [List.getElem_take]
     exact this
  have hlt : G.box id < w.heap.size := (Array.getElem?_eq_some_iff.1 h1).1
  let G' := G.more (G.box id) (fun _ => True)
  have hE : Ext G w G' w := ⟨rfl, Nat.le_refl _, fun _ _ => rfl, fun _ _ => rfl, Nat.le_refl _, fun _ _ => rfl, fun _ _ h => .inl h, fun _ _ _ => rfl, Below.refl _ _⟩
  have hset : ∀ o, G'.set (G.box id) o := fun o => .inr ⟨rfl, trivial⟩
  have hrep := fun {y : PV} {v : Value} (h : Rep G w y v) => h.frz (id := id) (xs := xs) (sz := sz) hx h1 hrl hE hset
  have hget : ∀ k c, m'.get k = some c → k ≠ id ∧ ∃ c0, m.get k = some c0 ∧ ∀ b o, BoxAt G w b o c0 → BoxAt G' w b o c := fun k c hc => by
   obtain ⟨hk, hc1⟩ := hm k c hc
   refine ⟨hk, ?_⟩
   rcases hc1 with hc1 | ⟨c0, hc0, rfl⟩
   ·exact ⟨c, hc1, fun b o hb => hb.mono hE⟩
   ·refine ⟨c0, hc0, fun b o hb => ?_⟩
    cases hb with
    | cells _ cs e hl hr h1 => exact .cells _ cs e (by simpa using hl) (fun j q1 q2 => by simpa using hrep (hr j (by simpa using q1) q2)) h1
    | iter mid bm since st seen tl htl hs hm =>
     have hkk : PV.frzs id xs (seen.map fun (n : Nat) => .v (.int .i64 n)) = seen.map fun (n : Nat) => .v (.int .i64 n) := by
      rw [frzs_eq, List.map_map]
      rfl
     have htt : tl.map (PV.frz id xs) = tl := by rcases htl with ⟨_, rfl⟩ | rfl <;> rfl
     simp only [List.map_cons, PV.frz, hkk, htt]
     exact .iter mid bm since st seen tl htl hs (hm.mono hE)
    | map ks vs es b0 tl htl hb0 hk hl hr =>
     have htt : tl.map (PV.frz id xs) = tl := by rcases htl with rfl | rfl <;> rfl
     have hkk : PV.frzs id xs (ks.map fun k => .v (.string k)) = ks.map fun k => .v (.string k) := by
      rw [frzs_eq, List.map_map]
      rfl
     simp only [List.map_cons, PV.frz, hkk, htt]
     rw [frzs_eq]
     exact .map ks _ es b0 tl htl hb0 hk (by simpa using hl) (fun j q1 q2 => by simpa using hrep (hr j (by simpa using q1) q2))
  refine ⟨G', ⟨fun t => ?_, ?_, hS.defers, hS.size, hS.kept⟩, hE⟩
  ·rcases hf t with h | h | h
   ·rw [h]; exact (hS.fr t).mono hE
   ·rw [h]; exact hrep (hS.fr t)
   ·rw [h]; exact .junk _
  refine ⟨by show _ = G.nb; rw [hln]; exact hI.nb, by show _ = G.nt; rw [htk]; exact hI.nt, hI.base, fun k c hc => ?_, fun k c hc o ho => ?_, fun k k' c c' hc hc' he => ?_, fun t s ht => ?_, fun t t' s s' ha ha' => hI.tokd t t' s s' (by unfold M.alive at *; rwa [htk] at ha) (by unfold M.alive at *; rwa [htk] at ha'), fun b o hs => ?_, hI.lay⟩
  ·obtain ⟨hk, c0, hc0, hr0⟩ := hget k c hc
   obtain ⟨o1, a1, a2, a5⟩ := hI.box k c0 hc0
   exact ⟨o1, a1, hr0 _ _ a2, a5⟩
  ·obtain ⟨hk, c0, hc0, _⟩ := hget k c hc
   rcases ho with ho | ⟨ho, _⟩
   ·exact hI.boxset k c0 hc0 o ho
   ·exact hk (hI.inj k id c0 _ hc0 hid ho)
  ·obtain ⟨_, c0, hc0, _⟩ := hget k c hc
   obtain ⟨_, c1, hc1, _⟩ := hget k' c' hc'
   exact hI.inj k k' c0 c1 hc0 hc1 he
  ·obtain ⟨a1, a2⟩ := hI.tok t s (by unfold M.alive at *; rwa [htk] at ht)
   refine ⟨a1, fun b o hbo => ?_⟩
   obtain ⟨d1, d2, d3, d4, d5⟩ := a2 b o hbo
   refine ⟨d1, fun hs => ?_, d3, d4, fun k c hc => ?_⟩
   ·rcases hs with hs | ⟨hs, _⟩
    ·exact d2 hs
    ·exact d5 id _ hid hs.symm
   ·obtain ⟨_, c0, hc0, _⟩ := hget k c hc
    exact d5 k c0 hc0
  ·rcases hs with hs | ⟨hs, _⟩
   ·exact hI.set b o hs
   ·rw [hs]; exact hlt

set_option linter.unusedVariables false
set_option linter.unusedSimpArgs false
open Go Go.RowKit

def Ghost.cut (G : Ghost) (n k : Nat) : Ghost := { G with nb := n, nt := k }

theorem Rep.pureCut {G : Ghost} {w : World} {x : PV} {v : Value} (h : Rep G w x v) (hp : x.pure = true) (n k : Nat) : Rep (G.cut n k) w x v :=
 @Rep.pure_mono G (G.cut n k) w w (fun b o hs => hs) (fun b o _ => rfl) x v h hp

theorem Rep.cut {G0 : Ghost} {w0 : World} {x : PV} {v0 : Value} (h0 : Rep G0 w0 x v0) {n k : Nat} (hn : G0.nb ≤ n) (hk : G0.nt ≤ k) : ∀ {G : Ghost} {w : World} {v : Value}, Rep G w x v → Rep (G.cut n k) w x v := by
 have pureCut : ∀ {G : Ghost} {w : World} {x : PV} {v : Value}, Rep G w x v → x.pure = true → Rep (G.cut n k) w x v := fun h hp => h.pureCut hp n k
 induction h0 with
 | v h => intro G w v h; exact pureCut h rfl
 | junk x => intro G w v h; exact .junk _
 | snil o ao ho =>
  intro G w v h
  cases h with
  | snil _ ao' ho' => exact .snil o ao' fun t ht => ⟨Nat.lt_of_lt_of_le (ho t ht).1 hk, (ho' t ht).2⟩
  | sl _ _ b off cap sz c hlen hc hp hr hcap hmax hfull htok =>
   exact .sl o [] b off cap sz c hlen hc hp (fun i hi => by simp at hi) hcap hmax hfull fun t ht => ⟨Nat.lt_of_lt_of_le (ho t ht).1 hk, (htok t ht).2⟩
 | sl o xs b0 off0 cap0 sz0 c0 hlen0 hc0 hp0 hr0 hcap0 hmax0 hfull0 htok0 ih =>
  intro G w v h
  cases h with
  | snil _ ao' ho' => exact .snil o ao' fun t ht => ⟨Nat.lt_of_lt_of_le (htok0 t ht).1 hk, (ho' t ht).2⟩
  | sl _ _ b off cap sz c hlen hc hp hr hcap hmax hfull htok =>
   exact .sl o xs b off cap sz c hlen hc hp (fun i hi j hj => pureCut (hr i hi j hj) (ok_cells (hp i hi) j hj).1) hcap hmax hfull fun t ht => ⟨Nat.lt_of_lt_of_le (htok0 t ht).1 hk, (htok t ht).2⟩
 | ag xs cs0 hl0 h0 h1 ih =>
  intro G w v h
  cases h with
  | ag _ cs hl hr h1 => exact .ag xs cs hl (fun j k1 k2 => ih j k1 (hl0 ▸ k1) (hr j k1 k2)) h1
 | tp xs cs0 hl0 h0 ih =>
  intro G w v h
  cases h with
  | tp _ cs hl hr => exact .tp xs cs hl (fun j k1 k2 => ih j k1 (hl0 ▸ k1) (hr j k1 k2))
 | mp id hid hm =>
  intro G w v h
  cases h with
  | mp _ _ hm' => exact Rep.mp (G := G.cut n k) id (Nat.lt_of_lt_of_le hid hn) hm'
 | it id hid hm =>
  intro G w v h
  cases h with
  | it _ _ hm' => exact Rep.it (G := G.cut n k) id (Nat.lt_of_lt_of_le hid hn) hm'
 | bp id off hid hm =>
  intro G w v h
  cases h with
  | bp _ _ _ hm' => exact Rep.bp (G := G.cut n k) id off (Nat.lt_of_lt_of_le hid hn) hm'
 | bs id off len cap hid hm hcap hmax =>
  intro G w v h
  cases h with
  | bs _ _ _ cap' _ hm' hcap' hmax' => exact Rep.bs (G := G.cut n k) id off len cap' (Nat.lt_of_lt_of_le hid hn) hm' hcap' hmax'
 | gs id len cap hid hm hcap hmax =>
  intro G w v h
  cases h with
  | gs _ _ _ _ hm' hcap' hmax' => exact Rep.gs (G := G.cut n k) id len cap (Nat.lt_of_lt_of_le hid hn) hm' hcap' hmax'
 | ep xs b0 off0 c0 hc0 hp0 hr0 ih => intro G w v h; exact pureCut h rfl
 | fn f a b a0 b0 ha0 hb0 h1 h2 ih1 ih2 =>
  intro G w v h
  cases h with
  | fn _ _ _ a' b' ha hb k1 k2 => exact .fn f a b a' b' ha hb (fun j q1 q2 => ih1 j q1 (ha0 ▸ q1) (k1 j q1 q2)) (fun j q1 q2 => ih2 j q1 (hb0 ▸ q1) (k2 j q1 q2))
 | ifc t x y h ih =>
  intro G w v h
  cases h with
  | ifc _ _ y' h' => exact .ifc t x y' (ih h')

theorem BoxAt.cut {G0 G : Ghost} {w0 w : World} {b0 b : Bool} {o0 o : Obj} {c : List PV} (h0 : BoxAt G0 w0 b0 o0 c) {n k : Nat} (hn : G0.nb ≤ n) (hk : G0.nt ≤ k) (h : BoxAt G w b o c) : BoxAt (G.cut n k) w b o c := by
 cases h with
 | cells _ cs e hl hr h1 =>
  cases h0 with
  | cells _ cs0 e0 hl0 hr0 h10 => exact .cells _ cs e hl (fun j q1 q2 => (hr0 j q1 (hl0 ▸ q1)).cut hn hk (hr j q1 q2)) h1
  | map ks vs es b0 tl htl hb0 hkk hl0 hr0 =>
   have hv := hr 1 (by simp) (by rw [← hl]; simp)
   have := h1 _ (List.getElem_mem (by rw [← hl]; simp : 1 < cs.length))
   simp only [List.getElem_cons_succ, List.getElem_cons_zero] at hv
   generalize cs[1]'(by rw [← hl]; simp) = u at hv this
   cases hv
   simp [Value.oneCell'] at this
  | iter mid bm since st seen tl htl hs hm =>
   have hv := hr 1 (by simp) (by rw [← hl]; simp)
   have := h1 _ (List.getElem_mem (by rw [← hl]; simp : 1 < cs.length))
   simp only [List.getElem_cons_succ, List.getElem_cons_zero] at hv
   generalize cs[1]'(by rw [← hl]; simp) = u at hv this
   cases hv
   simp [Value.oneCell'] at this
 | map ks vs es b0 tl htl hb0 hkk hl hr =>
  generalize hc : PV.tp (ks.map fun k => .v (.string k)) :: .tp vs :: tl = c at h0
  cases h0 with
  | cells _ cs0 e0 hl0 hr0 h10 =>
   subst hc
   have hv := hr0 1 (by simp) (by rw [← hl0]; simp)
   have := h10 _ (List.getElem_mem (by rw [← hl0]; simp : 1 < cs0.length))
   simp only [List.getElem_cons_succ, List.getElem_cons_zero] at hv
   generalize cs0[1]'(by rw [← hl0]; simp) = u at hv this
   cases hv
   simp [Value.oneCell'] at this
  | map ks0 vs0 es0 b00 tl0 htl0 hb00 hkk0 hl0 hr0 =>
   simp only [List.cons.injEq, PV.tp.injEq] at hc
   obtain ⟨hc1, rfl, rfl⟩ := hc
   rw [← hc1]
   exact .map ks vs es b0 tl htl hb0 hkk hl (fun j q1 q2 => (hr0 j q1 (hl0 ▸ q1)).cut hn hk (hr j q1 q2))
  | iter mid bm since st seen tl htl hs hm => simp at hc
 | iter mid bm since st seen tl htl hs hm =>
  generalize hc : PV.mp mid :: .tp (seen.map fun (n : Nat) => .v (.int .i64 n)) :: tl = c at h0
  cases h0 with
  | cells _ cs0 e0 hl0 hr0 h10 =>
   subst hc
   have hv := hr0 1 (by simp) (by rw [← hl0]; simp)
   have := h10 _ (List.getElem_mem (by rw [← hl0]; simp : 1 < cs0.length))
   simp only [List.getElem_cons_succ, List.getElem_cons_zero] at hv
   generalize cs0[1]'(by rw [← hl0]; simp) = u at hv this
   cases hv
   simp [Value.oneCell'] at this
  | map ks0 vs0 es0 b00 tl0 htl0 hb00 hkk0 hl0 hr0 => simp at hc
  | iter mid0 bm0 since0 st0 seen0 tl0 htl0 hs0 hm0 =>
   simp only [List.cons.injEq, PV.mp.injEq, PV.tp.injEq] at hc
   obtain ⟨rfl, hc1, rfl⟩ := hc
   rw [← hc1]
   exact .iter mid bm since st seen tl htl hs (hm0.cut hn hk hm)
theorem BoxAt.impP {G G' : Ghost} {w : World} {b : Bool} {o : Obj} {c : List PV} (hb : BoxAt G w b o c) (hp : PV.pures c = true) (h : ∀ x y, x.pure = true → Rep G w x y → Rep G' w x y) : BoxAt G' w b o c := by
 cases hb with
 | cells _ cs e hl hr h1 => exact .cells _ cs e hl (fun j q1 q2 => h _ _ ((pures_iff _).1 hp _ (List.getElem_mem _)) (hr j q1 q2)) h1
 | iter mid bm since st seen tl htl hs hm => simp [PV.pures, PV.pure] at hp
 | map ks vs es b0 tl htl hb0 hk hl hr =>
  have hv : PV.pures vs = true := by have := (pures_iff _).1 hp (.tp vs) (by simp); simpa [PV.pure] using this
  exact .map ks vs es b0 tl htl hb0 hk hl (fun j q1 q2 => h _ _ ((pures_iff _).1 hv _ (List.getElem_mem _)) (hr j q1 q2))

theorem cut_inv {G0 G : Ghost} {m0 m m' : M} {w0 w : World} (hI0 : Inv G0 m0 w0) (hE : Ext G0 w0 G w) (hI : Inv G m w) {k : Nat} (hk : G0.nt ≤ k) (hb : m'.boxes.length = G0.nb) (ht : m'.toks.length = k)
    (hget : ∀ id c, m'.get id = some c → m.get id = some c ∧ (m0.get id = some c ∨ PV.pures c = true)) (hal : ∀ t s, m'.alive t s → m.alive t s) :
    Inv (G.cut G0.nb k) m' w ∧ Ext G0 w0 (G.cut G0.nb k) w := by
 refine ⟨⟨hb, ht, hI.base, fun id c hc => ?_, fun id c hc => hI.boxset id c (hget id c hc).1, fun id id' c c' h h' => hI.inj id id' c c' (hget id c h).1 (hget id' c' h').1, fun t s h => ?_, fun t t' s s' h h' => hI.tokd t t' s s' (hal t s h) (hal t' s' h'), hI.set, hI.lay⟩,
  ⟨hE.base, Nat.le_refl _, hE.box, hE.mp, hk, hE.res, hE.set, hE.cell, hE.below⟩⟩
 ·obtain ⟨h1, h2⟩ := hget id c hc
  obtain ⟨o, a1, a2, a5⟩ := hI.box id c h1
  refine ⟨o, a1, ?_, a5⟩
  rcases h2 with h2 | h2
  ·obtain ⟨o0, b1, b2, b5⟩ := hI0.box id c h2
   exact b2.cut (Nat.le_refl _) hk a2
  ·exact a2.impP h2 fun x y hx hr => hr.pureCut hx _ _
 ·obtain ⟨a1, a2⟩ := hI.tok t s (hal t s h)
  refine ⟨a1, fun b o hbo => ?_⟩
  obtain ⟨q1, q2, q3, q4, q5⟩ := a2 b o hbo
  exact ⟨q1, q2, q3, q4, fun id c hc => q5 id c (hget id c hc).1⟩

mutual
def PV.within (n k : Nat) : PV → Bool
 | .v _ | .junk | .ep _ => true
 | .sl o _ => match o with | .tok t => decide (t < k) | _ => true
 | .ag xs => PV.withins n k xs
 | .tp xs => PV.withins n k xs
 | .bp id _ => decide (id < n)
 | .mp id => decide (id < n)
 | .it id => decide (id < n)
 | .bs id _ _ => decide (id < n)
 | .gs id _ _ => decide (id < n)
 | .fn _ a b => PV.withins n k a && PV.withins n k b
 | .ifc _ x => x.within n k
def PV.withins (n k : Nat) : List PV → Bool
 | [] => true
 | x :: l => x.within n k && PV.withins n k l
end
theorem withins_iff {n k : Nat} (l : List PV) : PV.withins n k l = true ↔ ∀ x ∈ l, x.within n k = true := by
 induction l with
 | nil => simp [PV.withins]
 | cons x l ih => simp [PV.withins, ih]
theorem Rep.cutW {G : Ghost} {w : World} {x : PV} {v : Value} (h : Rep G w x v) {n k : Nat} (hp : x.within n k = true) : Rep (G.cut n k) w x v := by
 induction h with
 | v h => exact .v h
 | junk x => exact .junk x
 | snil o ao ho =>
  refine .snil o ao fun t ht => ⟨?_, (ho t ht).2⟩
  subst ht
  show t < k
  simpa [PV.within] using hp
 | sl o xs b off cap sz c hlen hc hpp hr hcap hmax hfull htok ih =>
  refine .sl o xs b off cap sz c hlen hc hpp (fun i hi j hj => (hr i hi j hj).pureCut (ok_cells (hpp i hi) j hj).1 n k) hcap hmax hfull fun t ht => ⟨?_, (htok t ht).2⟩
  subst ht
  show t < k
  simpa [PV.within] using hp
 | ag xs cs hl h h1 ih =>
  simp only [PV.within] at hp
  exact .ag xs cs hl (fun j k1 k2 => ih j k1 k2 ((withins_iff _).1 hp _ (List.getElem_mem _))) h1
 | tp xs cs hl h ih =>
  simp only [PV.within] at hp
  exact .tp xs cs hl (fun j k1 k2 => ih j k1 k2 ((withins_iff _).1 hp _ (List.getElem_mem _)))
 | mp id h hm => exact Rep.mp (G := G.cut n k) id (by show id < n; simpa [PV.within] using hp) hm
 | it id h hm => exact Rep.it (G := G.cut n k) id (by show id < n; simpa [PV.within] using hp) hm
 | bp id off h hm => exact Rep.bp (G := G.cut n k) id off (by show id < n; simpa [PV.within] using hp) hm
 | bs id off len cap h hm hcap hmax => exact Rep.bs (G := G.cut n k) id off len cap (by show id < n; simpa [PV.within] using hp) hm hcap hmax
 | gs id len cap h hm hcap hmax => exact Rep.gs (G := G.cut n k) id len cap (by show id < n; simpa [PV.within] using hp) hm hcap hmax
 | ep xs b off c hc hpp hr ih => exact (Rep.ep xs b off c hc hpp hr).pureCut rfl n k
 | fn f a b a' b' ha hb h1 h2 ih1 ih2 =>
  simp only [PV.within, Bool.and_eq_true] at hp
  exact .fn f a b a' b' ha hb (fun j q1 q2 => ih1 j q1 q2 ((withins_iff _).1 hp.1 _ (List.getElem_mem _))) (fun j q1 q2 => ih2 j q1 q2 ((withins_iff _).1 hp.2 _ (List.getElem_mem _)))
 | ifc t x y h ih =>
  simp only [PV.within] at hp
  exact .ifc t x y (ih hp)

theorem BoxAt.impW {G G' : Ghost} {w : World} {n k : Nat} {b : Bool} {o : Obj} {c : List PV} (hb : BoxAt G w b o c) (hp : PV.withins n k c = true) (h : ∀ x y, x.within n k = true → Rep G w x y → Rep G' w x y) : BoxAt G' w b o c := by
 cases hb with
 | cells _ cs e hl hr h1 => exact .cells _ cs e hl (fun j q1 q2 => h _ _ ((withins_iff _).1 hp _ (List.getElem_mem _)) (hr j q1 q2)) h1
 | iter mid bm since st seen tl htl hs hm => exact .iter mid bm since st seen tl htl hs (h _ _ ((withins_iff _).1 hp _ (by simp)) hm)
 | map ks vs es b0 tl htl hb0 hk hl hr =>
  have hv : PV.withins n k vs = true := by have := (withins_iff _).1 hp (.tp vs) (by simp); simpa [PV.within] using this
  exact .map ks vs es b0 tl htl hb0 hk hl (fun j q1 q2 => h _ _ ((withins_iff _).1 hv _ (List.getElem_mem _)) (hr j q1 q2))
theorem cut_invW {G0 G : Ghost} {m0 m m' : M} {w0 w : World} (hI0 : Inv G0 m0 w0) (hE : Ext G0 w0 G w) (hI : Inv G m w) {n k : Nat} (hn : G0.nb ≤ n) (hk : G0.nt ≤ k) (hb : m'.boxes.length = n) (ht : m'.toks.length = k)
    (hget : ∀ id c, m'.get id = some c → m.get id = some c ∧ (m0.get id = some c ∨ PV.withins n k c = true)) (hal : ∀ t s, m'.alive t s → m.alive t s) :
    Inv (G.cut n k) m' w ∧ Ext G0 w0 (G.cut n k) w := by
 refine ⟨⟨hb, ht, hI.base, fun id c hc => ?_, fun id c hc => hI.boxset id c (hget id c hc).1, fun id id' c c' h h' => hI.inj id id' c c' (hget id c h).1 (hget id' c' h').1, fun t s h => ?_, fun t t' s s' h h' => hI.tokd t t' s s' (hal t s h) (hal t' s' h'), hI.set, hI.lay⟩,
  ⟨hE.base, hn, hE.box, hE.mp, hk, hE.res, hE.set, hE.cell, hE.below⟩⟩
 ·obtain ⟨h1, h2⟩ := hget id c hc
  obtain ⟨o, a1, a2, a5⟩ := hI.box id c h1
  refine ⟨o, a1, ?_, a5⟩
  rcases h2 with h2 | h2
  ·obtain ⟨o0, b1, b2, b5⟩ := hI0.box id c h2
   exact b2.cut hn hk a2
  ·exact a2.impW h2 fun x y hx hr => hr.cutW hx
 ·obtain ⟨a1, a2⟩ := hI.tok t s (hal t s h)
  refine ⟨a1, fun b o hbo => ?_⟩
  obtain ⟨q1, q2, q3, q4, q5⟩ := a2 b o hbo
  exact ⟨q1, q2, q3, q4, fun id c hc => q5 id c (hget id c hc).1⟩

theorem take_get {m m' : M} {n : Nat} (hb : m.boxes.take n = m'.boxes) {id : Nat} {c : List PV} (h : m'.get id = some c) : m.get id = some c := by
 unfold M.get at *
 rw [← hb, List.getElem?_take] at h
 split at h
 ·exact h
 ·cases h
theorem take_alive {m m' : M} {n : Nat} (ht : m.toks.take n = m'.toks) {t s : Nat} (h : m'.alive t s) : m.alive t s := by
 unfold M.alive at *
 rw [← ht, List.getElem?_take] at h
 split at h
 ·exact h
 ·cases h

def Trim (m0 : M) (f : F) (m : M) (f' : F) (m' : M) : Prop := (f' = f ∧ m' = m) ∨
 (m0.nb ≤ m'.nb ∧ m0.nt ≤ m'.nt ∧ m.boxes.take m'.nb = m'.boxes ∧ m.toks.take m'.nt = m'.toks ∧ (∀ id c, m'.get id = some c → m0.get id = some c ∨ PV.withins m'.nb m'.nt c = true) ∧
  ∀ t, ((f' t = f t ∨ f' t = (f t).settle) ∧ (f' t).within m'.nb m'.nt = true) ∨ f' t = .junk)
theorem Trim.sound {n : Fi} {ds : List Deferred} {G0 G : Ghost} {f f' : F} {m0 m m' : M} {a : Act} {w0 w : World} (h : Trim m0 f m f' m') (hI0 : Inv G0 m0 w0) (hE : Ext G0 w0 G w) (hS : St n ds G f m a w) : ∃ G', St n ds G' f' m' a w ∧ Ext G0 w0 G' w := by
 rcases h with ⟨rfl, rfl⟩ | ⟨hn, hk, hb, ht, hp, hf⟩
 ·exact ⟨G, hS, hE⟩
 ·obtain ⟨h1, h2⟩ := cut_invW (m' := m') hI0 hE hS.inv (n := m'.nb) (k := m'.nt) (by have : m0.nb = G0.nb := hI0.nb; omega) (by have : m0.nt = G0.nt := hI0.nt; omega) rfl rfl (fun id c hc => ⟨take_get hb hc, hp id c hc⟩) (fun t s ha => take_alive ht ha)
  refine ⟨_, ⟨fun t => ?_, h1, hS.defers, hS.size, hS.kept⟩, h2⟩
  rcases hf t with ⟨hv | hv, hw⟩ | hv
  ·have := hS.fr t
   rw [← hv] at this
   exact this.cutW hw
  ·have := (hS.fr t).settle
   rw [← hv] at this
   exact this.cutW hw
  ·rw [hv]; exact .junk _

set_option linter.unusedVariables false
set_option linter.unusedSimpArgs false
open Go Go.RowKit

section
variable {P : Program} {mu : List Nat} {n : Fi} {ds : List Deferred} {ops : Array Oper} {S : M → Prop} {K : F → M → Prop}

def aLast (P : Program) (mu : List Nat) (ops : Array Oper) (K : F → M → Prop) (f : F) (m : M) : Prop :=
 match ops[ops.size - 1]? with
 | some o => o.guard = none ∧ aOp P mu noZ o f m fun v m' => K (F.put f o.dst v) m'
 | none => False
def endOk (ops : Array Oper) : Bool :=
 match ops[ops.size - 1]? with
 | some o => (List.range (ops.size - 1)).all fun k => (upOf ops (List.range (ops.size - 1)).reverse (edgesOf o)).contains k
 | none => false

theorem aLexE_anyU {Q : Exit → Act → World → Prop} (hend : endOk ops = true) (hsel0 : Region.noSelect ops = true) (hbd : ∀ (j : Nat) (o : Oper), ops[j]? = some o → dstB n o = true) :
    ∀ (fuel : Nat) (l : List Nat) (listed : Array Bool) {f : F} {m : M} {G : Ghost} {a : Act} {w : World}, SpecU mu ops listed → l.length + 1 = fuel → listed.size = ops.size → l.Pairwise (· < ·) → (∀ i, i ∈ l ↔ i + 1 < ops.size ∧ listed.getD i true = false) → listed.getD (ops.size - 1) true = false →
     (∀ j oj, ops[j]? = some oj → listed.getD j true = true → ∀ k ∈ edgesOf oj, listed.getD k true = true) →
     aLex P mu ops S (aLast P mu ops K) l f m → S m → St n ds G f m a w → (∀ f' m' G' a' w', K f' m' → St n ds G' f' m' a' w' → Ext G w G' w' → Q .normal a' w') → wpAny P .any ops Q fuel listed a w := by
 have hsel := fun (j : Nat) (o : Oper) cs b h => Region.noSelect_spec hsel0 j o cs b h
 intro fuel
 have hpos : 0 < ops.size := by
  unfold endOk at hend
  split at hend
  ·rename_i o ho
   have := (Array.getElem?_eq_some_iff.1 ho).1
   omega
  ·cases hend
 obtain ⟨oz, hoz⟩ : ∃ oz, ops[ops.size - 1]? = some oz := ⟨_, Array.getElem?_eq_getElem (by omega)⟩
 have hall : ∀ k, k + 1 < ops.size → k ∈ upOf ops (List.range (ops.size - 1)).reverse (edgesOf oz) := fun k hk => by
  unfold endOk at hend
  rw [hoz] at hend
  simp only [List.all_eq_true, List.mem_range, List.contains_iff_mem] at hend
  exact hend k (by omega)
 induction fuel with
 | zero => intro l listed f m G a w _ hlen; omega
 | succ fuel ih =>
  intro l listed f m G a w hspec hlen hsz hsort hmem huz hchain h hm hSt hQ
  refine ⟨fun h0 => ?_, fun i hi => ?_⟩
  ·
   exfalso
   cases l with
   | nil =>
    have : ops.size - 1 ∈ Region.ready .any ops listed := mem_ready.2 ⟨huz, oz, hoz, fun e he hb => by
     have hlt' := (hspec _ oz hoz huz).1 e he hb
     by_cases hl : listed.getD e.on true = true
     ·have : e.on < listed.size := by omega
      simpa [this] using hl
     ·have hin := (hmem e.on).2 ⟨by omega, by simpa using hl⟩
      cases hin⟩
    rw [h0] at this
    cases this
   | cons i l =>
    obtain ⟨hlt1, hun⟩ := (hmem i).1 (by simp)
    have hlt : i < ops.size := by omega
    have : i ∈ Region.ready .any ops listed := mem_ready.2 ⟨hun, ops[i], Array.getElem?_eq_getElem hlt, fun e he hb => by
     have hlt' := (hspec i ops[i] (Array.getElem?_eq_getElem hlt) hun).1 e he hb
     by_cases hl : listed.getD e.on true = true
     ·have : e.on < listed.size := by omega
      simpa [this] using hl
     ·have hin := (hmem e.on).2 ⟨by omega, by simpa using hl⟩
      rcases List.mem_cons.1 hin with e1 | e1
      ·omega
      ·have := (List.pairwise_cons.1 hsort).1 _ e1
       omega⟩
    rw [h0] at this
    cases this
  ·obtain ⟨hun, oi, hoi, hedges⟩ := mem_ready.1 hi
   have hlt : i < ops.size := (Array.getElem?_eq_some_iff.1 hoi).1
   by_cases hiz : i + 1 = ops.size
   ·
    obtain rfl : i = ops.size - 1 := by omega
    obtain rfl : oi = oz := by rw [hoi] at hoz; exact Option.some.inj hoz
    have hlisted : ∀ j, (∃ e ∈ oi.after, Region.binds .any e = true ∧ e.on = j) → listed.getD j true = true := fun j ⟨e, he, hb, hj⟩ => by
     have := hedges e he hb
     rw [hj] at this
     have hjl : j < listed.size := by
      rcases Nat.lt_or_ge j listed.size with h' | h'
      ·exact h'
      ·simp [Array.getElem?_eq_none h'] at this
     simpa [hjl] using this
    have hdone : ∀ k, k + 1 < ops.size → listed.getD k true = true := fun k hk =>
     upOf_closed (Q := fun j => listed.getD j true = true) hchain _ _ (fun k hk => hlisted k (mem_edgesOf.1 hk)) k (hall k hk)
    have hl0 : l = [] := by
     rw [List.eq_nil_iff_forall_not_mem]
     intro k hk
     obtain ⟨h1, h2⟩ := (hmem k).1 hk
     rw [hdone k h1] at h2
     cases h2
    subst hl0
    have hf0 : fuel = 0 := by simp at hlen; omega
    subst hf0
    simp only [aLex, aLast, hoi] at h
    unfold wpOp
    simp only [hoi]
    rw [if_pos (by simp [Region.wanted, h.1])]
    refine .inl (aOp_sound0 h.2 hSt (hbd _ oi hoi) (fun v m' G' y w' k1 k2 k3 => ⟨?_, hQ _ _ _ _ _ k1 k2 k3⟩))
    rw [List.eq_nil_iff_forall_not_mem]
    intro k hk
    obtain ⟨h1, o, h2, _⟩ := mem_ready.1 hk
    have hk1 := (Array.getElem?_eq_some_iff.1 h2).1
    by_cases hkz : k = ops.size - 1
    ·subst hkz
     have : ops.size - 1 < listed.size := by omega
     simp [this] at h1
    ·rw [getD_set_ne true (fun e => hkz e.symm), hdone k (by omega)] at h1
     cases h1
   have hil : i ∈ l := (hmem i).2 ⟨by omega, hun⟩
   obtain ⟨l1, l2, rfl⟩ := List.append_of_mem hil
   have hsort' := List.pairwise_append.1 hsort
   have hk1 : ∀ k ∈ l1, k < i := fun k hk => hsort'.2.2 k hk i (by simp)
   have hlisted : ∀ j, (∃ e ∈ oi.after, Region.binds .any e = true ∧ e.on = j) → listed.getD j true = true := fun j ⟨e, he, hb, hj⟩ => by
    have := hedges e he hb
    rw [hj] at this
    have hjl : j < listed.size := by
     rcases Nat.lt_or_ge j listed.size with h' | h'
     ·exact h'
     ·simp [Array.getElem?_eq_none h'] at this
    simpa [hjl] using this
   have hpair : ∀ k ∈ l1, OkPair mu ops k i := fun k hk ok oi' hokk hoi' => by
    rw [hoi] at hoi'; cases hoi'
    have hku : listed.getD k true = false := ((hmem k).1 (by simp [hk])).2
    rcases (hspec i oi hoi hun).2 k ok (hk1 k hk) hku hokk with h3 | ⟨h3, h4⟩ | h3
    ·rw [hlisted k h3] at hku; cases hku
    ·refine ⟨h3, fun q1 => ?_⟩
     cases q2 : isEff mu oi
     ·rfl
     ·exact absurd ⟨q1, q2⟩ h4
    ·have := upOf_closed (Q := fun j => listed.getD j true = true) hchain _ _ (fun k hk => ?_) k h3
     ·rw [this] at hku; cases hku
     ·exact hlisted k (mem_edgesOf.1 hk)
   have hrest : ∀ {f' : F} {m' : M} {G' : Ghost} {a' : Act} {w' : World}, aLex P mu ops S (aLast P mu ops K) (l1 ++ l2) f' m' → S m' → St n ds G' f' m' a' w' → Ext G w G' w' → wpAny P .any ops Q fuel (listed.setIfInBounds i true) a' w' := fun h' hm' hSt' hE => by
    refine ih (l1 ++ l2) (listed.setIfInBounds i true) (hspec.set i) (by simp at hlen ⊢; omega) (by simpa using hsz) ?_ ?_ (by rw [getD_set_ne true (show i ≠ ops.size - 1 by omega)]; exact huz) ?_ h' hm' hSt' (fun f'' m'' G'' a'' w'' k1 k2 k3 => hQ f'' m'' G'' a'' w'' k1 k2 (hE.trans k3))
    ·refine List.pairwise_append.2 ⟨hsort'.1, (List.pairwise_cons.1 hsort'.2.1).2, fun x hx y hy => hsort'.2.2 x hx y (by simp [hy])⟩
    ·intro j
     have hjm := hmem j
     by_cases hji : i = j
     ·subst hji
      have hnot1 : i ∉ l1 := fun hx => absurd (hk1 i hx) (Nat.lt_irrefl _)
      have hnot2 : i ∉ l2 := fun hx => absurd ((List.pairwise_cons.1 hsort'.2.1).1 i hx) (Nat.lt_irrefl _)
      refine ⟨fun hx => ?_, fun ⟨_, hx⟩ => ?_⟩
      ·rcases List.mem_append.1 hx with hx | hx
       ·exact absurd hx hnot1
       ·exact absurd hx hnot2
      ·have : i < listed.size := by omega
       simp [this] at hx
     ·rw [getD_set_ne true hji, ← hjm]
      simp [Ne.symm hji]
    ·intro j oj hoj hj k hk
     have keep : ∀ k, listed.getD k true = true → (listed.setIfInBounds i true).getD k true = true := fun k hk => by
      by_cases hki : i = k
      ·subst hki
       have : i < listed.size := by omega
       simp [this]
      ·rw [getD_set_ne true hki]; exact hk
     by_cases hji : i = j
     ·subst hji
      rw [hoi] at hoj; cases hoj
      exact keep k (hlisted k (mem_edgesOf.1 hk))
     ·rw [getD_set_ne true hji] at hj
      exact keep k (hchain j oj hoj hj k hk)
   have hbi := hbd i oi hoi
   unfold wpOp
   simp only [hoi]
   by_cases he : isEff mu oi = true
   ·have h' := aLex_pull hsel hoi he l1 l2 hpair h hm
    simp only [aLex, hoi] at h'
    rcases aG_cases h' with ⟨hg, hx⟩ | ⟨j, want, b, hg, hgu, hx⟩
    ·rw [if_pos he] at hx
     rw [if_pos (by simp [Region.wanted, hg])]
     exact .inl (aOp_sound0 hx hSt hbi (fun v m' G' y w' k1 k2 k3 => hrest k1.2 k1.1 k2 k3))
    ·have hw := guardA_spec hSt.fr hg hgu
     cases b
     ·rw [if_neg (by simp [hw])]
      exact hrest (by simpa using hx) hm (hSt.put hbi (.tp [] [] rfl (fun j h => by simp at h)) hSt.inv (Ext.refl _ _)) (Ext.refl _ _)
     ·simp only [if_true] at hx
      rw [if_pos he] at hx
      rw [if_pos hw]
      exact .inl (aOp_sound0 hx hSt hbi (fun v m' G' y w' k1 k2 k3 => hrest k1.2 k1.1 k2 k3))
   ·have he' : isEff mu oi = false := by simpa using he
    have hpk := aLex_peek hsel hbd hoi he' l1 l2 hpair h hm hSt
    rcases aG_cases hpk with ⟨hg, v, hv⟩ | ⟨j, want, b, hg, hgu, hx⟩
    ·rw [if_pos (by simp [Region.wanted, hg])]
     refine .inl (aOp_sound0 (aQuiet_op (K' := fun v' m' => v' = v ∧ m' = m) hm hv ⟨rfl, rfl⟩) hSt hbi (fun v' m' G' y w' k1 k2 k3 => ?_))
     obtain ⟨rfl, rfl⟩ := k1
     exact hrest (aLex_erase hsel hoi he' l1 l2 hpair h hm (.inl ⟨hg, hv⟩)) hm k2 k3
    ·have hw := guardA_spec hSt.fr hg hgu
     cases b
     ·rw [if_neg (by simp [hw])]
      exact hrest (aLex_erase hsel hoi he' l1 l2 hpair h hm (.inr ⟨j, want, false, hg, hgu, by simp⟩)) hm (hSt.put hbi (.tp [] [] rfl (fun j h => by simp at h)) hSt.inv (Ext.refl _ _)) (Ext.refl _ _)
     ·simp only [if_true] at hx
      obtain ⟨v, hv⟩ := hx
      rw [if_pos hw]
      refine .inl (aOp_sound0 (aQuiet_op (K' := fun v' m' => v' = v ∧ m' = m) hm hv ⟨rfl, rfl⟩) hSt hbi (fun v' m' G' y w' k1 k2 k3 => ?_))
      obtain ⟨rfl, rfl⟩ := k1
      exact hrest (aLex_erase hsel hoi he' l1 l2 hpair h hm (.inr ⟨j, want, true, hg, hgu, by simpa using hv⟩)) hm k2 k3
theorem aLexE_any {Q : Exit → Act → World → Prop} (hend : endOk ops = true) (hok : lexOk mu ops = true) (hbd : ∀ (j : Nat) (o : Oper), ops[j]? = some o → dstB n o = true) :
    ∀ (fuel : Nat) (l : List Nat) (listed : Array Bool) {f : F} {m : M} {G : Ghost} {a : Act} {w : World}, l.length + 1 = fuel → listed.size = ops.size → l.Pairwise (· < ·) → (∀ i, i ∈ l ↔ i + 1 < ops.size ∧ listed.getD i true = false) → listed.getD (ops.size - 1) true = false →
     (∀ j oj, ops[j]? = some oj → listed.getD j true = true → ∀ k ∈ edgesOf oj, listed.getD k true = true) →
     aLex P mu ops S (aLast P mu ops K) l f m → S m → St n ds G f m a w → (∀ f' m' G' a' w', K f' m' → St n ds G' f' m' a' w' → Ext G w G' w' → Q .normal a' w') → wpAny P .any ops Q fuel listed a w := by
 obtain ⟨hsel0, hspec⟩ := lexOk_spec hok
 intro fuel l listed f m G a w
 exact aLexE_anyU hend hsel0 hbd fuel l listed (fun i oi hi _ => ⟨(hspec i oi hi).1, fun k ok hk _ => (hspec i oi hi).2 k ok hk⟩)
end

set_option linter.unusedVariables false
set_option linter.unusedSimpArgs false
open Go Go.RowKit

section
variable {P : Program} {mu : List Nat} {n : Fi} {ds : List Deferred} {ops : Array Oper} {S : M → Prop} {K : F → M → Prop}
def aAll (P : Program) (mu : List Nat) (ops : Array Oper) (K : F → M → Prop) : Nat → List Nat → F → M → Prop
 | 0, _, f, m => K f m
 | fuel + 1, todo, f, m => ∀ i ∈ todo, match ops[i]? with
  | none => False
  | some o => (∃ k ∈ edgesOf o, k ∈ todo) ∨ (o.guard = none ∧ aOp P mu noZ o f m fun v m' => aAll P mu ops K fuel (todo.filter (· != i)) (F.put f o.dst v) m')
def lexOkC (mu : List Nat) (ops : Array Oper) (c : Nat) : Bool :=
 Region.noSelect ops && decide (c ≤ ops.size) &&
 (List.range ops.size).all fun i => match ops[i]? with
  | none => true
  | some oi => oi.after.all (fun e => !Region.binds .any e || e.on < i) &&
    (if c ≤ i then (List.range c).all fun k => (upOf ops (List.range i).reverse (edgesOf oi)).contains k
    else (List.range i).all fun k => match ops[k]? with
     | none => true
     | some ok => oi.after.any (fun e => Region.binds .any e && e.on == k) || ((ok.apart ops oi) && !(isEff mu ok && isEff mu oi)) || (upOf ops (List.range i).reverse (edgesOf oi)).contains k)
theorem minL : ∀ l : List Nat, l ≠ [] → ∃ i, i ∈ l ∧ ∀ j ∈ l, i ≤ j
 | [], h => absurd rfl h
 | [x], _ => ⟨x, by simp, fun j hj => by simp at hj; omega⟩
 | x :: y :: l, _ => by
  obtain ⟨i, h1, h2⟩ := minL (y :: l) (by simp)
  by_cases hx : x ≤ i
  ·exact ⟨x, by simp, fun j hj => by
     rcases List.mem_cons.1 hj with rfl | hj
     ·exact Nat.le_refl _
     ·exact Nat.le_trans hx (h2 j hj)⟩
  ·exact ⟨i, List.mem_cons_of_mem _ h1, fun j hj => by
     rcases List.mem_cons.1 hj with rfl | hj
     ·omega
     ·exact h2 j hj⟩
theorem aAll_any {Q : Exit → Act → World → Prop} (hedge : ∀ i oi, ops[i]? = some oi → ∀ e ∈ oi.after, Region.binds .any e = true → e.on < i) (hbd : ∀ (j : Nat) (o : Oper), ops[j]? = some o → dstB n o = true) :
    ∀ (fuel : Nat) (todo : List Nat) (listed : Array Bool) {f : F} {m : M} {G : Ghost} {a : Act} {w : World}, todo.length = fuel → todo.Nodup → listed.size = ops.size → (∀ i, i ∈ todo ↔ i < ops.size ∧ listed.getD i true = false) →
     aAll P mu ops K fuel todo f m → St n ds G f m a w → (∀ f' m' G' a' w', K f' m' → St n ds G' f' m' a' w' → Ext G w G' w' → Q .normal a' w') → wpAny P .any ops Q fuel listed a w := by
 intro fuel
 induction fuel with
 | zero =>
  intro todo listed f m G a w hlen hnd hsz hmem h hSt hQ
  obtain rfl : todo = [] := List.length_eq_zero_iff.1 hlen
  refine ⟨?_, hQ _ _ _ _ _ h hSt (Ext.refl _ _)⟩
  rw [List.eq_nil_iff_forall_not_mem]
  intro k hk
  obtain ⟨h1, o, h2, _⟩ := mem_ready.1 hk
  have := (hmem k).2 ⟨(Array.getElem?_eq_some_iff.1 h2).1, h1⟩
  cases this
 | succ fuel ih =>
  intro todo listed f m G a w hlen hnd hsz hmem h hSt hQ
  refine ⟨fun h0 => ?_, fun i hi => ?_⟩
  ·exfalso
   obtain ⟨i, hi, hmin⟩ := minL todo (by rintro rfl; simp at hlen)
   obtain ⟨hlt, hun⟩ := (hmem i).1 hi
   have : i ∈ Region.ready .any ops listed := mem_ready.2 ⟨hun, ops[i], Array.getElem?_eq_getElem hlt, fun e he hb => by
    have hlt' := hedge i ops[i] (Array.getElem?_eq_getElem hlt) e he hb
    by_cases hl : listed.getD e.on true = true
    ·have : e.on < listed.size := by omega
     simpa [this] using hl
    ·have hin := (hmem e.on).2 ⟨by omega, by simpa using hl⟩
     have := hmin _ hin
     omega⟩
   rw [h0] at this
   cases this
  ·obtain ⟨hun, oi, hoi, hedges⟩ := mem_ready.1 hi
   have hlt : i < ops.size := (Array.getElem?_eq_some_iff.1 hoi).1
   have hit := (hmem i).2 ⟨hlt, hun⟩
   have hx := h i hit
   rw [hoi] at hx
   rcases hx with ⟨k, hk, hkt⟩ | ⟨hg, hx⟩
   ·exfalso
    obtain ⟨e, he, hb, hek⟩ := mem_edgesOf.1 hk
    have := hedges e he hb
    rw [hek] at this
    obtain ⟨h1, h2⟩ := (hmem k).1 hkt
    have hks : k < listed.size := by omega
    simp [hks] at this h2
    rw [this] at h2
    cases h2
   ·unfold wpOp
    simp only [hoi]
    rw [if_pos (by simp [Region.wanted, hg])]
    refine .inl (aOp_sound0 hx hSt (hbd i oi hoi) (fun v m' G' y w' k1 k2 k3 => ?_))
    refine ih (todo.filter (· != i)) (listed.setIfInBounds i true) ?_ (hnd.filter _) (by simpa using hsz) (fun j => ?_) k1 k2 (fun f'' m'' G'' a'' w'' q1 q2 q3 => hQ f'' m'' G'' a'' w'' q1 q2 (k3.trans q3))
    ·have := hnd.erase_eq_filter i
     rw [← this, List.length_erase_of_mem hit]
     omega
    ·by_cases hji : i = j
     ·subst hji
      have : i < listed.size := by omega
      simp [this]
     ·rw [getD_set_ne true hji, ← hmem j]
      simp [Ne.symm hji]
theorem aLexC_any {Q : Exit → Act → World → Prop} {c : Nat} (hok : lexOkC mu ops c = true) (hbd : ∀ (j : Nat) (o : Oper), ops[j]? = some o → dstB n o = true) :
    ∀ (fuel : Nat) (l : List Nat) (listed : Array Bool) {f : F} {m : M} {G : Ghost} {a : Act} {w : World}, l.length + (ops.size - c) = fuel → listed.size = ops.size → l.Pairwise (· < ·) → (∀ i, i ∈ l ↔ i < c ∧ listed.getD i true = false) → (∀ i, c ≤ i → i < ops.size → listed.getD i true = false) →
     (∀ j oj, ops[j]? = some oj → listed.getD j true = true → ∀ k ∈ edgesOf oj, listed.getD k true = true) →
     aLex P mu ops S (aAll P mu ops K (ops.size - c) (List.range' c (ops.size - c))) l f m → S m → St n ds G f m a w → (∀ f' m' G' a' w', K f' m' → St n ds G' f' m' a' w' → Ext G w G' w' → Q .normal a' w') → wpAny P .any ops Q fuel listed a w := by
 unfold lexOkC at hok
 simp only [Bool.and_eq_true, decide_eq_true_eq, List.all_eq_true, List.mem_range] at hok
 obtain ⟨⟨hsel0, hcs⟩, hall0⟩ := hok
 have hsel := fun (j : Nat) (o : Oper) cs b h => Region.noSelect_spec hsel0 j o cs b h
 have hedge : ∀ i oi, ops[i]? = some oi → ∀ e ∈ oi.after, Region.binds .any e = true → e.on < i := fun i oi hoi e he hb => by
  have := hall0 i (Array.getElem?_eq_some_iff.1 hoi).1
  rw [hoi] at this
  simp only [Bool.and_eq_true, Array.all_eq_true_iff_forall_mem, Bool.or_eq_true, Bool.not_eq_true', decide_eq_true_eq] at this
  rcases this.1 e he with h | h
  ·rw [hb] at h; cases h
  ·exact h
 have htl : ∀ i oi, ops[i]? = some oi → c ≤ i → ∀ k, k < c → k ∈ upOf ops (List.range i).reverse (edgesOf oi) := fun i oi hoi hci k hk => by
  have := hall0 i (Array.getElem?_eq_some_iff.1 hoi).1
  rw [hoi] at this
  simp only [Bool.and_eq_true, if_pos hci, List.all_eq_true, List.mem_range, List.contains_iff_mem] at this
  exact this.2 k hk
 have hpr : ∀ i oi, ops[i]? = some oi → i < c → ∀ k ok, k < i → ops[k]? = some ok → (∃ e ∈ oi.after, Region.binds .any e = true ∧ e.on = k) ∨ (ok.apart ops oi = true ∧ ¬ (isEff mu ok = true ∧ isEff mu oi = true)) ∨ k ∈ upOf ops (List.range i).reverse (edgesOf oi) := fun i oi hoi hic k ok hk hokk => by
  have := hall0 i (Array.getElem?_eq_some_iff.1 hoi).1
  rw [hoi] at this
  simp only [Bool.and_eq_true, if_neg (show ¬ c ≤ i by omega), List.all_eq_true, List.mem_range] at this
  have h2 := this.2 k hk
  rw [hokk] at h2
  simp only [Bool.or_eq_true, Array.any_eq_true, Bool.and_eq_true, beq_iff_eq, Bool.not_eq_true', List.contains_iff_mem] at h2
  rcases h2 with (h2 | ⟨h2, h3⟩) | h2
  ·obtain ⟨x, hx, h4, h5⟩ := h2
   exact .inl ⟨_, Array.getElem_mem hx, h4, h5⟩
  ·exact .inr (.inl ⟨h2, fun h => by rw [h.1, h.2] at h3; cases h3⟩)
  ·exact .inr (.inr h2)
 intro fuel
 induction fuel with
 | zero =>
  intro l listed f m G a w hlen hsz hsort hmem htail hchain h hm hSt hQ
  obtain rfl : l = [] := List.length_eq_zero_iff.1 (by omega)
  have hcz : ops.size - c = 0 := by simp at hlen; omega
  refine aAll_any hedge hbd 0 (List.range' c (ops.size - c)) listed (by simp [hcz]) List.nodup_range' hsz (fun i => ?_) (by rw [← hcz]; exact h) hSt hQ
  rw [List.mem_range'_1]
  refine ⟨fun hi => by omega, fun ⟨h1, h2⟩ => ?_⟩
  have := (hmem i).2 ⟨by omega, h2⟩
  cases this
 | succ fuel ih =>
  intro l listed f m G a w hlen hsz hsort hmem htail hchain h hm hSt hQ
  cases hl : l with
  | nil =>
   subst hl
   rw [show fuel + 1 = ops.size - c by simp at hlen; omega]
   refine aAll_any hedge hbd (ops.size - c) (List.range' c (ops.size - c)) listed (by simp) List.nodup_range' hsz (fun i => ?_) h hSt hQ
   rw [List.mem_range'_1]
   refine ⟨fun hi => ⟨by omega, htail i hi.1 (by omega)⟩, fun ⟨h1, h2⟩ => ?_⟩
   by_cases hic : i < c
   ·have := (hmem i).2 ⟨hic, h2⟩
    cases this
   ·omega
  | cons i0 l0 =>
  refine ⟨fun h0 => ?_, fun i hi => ?_⟩
  ·exfalso
   obtain ⟨hlt1, hun⟩ := (hmem i0).1 (by rw [hl]; simp)
   have hlt : i0 < ops.size := by omega
   have : i0 ∈ Region.ready .any ops listed := mem_ready.2 ⟨hun, ops[i0], Array.getElem?_eq_getElem hlt, fun e he hb => by
    have hlt' := hedge i0 ops[i0] (Array.getElem?_eq_getElem hlt) e he hb
    by_cases hl2 : listed.getD e.on true = true
    ·have : e.on < listed.size := by omega
     simpa [this] using hl2
    ·have hin := (hmem e.on).2 ⟨by omega, by simpa using hl2⟩
     rw [hl] at hin hsort
     rcases List.mem_cons.1 hin with e1 | e1
     ·omega
     ·have := (List.pairwise_cons.1 hsort).1 _ e1
      omega⟩
   rw [h0] at this
   cases this
  ·obtain ⟨hun, oi, hoi, hedges⟩ := mem_ready.1 hi
   have hlt : i < ops.size := (Array.getElem?_eq_some_iff.1 hoi).1
   by_cases hic0 : c ≤ i
   ·exfalso
    have hlisted : ∀ j, (∃ e ∈ oi.after, Region.binds .any e = true ∧ e.on = j) → listed.getD j true = true := fun j ⟨e, he, hb, hj⟩ => by
     have := hedges e he hb
     rw [hj] at this
     have hjl : j < listed.size := by
      rcases Nat.lt_or_ge j listed.size with h' | h'
      ·exact h'
      ·simp [Array.getElem?_eq_none h'] at this
     simpa [hjl] using this
    obtain ⟨q1, q2⟩ := (hmem i0).1 (by rw [hl]; simp)
    have := upOf_closed (Q := fun j => listed.getD j true = true) hchain _ _ (fun k hk => hlisted k (mem_edgesOf.1 hk)) i0 (htl i oi hoi hic0 i0 q1)
    rw [this] at q2
    cases q2
   have hic : i < c := by omega
   clear hl
   have hil : i ∈ l := (hmem i).2 ⟨hic, hun⟩
   obtain ⟨l1, l2, rfl⟩ := List.append_of_mem hil
   have hsort' := List.pairwise_append.1 hsort
   have hk1 : ∀ k ∈ l1, k < i := fun k hk => hsort'.2.2 k hk i (by simp)
   have hlisted : ∀ j, (∃ e ∈ oi.after, Region.binds .any e = true ∧ e.on = j) → listed.getD j true = true := fun j ⟨e, he, hb, hj⟩ => by
    have := hedges e he hb
    rw [hj] at this
    have hjl : j < listed.size := by
     rcases Nat.lt_or_ge j listed.size with h' | h'
     ·exact h'
     ·simp [Array.getElem?_eq_none h'] at this
    simpa [hjl] using this
   have hpair : ∀ k ∈ l1, OkPair mu ops k i := fun k hk ok oi' hokk hoi' => by
    rw [hoi] at hoi'; cases hoi'
    have hku : listed.getD k true = false := ((hmem k).1 (by simp [hk])).2
    rcases hpr i oi hoi hic k ok (hk1 k hk) hokk with h3 | ⟨h3, h4⟩ | h3
    ·rw [hlisted k h3] at hku; cases hku
    ·refine ⟨h3, fun q1 => ?_⟩
     cases q2 : isEff mu oi
     ·rfl
     ·exact absurd ⟨q1, q2⟩ h4
    ·have := upOf_closed (Q := fun j => listed.getD j true = true) hchain _ _ (fun k hk => ?_) k h3
     ·rw [this] at hku; cases hku
     ·exact hlisted k (mem_edgesOf.1 hk)
   have hrest : ∀ {f' : F} {m' : M} {G' : Ghost} {a' : Act} {w' : World}, aLex P mu ops S (aAll P mu ops K (ops.size - c) (List.range' c (ops.size - c))) (l1 ++ l2) f' m' → S m' → St n ds G' f' m' a' w' → Ext G w G' w' → wpAny P .any ops Q fuel (listed.setIfInBounds i true) a' w' := fun h' hm' hSt' hE => by
    refine ih (l1 ++ l2) (listed.setIfInBounds i true) (by simp at hlen ⊢; omega) (by simpa using hsz) ?_ ?_ (fun j hj hj2 => by rw [getD_set_ne true (show i ≠ j by omega)]; exact htail j hj hj2) ?_ h' hm' hSt' (fun f'' m'' G'' a'' w'' k1 k2 k3 => hQ f'' m'' G'' a'' w'' k1 k2 (hE.trans k3))
    ·refine List.pairwise_append.2 ⟨hsort'.1, (List.pairwise_cons.1 hsort'.2.1).2, fun x hx y hy => hsort'.2.2 x hx y (by simp [hy])⟩
    ·intro j
     have hjm := hmem j
     by_cases hji : i = j
     ·subst hji
      have hnot1 : i ∉ l1 := fun hx => absurd (hk1 i hx) (Nat.lt_irrefl _)
      have hnot2 : i ∉ l2 := fun hx => absurd ((List.pairwise_cons.1 hsort'.2.1).1 i hx) (Nat.lt_irrefl _)
      refine ⟨fun hx => ?_, fun ⟨_, hx⟩ => ?_⟩
      ·rcases List.mem_append.1 hx with hx | hx
       ·exact absurd hx hnot1
       ·exact absurd hx hnot2
      ·have : i < listed.size := by omega
       simp [this] at hx
     ·rw [getD_set_ne true hji, ← hjm]
      simp [Ne.symm hji]
    ·intro j oj hoj hj k hk
     have keep : ∀ k, listed.getD k true = true → (listed.setIfInBounds i true).getD k true = true := fun k hk => by
      by_cases hki : i = k
      ·subst hki
       have : i < listed.size := by omega
       simp [this]
      ·rw [getD_set_ne true hki]; exact hk
     by_cases hji : i = j
     ·subst hji
      rw [hoi] at hoj; cases hoj
      exact keep k (hlisted k (mem_edgesOf.1 hk))
     ·rw [getD_set_ne true hji] at hj
      exact keep k (hchain j oj hoj hj k hk)
   have hbi := hbd i oi hoi
   unfold wpOp
   simp only [hoi]
   by_cases he : isEff mu oi = true
   ·have h' := aLex_pull hsel hoi he l1 l2 hpair h hm
    simp only [aLex, hoi] at h'
    rcases aG_cases h' with ⟨hg, hx⟩ | ⟨j, want, b, hg, hgu, hx⟩
    ·rw [if_pos he] at hx
     rw [if_pos (by simp [Region.wanted, hg])]
     exact .inl (aOp_sound0 hx hSt hbi (fun v m' G' y w' k1 k2 k3 => hrest k1.2 k1.1 k2 k3))
    ·have hw := guardA_spec hSt.fr hg hgu
     cases b
     ·rw [if_neg (by simp [hw])]
      exact hrest (by simpa using hx) hm (hSt.put hbi (.tp [] [] rfl (fun j h => by simp at h)) hSt.inv (Ext.refl _ _)) (Ext.refl _ _)
     ·simp only [if_true] at hx
      rw [if_pos he] at hx
      rw [if_pos hw]
      exact .inl (aOp_sound0 hx hSt hbi (fun v m' G' y w' k1 k2 k3 => hrest k1.2 k1.1 k2 k3))
   ·have he' : isEff mu oi = false := by simpa using he
    have hpk := aLex_peek hsel hbd hoi he' l1 l2 hpair h hm hSt
    rcases aG_cases hpk with ⟨hg, v, hv⟩ | ⟨j, want, b, hg, hgu, hx⟩
    ·rw [if_pos (by simp [Region.wanted, hg])]
     refine .inl (aOp_sound0 (aQuiet_op (K' := fun v' m' => v' = v ∧ m' = m) hm hv ⟨rfl, rfl⟩) hSt hbi (fun v' m' G' y w' k1 k2 k3 => ?_))
     obtain ⟨rfl, rfl⟩ := k1
     exact hrest (aLex_erase hsel hoi he' l1 l2 hpair h hm (.inl ⟨hg, hv⟩)) hm k2 k3
    ·have hw := guardA_spec hSt.fr hg hgu
     cases b
     ·rw [if_neg (by simp [hw])]
      exact hrest (aLex_erase hsel hoi he' l1 l2 hpair h hm (.inr ⟨j, want, false, hg, hgu, by simp⟩)) hm (hSt.put hbi (.tp [] [] rfl (fun j h => by simp at h)) hSt.inv (Ext.refl _ _)) (Ext.refl _ _)
     ·simp only [if_true] at hx
      obtain ⟨v, hv⟩ := hx
      rw [if_pos hw]
      refine .inl (aOp_sound0 (aQuiet_op (K' := fun v' m' => v' = v ∧ m' = m) hm hv ⟨rfl, rfl⟩) hSt hbi (fun v' m' G' y w' k1 k2 k3 => ?_))
      obtain ⟨rfl, rfl⟩ := k1
      exact hrest (aLex_erase hsel hoi he' l1 l2 hpair h hm (.inr ⟨j, want, true, hg, hgu, by simpa using hv⟩)) hm k2 k3
end
end Go.Proofs.YthhhnfjcaicjnaaGreatDoor
