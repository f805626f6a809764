/-
  An operation on values without addresses does what the model's does: rows of cells, new blocks.
-/
import Derived.Test.YtfemdelaciccmaaAbS1
set_option linter.unusedVariables false
set_option linter.unusedSimpArgs false
namespace Go.Proofs.Ytfemdelaciccmaa
open Go Go.RowKit

/-- Cells that read as cells. -/
structure RL (G : Ghost) (w : World) (xs : List PV) (cs : List Value) : Prop where
  len : xs.length = cs.length
  rep : ∀ j (h1 : j < xs.length) (h2 : j < cs.length), Rep G w xs[j] cs[j]
  one : ∀ u ∈ cs, u.oneCell' = true

section
variable {P : Program} {G : Ghost} {w : World} {m : M}

theorem RL.nil : RL G w [] [] := ⟨rfl, fun j h => by simp at h, fun u h => by cases h⟩
theorem RL.append {xs ys : List PV} {cs ds : List Value} (h : RL G w xs cs) (k : RL G w ys ds) : RL G w (xs ++ ys) (cs ++ ds) := by
  refine ⟨by simp [h.len, k.len], fun j h1 h2 => ?_, fun u hu => (List.mem_append.1 hu).elim (h.one u) (k.one u)⟩
  by_cases hj : j < xs.length
  · rw [List.getElem_append_left hj, List.getElem_append_left (h.len ▸ hj)]
    exact h.rep j _ _
  · have e := h.len
    rw [List.getElem_append_right (by omega), List.getElem_append_right (by omega)]
    simp only [e]
    exact k.rep _ _ _
theorem RL.take {xs : List PV} {cs : List Value} (h : RL G w xs cs) (n : Nat) : RL G w (xs.take n) (cs.take n) :=
  ⟨by simp [h.len], fun j h1 h2 => by simpa using h.rep j (by simp at h1; omega) (by simp at h2; omega), fun u hu => h.one u (List.mem_of_mem_take hu)⟩
theorem RL.drop {xs : List PV} {cs : List Value} (h : RL G w xs cs) (n : Nat) : RL G w (xs.drop n) (cs.drop n) :=
  ⟨by simp [h.len], fun j h1 h2 => by simpa using h.rep (n + j) (by simp at h1; omega) (by simp at h2; omega), fun u hu => h.one u (List.mem_of_mem_drop hu)⟩
def spliceV (l : List Value) (o : Nat) (x : List Value) : List Value := l.take o ++ x ++ l.drop (o + x.length)
theorem RL.spl {xs ys : List PV} {cs ds : List Value} (h : RL G w xs cs) (k : RL G w ys ds) (o : Nat) : RL G w (splice xs o ys) (spliceV cs o ds) := by
  unfold splice spliceV
  rw [k.len]
  exact ((h.take o).append k).append (h.drop _)
theorem splice_length {α : Type} (l x : List α) (o : Nat) (h : o + x.length ≤ l.length) : (l.take o ++ x ++ l.drop (o + x.length)).length = l.length := by
  simp; omega
theorem RL.mono {G' : Ghost} {w' : World} (e : Ext G w G' w') {xs : List PV} {cs : List Value} (h : RL G w xs cs) : RL G' w' xs cs := ⟨h.len, fun j a b => (h.rep j a b).mono e, h.one⟩
theorem all_one {x : PV} (h : x.cells.all PV.one = true) : x.one = true ∨ ∃ xs, x = .ag xs := by
  cases x <;> first
    | exact .inr ⟨_, rfl⟩
    | (refine .inl ?_; simpa [PV.cells] using h)
theorem Rep.rl {x : PV} {y : Value} (h : Rep G w x y) (h1 : x.cells.all PV.one = true) : RL G w x.cells y.cells.toList := by
  have hj : x ≠ .junk := fun e => by subst e; simp [PV.cells, PV.one] at h1
  obtain ⟨a, b⟩ := h.cells hj
  exact ⟨by simpa using a, fun j k1 k2 => by simpa using b j k1 (by simpa using k2), h.ones (all_one h1)⟩

/-! ### The parts laid into a row -/
theorem fold_set (off : Nat) : ∀ (l : List Value) (k : Nat) (cs : Array Value) (i : Nat), i < cs.size →
    ((l.zipIdx k).foldl (fun cs (p : Value × Nat) => cs.setIfInBounds (off + p.2) p.1) cs)[i]? = if off + k ≤ i ∧ i < off + k + l.length then l[i - off - k]? else cs[i]?
  | [], k, cs, i, _ => by simp; intro h1 h2; omega
  | v :: l, k, cs, i, hi => by
    simp only [List.zipIdx_cons, List.foldl_cons]
    rw [fold_set off l (k + 1) _ i (by simpa using hi)]
    simp only [List.length_cons, Array.getElem?_setIfInBounds]
    by_cases h1 : off + (k + 1) ≤ i ∧ i < off + (k + 1) + l.length
    · rw [if_pos h1, if_pos (by omega), show i - off - k = (i - off - (k + 1)) + 1 by omega, List.getElem?_cons_succ]
    · rw [if_neg h1]
      by_cases h2 : off + k = i
      · subst h2
        rw [if_pos (by omega)]
        simp [hi]
      · rw [if_neg (by omega), if_neg (by omega)]
theorem fold_size (off : Nat) : ∀ (l : List Value) (k : Nat) (cs : Array Value), ((l.zipIdx k).foldl (fun cs (p : Value × Nat) => cs.setIfInBounds (off + p.2) p.1) cs).size = cs.size
  | [], _, _ => rfl
  | v :: l, k, cs => by simp only [List.zipIdx_cons, List.foldl_cons]; rw [fold_size off l]; simp
theorem fold_splice (off : Nat) (vs cs : Array Value) (h : off + vs.size ≤ cs.size) :
    (vs.zipIdx.foldl (fun cs (c, j) => cs.setIfInBounds (off + j) c) cs) = (spliceV cs.toList off vs.toList).toArray := by
  have e : vs.zipIdx.foldl (fun cs (c, j) => cs.setIfInBounds (off + j) c) cs = (vs.toList.zipIdx 0).foldl (fun cs (p : Value × Nat) => cs.setIfInBounds (off + p.2) p.1) cs := by
    rw [← Array.foldl_toList, Array.toList_zipIdx]
  rw [e]
  apply Array.ext'
  apply List.ext_getElem?
  intro i
  by_cases hi : i < cs.size
  · have := fold_set off vs.toList 0 cs i hi
    simp only [Nat.add_zero, Nat.sub_zero, Array.length_toList] at this
    rw [Array.getElem?_toList, this]
    unfold spliceV
    by_cases h1 : i < off
    · rw [if_neg (by omega), List.append_assoc, List.getElem?_append_left (by simp; omega)]
      simp [h1]
    · by_cases h2 : i < off + vs.size
      · rw [if_pos ⟨by omega, h2⟩, List.append_assoc, List.getElem?_append_right (by simp; omega), List.getElem?_append_left (by simp; omega)]
        simp [Nat.min_eq_left (show off ≤ cs.size by omega)]
      · rw [if_neg (by omega), List.getElem?_append_right (by simp; omega), List.getElem?_drop]
        simp [Nat.min_eq_left (show off ≤ cs.size by omega)]
        congr 1
        omega
  · rw [List.getElem?_eq_none (by rw [Array.length_toList, fold_size]; omega), List.getElem?_eq_none (by unfold spliceV; simp; omega)]

theorem fill_rep {place : Nat → Option (Nat × Nat)} (fl : List (Nat × Nat × Bool)) (hpl : ∀ i, i < fl.length → place i = some ((fl.getD i (0, 0, false)).1, (fl.getD i (0, 0, false)).2.1)) (n : Nat) :
    ∀ (ps : List (Nat × PV)) (vs : List (Nat × Value)) (l : List PV) (c : List Value), ps.length = vs.length → (∀ j (h1 : j < ps.length) (h2 : j < vs.length), ps[j].1 = vs[j].1 ∧ Rep G w ps[j].2 vs[j].2) →
      RL G w l c → l.length = n → fillOk fl n ps → ∃ c', Instr.fill place c.toArray vs = some c'.toArray ∧ RL G w (fillA fl ps l) c' ∧ (fillA fl ps l).length = n
  | [], [], l, c, _, _, hl, hn, _ => ⟨c, rfl, hl, hn⟩
  | (i, x) :: ps, (i', v) :: vs, l, c, hlen, hp, hl, hn, hok => by
    obtain ⟨⟨h1, h2, h3, h4⟩, hok'⟩ := hok
    have h0 := hp 0 (by simp) (by simp)
    simp only [List.getElem_cons_zero] at h0
    obtain ⟨rfl, hr⟩ := h0
    have hrl := hr.rl h4
    have hsz : v.cells.size = (fl.getD i (0, 0, false)).2.1 := by have := hrl.len; simp at this; omega
    have hn' : c.length = n := by rw [← hl.len]; exact hn
    obtain ⟨c', e1, e2, e3⟩ := fill_rep fl hpl n ps vs (splice l (fl.getD i (0, 0, false)).1 x.cells) (spliceV c (fl.getD i (0, 0, false)).1 v.cells.toList) (by simpa using hlen)
      (fun j a b => by have := hp (j + 1) (by simpa using a) (by simpa using b); simpa using this) (hl.spl hrl _) (by unfold splice; rw [splice_length _ _ _ (by omega)]; exact hn) hok'
    refine ⟨c', ?_, e2, e3⟩
    have hfit : (fl.getD i (0, 0, false)).1 + v.cells.size ≤ c.toArray.size := by simp only [List.size_toArray]; omega
    simp only [Instr.fill, hpl i h1, fold_splice _ _ _ hfit]
    rw [if_neg (by simp only [Bool.or_eq_true, decide_eq_true_eq]; rintro (hne | hgt) <;> omega)]
    exact e1

theorem tflds_get {t : TypeId} {fl : List (Nat × Nat × Bool)} (h : tflds P t = some fl) : ∃ fs : Array Field, P.underlying t = some (.struct fs) ∧ fl.length = fs.size ∧
    ∀ i (h1 : i < fl.length) (h2 : i < fs.size), ∃ d, tdat P fs[i].type = some d ∧ fl[i] = (fs[i].offset, d.sz, d.agg) := by
  unfold tflds at h
  split at h
  · rename_i fs hu
    refine ⟨fs, hu, ?_⟩
    obtain ⟨fl0⟩ := fs
    simp only at h
    suffices ∀ (l : List Field) (r : List (Nat × Nat × Bool)), l.mapM (fun f => (tdat P f.type).map fun d => (f.offset, d.sz, d.agg)) = some r → r.length = l.length ∧ ∀ i (h1 : i < r.length) (h2 : i < l.length), ∃ d, tdat P l[i].type = some d ∧ r[i] = (l[i].offset, d.sz, d.agg) by
      obtain ⟨a, b⟩ := this fl0 fl h
      exact ⟨by simpa using a, fun i h1 h2 => by simpa using b i h1 (by simpa using h2)⟩
    intro l
    induction l with
    | nil => intro r hr; simp at hr; subst hr; exact ⟨rfl, fun i h => by simp at h⟩
    | cons f l ih =>
      intro r hr
      simp only [List.mapM_cons] at hr
      cases hd : tdat P f.type with
      | none => simp [hd] at hr
      | some d =>
        simp only [hd, Option.map_some, Option.bind_eq_bind, Option.bind_some] at hr
        cases hm : l.mapM (fun f => (tdat P f.type).map fun d => (f.offset, d.sz, d.agg)) with
        | none => simp [hm] at hr
        | some r' =>
          simp only [hm, Option.bind_some, Option.pure_def, Option.some.injEq] at hr
          subst hr
          obtain ⟨a, b⟩ := ih r' hm
          refine ⟨by simp [a], fun i h1 h2 => ?_⟩
          cases i with
          | zero => exact ⟨d, by simpa using hd, rfl⟩
          | succ i => simpa using b i (by simpa using h1) (by simpa using h2)
  · cases h

theorem run_places {fs : Array Field} {fl : List (Nat × Nat × Bool)} (hl : fl.length = fs.size) (h : ∀ i (h1 : i < fl.length) (h2 : i < fs.size), ∃ d, tdat P fs[i].type = some d ∧ fl[i] = (fs[i].offset, d.sz, d.agg)) (w : World) :
    (fs.mapM (fun f => do pure (f.offset, ← sizeOf f.type) : Field → Sem (Nat × Nat))).run P w = .ok (fl.map fun p => (p.1, p.2.1)).toArray w := by
  obtain ⟨fs⟩ := fs
  simp only [List.size_toArray] at hl h
  rw [List.mapM_toArray]
  suffices ∀ (l : List Field) (r : List (Nat × Nat × Bool)), r.length = l.length → (∀ i (h1 : i < r.length) (h2 : i < l.length), ∃ d, tdat P l[i].type = some d ∧ r[i] = (l[i].offset, d.sz, d.agg)) →
      (l.mapM (fun f => do pure (f.offset, ← sizeOf f.type) : Field → Sem (Nat × Nat))).run P w = .ok (r.map fun p => (p.1, p.2.1)) w by
    have := this fs fl hl (fun i h1 h2 => by simpa using h i h1 h2)
    rw [show (List.toArray <$> fs.mapM (fun f => do pure (f.offset, ← sizeOf f.type) : Field → Sem (Nat × Nat))) = ((fs.mapM (fun f => do pure (f.offset, ← sizeOf f.type) : Field → Sem (Nat × Nat))) >>= fun l => pure l.toArray) from (bind_pure_comp _ _).symm]
    rw [Sem.run_bind, this]
    rfl
  intro l
  induction l with
  | nil => intro r hr _; obtain rfl := List.eq_nil_of_length_eq_zero hr; rfl
  | cons f l ih =>
    intro r hr hh
    cases r with
    | nil => simp at hr
    | cons p r =>
      obtain ⟨d, h1, h2⟩ := hh 0 (by simp) (by simp)
      simp only [List.getElem_cons_zero] at h1 h2
      obtain ⟨i, td, hi, _, _, hs, _⟩ := info_of h1
      have := ih r (by simpa using hr) (fun i a b => hh (i + 1) (by simpa using a) (by simpa using b))
      subst h2
      rw [List.mapM_cons]
      simp only [Sem.run_bind, run_sizeOf hi, hs, Result.andThen_ok, Sem.run_pure, this, List.map_cons]

theorem build_good {t : TypeId} {fl : List (Nat × Nat × Bool)} {d : TD} (hfl : tflds P t = some fl) (hd : tdat P t = some d) (hI : Inv G m w) (ps : List (Nat × PV)) (vs : List (Nat × Value)) (hlen : ps.length = vs.length)
    (hp : ∀ j (h1 : j < ps.length) (h2 : j < vs.length), ps[j].1 = vs[j].1 ∧ Rep G w ps[j].2 vs[j].2) (h1 : (ofV d.zero).cells.all PV.one = true) (hok : fillOk fl (ofV d.zero).cells.length ps) :
    Good G w ((Instr.build t vs.toArray).run P w) (.ag (fillA fl ps (ofV d.zero).cells)) m := by
  obtain ⟨fs, hu, hl, hget⟩ := tflds_get hfl
  obtain ⟨i, td, hi, htd, hz, _⟩ := info_of hd
  have hzr := (ofV_rep G w d.zero).rl h1
  obtain ⟨c', e1, e2, e3⟩ := fill_rep (G := G) (w := w) (place := fun i => ((fl.map fun p => (p.1, p.2.1)).toArray)[i]?) fl (fun i hi => by simp [List.getD, hi]) _ ps vs _ _ hlen hp hzr rfl hok
  refine Good.same (y := .agg c'.toArray) ?_ (.ag _ _ e2.len e2.rep e2.one) hI
  simp only [Instr.build, Sem.run_bind, run_zeroValue hi hz, Result.andThen_ok, run_underlying hu, run_places hl hget]
  simp only [Array.toArray_toList] at e1
  simp only [e1, Sem.run_pure]

theorem aflds_get (de : TD) : ∀ (n o i : Nat) (h : i < (aflds n o de).length), i < n ∧ (aflds n o de)[i] = (o + i * de.sz, de.sz, de.agg)
  | 0, o, i, h => by simp [aflds] at h
  | n + 1, o, 0, h => by simp [aflds]
  | n + 1, o, i + 1, h => by
    simp only [aflds, List.length_cons] at h
    obtain ⟨h1, h2⟩ := aflds_get de n (o + de.sz) i (by omega)
    refine ⟨by omega, ?_⟩
    simp only [aflds, List.getElem_cons_succ, h2, Nat.add_mul, Nat.one_mul]
    congr 1
    omega
theorem buildArr_good {t e : TypeId} {n : Nat} {d de : TD} (ht : tarr P t = some (n, e)) (hde : tdat P e = some de) (hd : tdat P t = some d) (hI : Inv G m w) (ps : List (Nat × PV)) (vs : List (Nat × Value)) (hlen : ps.length = vs.length)
    (hp : ∀ j (h1 : j < ps.length) (h2 : j < vs.length), ps[j].1 = vs[j].1 ∧ Rep G w ps[j].2 vs[j].2) (h1 : (ofV d.zero).cells.all PV.one = true) (hok : fillOk (aflds n 0 de) (ofV d.zero).cells.length ps) :
    Good G w ((Instr.build t vs.toArray).run P w) (.ag (fillA (aflds n 0 de) ps (ofV d.zero).cells)) m := by
  obtain ⟨i, td, hi, htd, hz, _⟩ := info_of hd
  obtain ⟨i', td', hi', htd', hz', hs', _⟩ := info_of hde
  have hu : P.underlying t = some (.array n e) := by
    unfold tarr at ht
    split at ht
    · rename_i h; cases ht; exact h
    · cases ht
  have hzr := (ofV_rep G w d.zero).rl h1
  obtain ⟨c', e1, e2, e3⟩ := fill_rep (G := G) (w := w) (place := fun i => some (i * i'.size, i'.size)) (aflds n 0 de) (fun i hi => by
    obtain ⟨_, h2⟩ := aflds_get de n 0 i hi
    simp [List.getD, hi, h2, hs']) _ ps vs _ _ hlen hp hzr rfl hok
  refine Good.same (y := .agg c'.toArray) ?_ (.ag _ _ e2.len e2.rep e2.one) hI
  simp only [Instr.build, Sem.run_bind, run_zeroValue hi hz, Result.andThen_ok, run_underlying hu, run_sizeOf hi']
  simp only [Array.toArray_toList] at e1
  simp only [e1, Sem.run_pure]

/-! ### New blocks -/
theorem ok_cells {x : PV} (h : x.ok = true) : ∀ i (hi : i < x.cells.length), x.cells[i].pure = true ∧ x.cells[i].one = true := by
  intro i hi
  simp only [PV.ok, Bool.and_eq_true] at h
  refine ⟨?_, List.all_eq_true.1 h.2 _ (List.getElem_mem _)⟩
  have hp := h.1
  revert hi
  cases x <;> intro hi <;> first
    | (simp only [PV.cells, List.length_singleton] at hi; obtain rfl : i = 0 := by omega
       exact hp)
    | (simp only [PV.pure] at hp
       exact (pures_iff _).1 hp _ (List.getElem_mem _))
/-- A new block, settled. -/
theorem new_ep {w' : World} {e : TypeId} {x : PV} {y : Value} (hI : Inv G m w) (h : Rep G w x y) (hx : x.ok = true) (hw : Pushed w w' (.cells y.cells e)) :
    ∃ G', Rep G' w' (.ep x.cells) (.pointer (some ⟨w.heap.size, 0, none⟩)) ∧ Inv G' m w' ∧ Ext G w G' w' := by
  obtain ⟨hE, hI'⟩ := hI.push hw (fun _ => True)
  have h1 : x.cells.all PV.one = true := by simp only [PV.ok, Bool.and_eq_true] at hx; exact hx.2
  have hrl := h.rl h1
  refine ⟨_, ?_, hI', hE⟩
  refine .ep x.cells w.heap.size 0 (fun k => y.cells.getD k undef) (fun k hk => ⟨?_, .inr (.inr ⟨rfl, trivial⟩)⟩) (ok_cells hx) (fun i hi => ?_)
  · have hk' : k < y.cells.size := by have := hrl.len; simp at this; omega
    rw [hw.cellNew, Nat.zero_add]
    simp [hk']
  · have hi' : i < y.cells.size := by have := hrl.len; simp at this; omega
    have := (hrl.rep i hi (by simpa using hi')).mono hE
    simpa [hi'] using this
/-- A new box. -/
theorem new_box {w' : World} {e : TypeId} {c : List PV} {cs : List Value} (hI : Inv G m w) (h : RL G w c cs) (hw : Pushed w w' (.cells cs.toArray e)) :
    ∃ G', (G'.nb = G.nb + 1 ∧ G'.mp m.nb = false) ∧ G'.box m.nb = w.heap.size ∧ Inv G' (m.push c) w' ∧ Ext G w G' w' := by
  obtain ⟨hE, hI'⟩ := hI.push hw (fun _ => False)
  have h' := h.mono hE
  have hlt : ∀ id c', m.get id = some c' → G.box id < w.heap.size := fun id c' hc => by
    exact hI.blt hc
  refine ⟨_, ⟨rfl, if_pos hI.nb⟩, ?_, hI'.addBox w.heap.size c cs e hw.new h'.len h'.rep h'.one hI.base (fun o hs => ?_) (fun id c' hc => Nat.ne_of_lt (hlt id c' hc)) (fun t s ht o hb => ?_), hE.trans (Ext.addBox _ _ _)⟩
  · exact if_pos hI.nb
  · rcases hs with hs | ⟨_, hs⟩
    · have := hI.set _ _ hs; omega
    · exact hs
  · obtain ⟨_, _, a3, _⟩ := (hI.tok t s ht).2 _ _ hb
    obtain ⟨u, hu⟩ := Option.isSome_iff_exists.1 a3
    have : w.heap.size < w.heap.size := World.block_lt_of_cell? w _ hu
    omega
theorem new_bp {w' : World} {e : TypeId} {c : List PV} {cs : List Value} (hI : Inv G m w) (h : RL G w c cs) (hw : Pushed w w' (.cells cs.toArray e)) :
    ∃ G', Rep G' w' (.bp m.nb 0) (.pointer (some ⟨w.heap.size, 0, none⟩)) ∧ Inv G' (m.push c) w' ∧ Ext G w G' w' := by
  obtain ⟨G', ⟨h1, hm⟩, h2, h3, h4⟩ := new_box hI h hw
  refine ⟨G', ?_, h3, h4⟩
  rw [← h2]
  have hnb : m.nb = G.nb := hI.nb
  exact .bp _ _ (by omega) hm
theorem new_bs {w' : World} {e : TypeId} {c : List PV} {cs : List Value} (n : Nat) (hn : n ≤ maxLen) (hI : Inv G m w) (h : RL G w c cs) (hw : Pushed w w' (.cells cs.toArray e)) :
    ∃ G', Rep G' w' (.bs m.nb 0 n) (.slice (some ⟨w.heap.size, 0, none⟩) n n) ∧ Inv G' (m.push c) w' ∧ Ext G w G' w' := by
  obtain ⟨G', ⟨h1, hm⟩, h2, h3, h4⟩ := new_box hI h hw
  refine ⟨G', ?_, h3, h4⟩
  rw [← h2]
  have hnb : m.nb = G.nb := hI.nb
  exact .bs _ _ _ _ (by omega) hm (Nat.le_refl _) hn
end
end Go.Proofs.Ytfemdelaciccmaa
