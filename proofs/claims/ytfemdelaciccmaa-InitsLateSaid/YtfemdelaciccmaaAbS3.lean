/-
  An operation on values without addresses does what the model's does: slices written out, stores, append.
-/
import Derived.Test.YtfemdelaciccmaaAbS2
set_option linter.unusedVariables false
set_option linter.unusedSimpArgs false
namespace Go.Proofs.Ytfemdelaciccmaa
open Go Go.RowKit

section
variable {P : Program} {G : Ghost} {w : World} {m : M}

theorem fill_row {sz : Nat} : ∀ (vs : List Value) (k : Nat) (pre rest : List Value), pre.length = k * sz → rest.length = vs.length * sz → (∀ v ∈ vs, v.cells.size = sz) →
    Instr.fill (fun i => some (i * sz, sz)) (pre ++ rest).toArray ((List.range' k vs.length).zip vs) = some (pre ++ vs.flatMap fun v => v.cells.toList).toArray
  | [], k, pre, rest, h1, h2, _ => by
    obtain rfl : rest = [] := List.eq_nil_of_length_eq_zero (by simpa using h2)
    simp [Instr.fill]
  | v :: vs, k, pre, rest, h1, h2, h3 => by
    have hv := h3 v (by simp)
    have hle : sz ≤ rest.length := by rw [h2, List.length_cons, Nat.add_mul]; omega
    have hfit : k * sz + v.cells.size ≤ (pre ++ rest).toArray.size := by simp; omega
    simp only [List.length_cons, List.range'_succ, List.zip_cons_cons, Instr.fill, fold_splice _ _ _ hfit]
    rw [if_neg (by simp only [Bool.or_eq_true, decide_eq_true_eq]; rintro (hne | hgt) <;> omega)]
    have e : spliceV (pre ++ rest).toArray.toList (k * sz) v.cells.toList = (pre ++ v.cells.toList) ++ rest.drop sz := by
      unfold spliceV
      simp only [← h1, List.take_left, Array.length_toList, hv, List.drop_append]
      simp [show pre.length + sz - pre.length = sz by omega]
    rw [e, fill_row vs (k + 1) _ _ (by simp [h1, hv, Nat.add_mul]) (by simp [h2, List.length_cons, Nat.add_mul]) (fun u hu => h3 u (by simp [hu]))]
    simp

theorem buildSlice_run {t e : TypeId} {d : TD} (ht : tel P t = some e) (hd : tdat P e = some d) (n : Nat) (vs : List Value) (ps : Array (Nat × Value)) (hps : ps.toList = (List.range n).zip vs) (hn : vs.length = n) (hmax : n * d.sz ≤ 16777216) (hv : ∀ v ∈ vs, v.cells.size = d.sz) (w : World) :
    (Instr.buildSlice t n ps).run P w = .ok (.slice (some ⟨w.heap.size, 0, none⟩) n n) (w.alloc (.cells (vs.flatMap fun v => v.cells.toList).toArray e)) := by
  obtain ⟨i, td, hi, htd, hz, hs, _⟩ := info_of hd
  have h2 : ¬ (n * i.size > 2 ^ 24) := by rw [hs]; omega
  have hfill : ∀ z : Array Value, Instr.fill (fun i => some (i * d.sz, d.sz)) ((Array.range (n * d.sz)).map (z[· % z.size]!)) ps.toList = some (vs.flatMap fun v => v.cells.toList).toArray := fun z => by
    have := fill_row (sz := d.sz) vs 0 [] ((List.range (n * d.sz)).map fun k => z[k % z.size]!) (by simp) (by simp [hn]) hv
    simp only [List.nil_append, ← List.range_eq_range', hn] at this
    rw [hps, ← this]
    congr 1
    apply Array.ext'
    simp
  simp only [Instr.buildSlice, Sem.run_bind, run_underlying (under_of ht), Result.andThen_ok, run_sizeOf hi, h2, if_false, Sem.run_pure]
  by_cases h0 : n * i.size = 0
  · simp only [h0, if_true]
    rw [Sem.run_bind, Sem.run_pure]
    simp only [Result.andThen_ok]
    have := hfill #[]
    rw [← hs] at this
    simp only [h0] at this
    simp only [this, Sem.run_bind]
    rfl
  · simp only [h0, if_false, Sem.run_bind, run_zeroValue hi hz, Result.andThen_ok, Sem.run_pure]
    have := hfill d.zero.cells
    rw [← hs] at this
    simp only [this, Sem.run_bind]
    rfl

theorem RL.flat {xs : List PV} {vs : List Value} (hl : xs.length = vs.length) (h : ∀ j (h1 : j < xs.length) (h2 : j < vs.length), RL G w xs[j].cells vs[j].cells.toList) : RL G w (xs.flatMap PV.cells) (vs.flatMap fun v => v.cells.toList) := by
  induction xs generalizing vs with
  | nil => obtain rfl : vs = [] := List.eq_nil_of_length_eq_zero hl.symm; exact RL.nil
  | cons x xs ih =>
    cases vs with
    | nil => simp at hl
    | cons v vs =>
      simp only [List.flatMap_cons]
      have h0 := h 0 (by simp) (by simp)
      exact RL.append h0 (ih (by simpa using hl) (fun j a b => h (j + 1) (by simpa using a) (by simpa using b)))

theorem flat_get {α β : Type} (f : α → List β) (sz : Nat) : ∀ (l : List α), (∀ x ∈ l, (f x).length = sz) → ∀ i (hi : i < l.length) j, j < sz → (l.flatMap f)[i * sz + j]? = (f l[i])[j]?
  | [], _, i, hi, _, _ => by simp at hi
  | x :: l, h, 0, _, j, hj => by
    have := h x (by simp)
    simp only [List.flatMap_cons, Nat.zero_mul, Nat.zero_add, List.getElem_cons_zero]
    rw [List.getElem?_append_left (by omega)]
  | x :: l, h, i + 1, hi, j, hj => by
    have h0 := h x (by simp)
    simp only [List.flatMap_cons, List.getElem_cons_succ]
    rw [List.getElem?_append_right (by rw [h0, Nat.add_mul]; omega), show (i + 1) * sz + j - (f x).length = i * sz + j by rw [h0, Nat.add_mul]; omega]
    exact flat_get f sz l (fun y hy => h y (by simp [hy])) i (by simpa using hi) j hj
theorem flat_len {α β : Type} (f : α → List β) (sz : Nat) : ∀ (l : List α), (∀ x ∈ l, (f x).length = sz) → (l.flatMap f).length = l.length * sz
  | [], _ => by simp
  | x :: l, h => by
    rw [List.flatMap_cons, List.length_append, h x (by simp), flat_len f sz l (fun y hy => h y (by simp [hy])), List.length_cons, Nat.add_mul]
    omega

/-- A settled row of elements, somewhere in a block, reads as a slice. -/
theorem slice_rep {xs : List PV} {cs : List Value} {b off cap sz : Nat} {o : Own} (hsz : ∀ x ∈ xs, x.cells.length = sz) (hok : ∀ x ∈ xs, x.ok = true) (hrl : RL G w (xs.flatMap PV.cells) cs)
    (hc : ∀ k, k < cs.length → w.cell? ⟨b, off + k, none⟩ = cs[k]? ∧ G.settled b (off + k)) (hcap : xs.length ≤ cap) (hmax : cap ≤ maxLen) (hfull : o = .full → cap = xs.length)
    (htok : ∀ t, o = .tok t → t < G.nt ∧ G.res t = ⟨b, off + xs.length * sz, off + cap * sz, sz⟩) : Rep G w (.sl o xs) (.slice (some ⟨b, off, none⟩) xs.length cap) := by
  have hlen : cs.length = xs.length * sz := by rw [← hrl.len, flat_len _ sz _ hsz]
  refine .sl o xs b off cap sz (fun k => cs.getD k undef) (fun i hi => hsz _ (List.getElem_mem _)) (fun k hk => ?_) (fun i hi => hok _ (List.getElem_mem _)) (fun i hi j hj => ?_) hcap hmax hfull htok
  · obtain ⟨a, s⟩ := hc k (by omega)
    refine ⟨?_, s⟩
    rw [a]
    simp [List.getD, show k < cs.length by omega]
  · have hj' : j < sz := by rw [← hsz xs[i] (List.getElem_mem _)]; exact hj
    have hk : i * sz + j < cs.length := by
      rw [hlen]
      have : (i + 1) * sz ≤ xs.length * sz := Nat.mul_le_mul_right _ hi
      rw [Nat.add_mul] at this
      omega
    have hg := flat_get PV.cells sz xs hsz i hi j hj'
    have hk' : i * sz + j < (xs.flatMap PV.cells).length := by rw [hrl.len]; exact hk
    rw [List.getElem?_eq_getElem hk', List.getElem?_eq_getElem hj] at hg
    have := hrl.rep (i * sz + j) hk' hk
    rw [Option.some.inj hg] at this
    simpa [List.getD, hk] using this

/-- What stands behind a slice. -/
theorem sl_inv {o : Own} {xs : List PV} {y : Value} (h : Rep G w (.sl o xs) y) :
    ((∃ ao, y = .slice ao 0 0) ∧ xs = [] ∧ ∀ t, o = .tok t → t < G.nt ∧ ¬ (G.res t).lo < (G.res t).hi) ∨
    ∃ (b off cap sz : Nat) (cs : List Value), y = .slice (some ⟨b, off, none⟩) xs.length cap ∧ (∀ x ∈ xs, x.cells.length = sz) ∧ (∀ x ∈ xs, x.ok = true) ∧ RL G w (xs.flatMap PV.cells) cs ∧
      (∀ k, k < cs.length → w.cell? ⟨b, off + k, none⟩ = cs[k]? ∧ G.settled b (off + k)) ∧ xs.length ≤ cap ∧ cap ≤ maxLen ∧ (o = .full → cap = xs.length) ∧
      (∀ t, o = .tok t → t < G.nt ∧ G.res t = ⟨b, off + xs.length * sz, off + cap * sz, sz⟩) := by
  cases h with
  | snil _ ao ho => exact .inl ⟨⟨ao, rfl⟩, rfl, ho⟩
  | sl _ _ b off cap sz c hlen hc hp hr hcap hmax hfull htok =>
    have hsz : ∀ x ∈ xs, x.cells.length = sz := fun x hx => by
      obtain ⟨i, hi, rfl⟩ := List.mem_iff_getElem.1 hx
      exact hlen i hi
    have hl := flat_len PV.cells sz xs hsz
    have hget : ∀ k (hk : k < xs.length * sz), ∃ i j, ∃ (hi : i < xs.length) (hj : j < xs[i].cells.length), k = i * sz + j ∧ (xs.flatMap PV.cells)[k]? = some xs[i].cells[j] := fun k hk => by
      have hz : 0 < sz := by
        rcases Nat.eq_zero_or_pos sz with h | h
        · subst h; simp at hk
        · exact h
      have hi : k / sz < xs.length := Nat.div_lt_of_lt_mul (by rw [Nat.mul_comm]; exact hk)
      have hj : k % sz < xs[k / sz].cells.length := by rw [hlen]; exact Nat.mod_lt _ hz
      refine ⟨k / sz, k % sz, hi, hj, (by rw [Nat.mul_comm]; exact (Nat.div_add_mod k sz).symm), ?_⟩
      have := flat_get PV.cells sz xs hsz (k / sz) hi (k % sz) (Nat.mod_lt _ hz)
      rw [show k / sz * sz + k % sz = k by rw [Nat.mul_comm]; exact Nat.div_add_mod k sz] at this
      rw [this, List.getElem?_eq_getElem hj]
    refine .inr ⟨b, off, cap, sz, (List.range (xs.length * sz)).map c, rfl, hsz, fun x hx => ?_, ⟨by simp [hl], fun k h1 h2 => ?_, fun u hu => ?_⟩, fun k hk => ?_, hcap, hmax, hfull, htok⟩
    · obtain ⟨i, hi, rfl⟩ := List.mem_iff_getElem.1 hx
      exact hp i hi
    · obtain ⟨i, j, hi, hj, hkk, hg⟩ := hget k (by simpa using h2)
      rw [List.getElem?_eq_getElem h1] at hg
      rw [Option.some.inj hg]
      simp only [List.getElem_map, List.getElem_range]
      rw [hkk]
      exact hr i hi j hj
    · obtain ⟨k, hk, rfl⟩ := List.mem_map.1 hu
      obtain ⟨i, j, hi, hj, hkk, _⟩ := hget k (by simpa using hk)
      rw [hkk]
      exact (hr i hi j hj).one (ok_cells (hp i hi) j hj).2
    · have hk' : k < xs.length * sz := by simpa using hk
      obtain ⟨a, s⟩ := hc k hk'
      exact ⟨by rw [a]; simp [hk'], s⟩

theorem buildSlice_good {t e : TypeId} {d : TD} (ht : tel P t = some e) (hd : tdat P e = some d) (hI : Inv G m w) (n : Nat) (ys : List PV) (vs : List Value) (ps : Array (Nat × Value)) (hps : ps.toList = (List.range n).zip vs) (hn : vs.length = n)
    (hlen : ys.length = vs.length) (hr : ∀ j (h1 : j < ys.length) (h2 : j < vs.length), Rep G w ys[j] vs[j]) (hmax : n * d.sz ≤ 16777216) (hmax' : n ≤ 16777216) (hy : ∀ y ∈ ys, y.cells.length = d.sz ∧ y.settle.ok = true) :
    Good G w ((Instr.buildSlice t n ps).run P w) (.sl .full (ys.map PV.settle)) m := by
  have hrl : ∀ j (h1 : j < ys.length) (h2 : j < vs.length), RL G w (ys.map PV.settle)[j]!.cells vs[j].cells.toList ∧ (ys[j]).settle.cells.length = d.sz := fun j h1 h2 => by
    obtain ⟨a, b⟩ := hy _ (List.getElem_mem h1)
    have h3 : ys[j].settle.cells.all PV.one = true := by simp only [PV.ok, Bool.and_eq_true] at b; exact b.2
    have h4 := (hr j h1 h2).settle.rl h3
    refine ⟨by simpa [h1] using h4, ?_⟩
    rw [← a]
    cases ys[j] <;> simp [PV.settle, PV.cells, settles_eq]
  have hvs : ∀ v ∈ vs, v.cells.size = d.sz := fun v hv => by
    obtain ⟨j, hj, rfl⟩ := List.mem_iff_getElem.1 hv
    obtain ⟨h5, h6⟩ := hrl j (hlen ▸ hj) hj
    have := h5.len
    simp [hlen ▸ hj] at this
    omega
  have hrun := buildSlice_run ht hd n vs ps hps hn hmax hvs w
  obtain ⟨hE, hI'⟩ := hI.push (Pushed.alloc w (.cells (vs.flatMap fun v => v.cells.toList).toArray e)) (fun _ => True)
  have hflat : RL G w ((ys.map PV.settle).flatMap PV.cells) (vs.flatMap fun v => v.cells.toList) := RL.flat (by simpa using hlen) (fun j h1 h2 => by
    have := (hrl j (by simpa using h1) h2).1
    simpa [show j < ys.length by simpa using h1] using this)
  refine ⟨_, _, _, hrun, ?_, hI', hE⟩
  have hcm : n ≤ maxLen := by
    unfold maxLen
    omega
  have := slice_rep (G := G.more w.heap.size fun _ => True) (w := w.alloc (.cells (vs.flatMap fun v => v.cells.toList).toArray e)) (xs := ys.map PV.settle) (cs := vs.flatMap fun v => v.cells.toList) (b := w.heap.size) (off := 0) (cap := n) (sz := d.sz) (o := .full)
    (fun x hx => by obtain ⟨y, hy', rfl⟩ := List.mem_map.1 hx; obtain ⟨j, hj, rfl⟩ := List.mem_iff_getElem.1 hy'; exact (hrl j hj (hlen ▸ hj)).2)
    (fun x hx => by obtain ⟨y, hy', rfl⟩ := List.mem_map.1 hx; exact (hy y hy').2) (hflat.mono hE)
    (fun k hk => ⟨by simp, .inr (.inr ⟨rfl, trivial⟩)⟩) (by simp; omega) hcm (fun _ => by simp; omega) (fun t h => by cases h)
  have he : (ys.map PV.settle).length = n := by simp; omega
  rwa [he] at this
end
end Go.Proofs.Ytfemdelaciccmaa
