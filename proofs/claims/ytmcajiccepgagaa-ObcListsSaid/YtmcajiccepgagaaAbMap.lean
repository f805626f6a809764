/-
  Maps by strings: a look, an entry laid, all struck.
-/
import Derived.Test.YtmcajiccepgagaaAbS2
import Derived.MapKept
import Derived.Laws.Strings
set_option linter.unusedVariables false
set_option linter.unusedSimpArgs false
namespace Go.Proofs.Ytmcajiccepgagaa
open Go Go.RowKit Go.MapKept

section
variable {P : Program} {G : Ghost} {w : World} {m : M}
theorem tmap_spec {t e : TypeId} (h : tmap P t = some e) : ∃ k, P.underlying t = some (.map k e) ∧ P.underlying k = some .string := by
  unfold tmap at h
  split at h
  · rename_i k e' hu
    split at h
    · rename_i hk
      cases h
      exact ⟨k, hu, hk⟩
    · cases h
  · cases h
theorem bytes_tl {a k : ByteArray} : (a.toList == k.toList) = true ↔ a = k := by
  rw [beq_iff_eq]
  exact ⟨fun h => by
    rw [ByteArray.toList_eq, ByteArray.toList_eq] at h
    exact ByteArray.ext (Array.ext' h), fun h => by rw [h]⟩
theorem getPut_spec (k : ByteArray) (v : PV) : ∀ (ks : List ByteArray) (vs : List PV) (es : List MapEntry) (i : Nat), es.map (·.key) = ks.map Value.string → vs.length = es.length →
    (mapGet (ks.map fun k => .v (.string k)) vs k = none ∧ Instr.findNow .string (.string k) es i = some none ∧ mapPut (ks.map fun k => .v (.string k)) vs k v = ((ks ++ [k]).map (fun k => .v (.string k)), vs ++ [v])) ∨
    ∃ (j : Nat) (e : MapEntry) (h : j < vs.length), mapGet (ks.map fun k => .v (.string k)) vs k = some vs[j] ∧ Instr.findNow .string (.string k) es i = some (some (i + j, e.val)) ∧ es[j]? = some e ∧ e.key = .string k ∧ mapPut (ks.map fun k => .v (.string k)) vs k v = (ks.map (fun k => .v (.string k)), vs.set j v)
  | [], vs, es, i, hk, hl => by
    have he : es = [] := by simpa using hk
    subst he
    obtain rfl : vs = [] := List.eq_nil_of_length_eq_zero hl
    exact .inl ⟨rfl, rfl, rfl⟩
  | a :: ks, vs, es, i, hk, hl => by
    cases es with
    | nil => simp at hk
    | cons e es =>
      cases vs with
      | nil => simp at hl
      | cons u vs =>
        simp only [List.map_cons, List.cons.injEq] at hk
        obtain ⟨hk1, hk2⟩ := hk
        have hs : Instr.sameNow .string (.string k) e.key = some (a.toList == k.toList) := by
          obtain ⟨r, hr, hiff⟩ := sameNow_of_keys (d := .string) (a := .string k) (b := e.key) trivial (by rw [hk1]; trivial)
          rw [hr]
          congr 1
          rw [Bool.eq_iff_iff, hiff, bytes_tl, hk1]
          simp only [Value.string.injEq]
          exact ⟨fun h => h.symm, fun h => h.symm⟩
        simp only [List.map_cons, mapGet, mapPut, Instr.findNow, hs]
        cases ht : a.toList == k.toList with
        | true =>
          refine .inr ⟨0, e, by simp, by simp, by simp, rfl, ?_, by simp⟩
          rw [hk1, bytes_tl.1 ht]
        | false =>
          rcases getPut_spec k v ks vs es (i + 1) hk2 (by simpa using hl) with ⟨h1, h2, h3⟩ | ⟨j, e', hj, h1, h2, h3, h4, h5⟩
          · exact .inl ⟨by simpa using h1, by simpa using h2, by simp [h3]⟩
          · refine .inr ⟨j + 1, e', by simpa using hj, by simpa using h1, ?_, by simpa using h3, h4, by simp [h5]⟩
            simp only [Bool.false_eq_true]
            rw [h2]
            simp only [Option.some.injEq, Prod.mk.injEq, and_true]
            omega

/-- What stands at a map. -/
theorem map_at (hI : Inv G m w) {id : Nat} {p q : List PV} {y : Value} (hy : Rep G w (.mp id) y) (hc : m.get id = some [.tp p, .tp q]) : ∃ (ks : List ByteArray) (vs : List PV) (es : List MapEntry) (b0 : Nat), y = .map (some (G.box id)) ∧ [PV.tp p, .tp q] = [.tp (ks.map fun k => .v (.string k)), .tp vs] ∧
    w.heap[G.box id]? = some (.map es.toArray (b0 + es.length)) ∧ es.map (·.key) = ks.map Value.string ∧ vs.length = es.length ∧ (∀ j (h1 : j < vs.length) (h2 : j < es.length), Rep G w vs[j] es[j].val) ∧ G.mp id = true ∧ es.map (·.born) = (List.range es.length).map (b0 + ·) := by
  cases hy with
  | mp _ hid hm =>
    obtain ⟨o, h1, h2, h3⟩ := hI.box id _ hc
    rw [hm] at h2
    generalize hcc : [PV.tp p, .tp q] = c at h2
    cases h2 with
    | map ks vs es b0 tl htl hb0 hk hl hr =>
      have htl : tl = [] := by
        simp only [List.cons.injEq] at hcc
        exact hcc.2.2.symm
      subst htl
      exact ⟨ks, vs, es, b0, rfl, rfl, h1, hk, hl, hr, hm, hb0⟩
    | iter => simp at hcc
theorem lookup_good {t e : TypeId} {d : TD} (ht : tmap P t = some e) (hd : tdat P e = some d) (hI : Inv G m w) {id : Nat} {ks vs : List PV} {y : Value} (hy : Rep G w (.mp id) y) (hc : m.get id = some [.tp ks, .tp vs]) (k : ByteArray) (ok : Bool) :
    Good G w ((Instr.lookup t y (.string k) ok).run P w) (lookRes ok (ofV d.zero) (mapGet ks vs k)) m := by
  obtain ⟨kt, h1, h2⟩ := tmap_spec ht
  obtain ⟨ti, td, hi, _, hz, _⟩ := info_of hd
  obtain ⟨ks', vs', es, b0, rfl, hcc, hb, hk, hl, hr, _⟩ := map_at hI hy hc
  simp only [List.cons.injEq, PV.tp.injEq, and_true] at hcc
  obtain ⟨rfl, rfl⟩ := hcc
  have hkey : IsKey .string (.string k) := trivial
  rcases getPut_spec k .junk ks' vs es 0 hk hl with ⟨g1, g2, _⟩ | ⟨j, e', hj, g1, g2, g3, g4, _⟩
  · rw [g1]
    refine Good.same (y := if ok then .tuple #[d.zero, .bool false] else d.zero) ?_ ?_ hI
    · simp [Instr.lookup, run_underlying h1, MapKept.run_getObj_map hb, MapKept.run_checkKey h2 hkey, MapKept.run_findKey h2 g2, run_zeroValue hi hz, Result.andThen]
    · simp only [lookRes]
      cases ok
      · exact ofV_rep G w _
      · exact .tp _ [d.zero, .bool false] rfl (fun j q1 q2 => by
          match j, q1, q2 with
          | 0, _, _ => exact ofV_rep G w _
          | 1, _, _ => exact .v rfl)
  · rw [g1]
    obtain ⟨hj2, rfl⟩ := List.getElem?_eq_some_iff.1 g3
    refine Good.same (y := if ok then .tuple #[es[j].val, .bool true] else es[j].val) ?_ ?_ hI
    · simp [Instr.lookup, run_underlying h1, MapKept.run_getObj_map hb, MapKept.run_checkKey h2 hkey, MapKept.run_findKey h2 g2, Result.andThen]
    · simp only [lookRes]
      cases ok
      · exact hr j hj hj2
      · exact .tp _ [es[j].val, .bool true] rfl (fun i q1 q2 => by
          match i, q1, q2 with
          | 0, _, _ => exact hr j hj hj2
          | 1, _, _ => exact .v rfl)
theorem setObj_rowed {r : Nat} {es : Array MapEntry} {clk : Nat} (hb : w.heap[r]? = some (.map es clk)) (o : Obj) : Rowed w { w with heap := w.heap.setIfInBounds r o } r ∧ ({ w with heap := w.heap.setIfInBounds r o } : World).heap[r]? = some o :=
  ⟨⟨fun k hk => (heap_set (w := w) (o' := o) hb).2 k hk, by simp, rfl, rfl, rfl⟩, (heap_set hb).1⟩
theorem mapUpdate_good {t e : TypeId} (ht : tmap P t = some e) (hI : Inv G m w) {id : Nat} {ks vs : List PV} {y : Value} (hy : Rep G w (.mp id) y) (hc : m.get id = some [.tp ks, .tp vs]) (k : ByteArray) {x : PV} {u : Value} (hx : Rep G w x u) :
    ∃ w', (Instr.mapUpdate t y (.string k) u).run P w = .ok () w' ∧ Inv G (m.upd id [.tp (mapPut ks vs k x).1, .tp (mapPut ks vs k x).2]) w' ∧ Ext G w G w' := by
  obtain ⟨kt, h1, h2⟩ := tmap_spec ht
  obtain ⟨ks', vs', es, b0, rfl, hcc, hb, hk, hl, hr, hm, hbo⟩ := map_at hI hy hc
  simp only [List.cons.injEq, PV.tp.injEq, and_true] at hcc
  obtain ⟨rfl, rfl⟩ := hcc
  have hkey : IsKey .string (.string k) := trivial
  rcases getPut_spec k x ks' vs es 0 hk hl with ⟨g1, g2, g3⟩ | ⟨j, e', hj, g1, g2, g3, g4, g5⟩
  · obtain ⟨hrow, hb'⟩ := setObj_rowed hb (.map (es.toArray.push { key := .string k, val := u, born := b0 + es.length }) (b0 + es.length + 1))
    obtain ⟨hE, hI'⟩ := hI.storeG (c' := [.tp (mapPut (ks'.map fun k => .v (.string k)) vs k x).1, .tp (mapPut (ks'.map fun k => .v (.string k)) vs k x).2]) hc hrow _ hb' (by
      rw [hm, g3]
      have := BoxAt.map (G := G) (w := w) (ks' ++ [k]) (vs ++ [x]) (es ++ [{ key := .string k, val := u, born := b0 + es.length }]) b0 [] (.inl rfl) (by simp [hbo, List.range_succ]) (by simp [hk]) (by simp [hl]) (fun j q1 q2 => by
        rcases Nat.lt_or_ge j vs.length with hj | hj
        · rw [List.getElem_append_left hj, List.getElem_append_left (hl ▸ hj)]
          exact hr j hj (hl ▸ hj)
        · have hj' : j = vs.length := by simp at q1; omega
          subst hj'
          simpa [List.getElem_append_right, hl] using hx)
      simpa [Nat.add_assoc] using this)
    exact ⟨_, by simp [Instr.mapUpdate, run_underlying h1, MapKept.run_getObj_map hb, MapKept.run_checkKey h2 hkey, MapKept.run_findKey h2 g2, MapKept.run_setObj_map _ hb, Result.andThen], hI', hE⟩
  · obtain ⟨hj2, rfl⟩ := List.getElem?_eq_some_iff.1 g3
    have hje : es.toArray[j]? = some es[j] := by simp [hj2]
    obtain ⟨hrow, hb'⟩ := setObj_rowed hb (.map (es.toArray.modify j fun e => { e with key := .string k, val := u }) (b0 + es.length))
    obtain ⟨hE, hI'⟩ := hI.storeG (c' := [.tp (mapPut (ks'.map fun k => .v (.string k)) vs k x).1, .tp (mapPut (ks'.map fun k => .v (.string k)) vs k x).2]) hc hrow _ hb' (by
      rw [hm, g5]
      have hmod : es.toArray.modify j (fun e => { e with key := .string k, val := u }) = (es.set j { es[j] with key := .string k, val := u }).toArray := by
        apply Array.ext'
        simp only [Array.toList_modify]
        apply List.ext_getElem?
        intro i
        simp only [List.getElem?_modify, List.getElem?_set]
        by_cases hij : j = i
        · subst hij; simp [hj2]
        · simp [hij]
      rw [hmod]
      have := BoxAt.map (G := G) (w := w) ks' (vs.set j x) (es.set j { es[j] with key := .string k, val := u }) b0 [] (.inl rfl) (by
        rw [List.length_set, ← hbo]
        apply List.ext_getElem?
        intro i
        simp only [List.getElem?_map, List.getElem?_set]
        by_cases hij : j = i
        · subst hij; simp [hj2]
        · simp [hij]) (by
        rw [← hk]
        apply List.ext_getElem?
        intro i
        simp only [List.getElem?_map, List.getElem?_set]
        by_cases hij : j = i
        · subst hij; simp [hj2, g4]
        · simp [hij]) (by simp [hl]) (fun i q1 q2 => by
        simp only [List.getElem_set]
        split
        · exact hx
        · exact hr i (by simpa using q1) (by simpa using q2))
      simpa using this)
    exact ⟨_, by simp [Instr.mapUpdate, run_underlying h1, MapKept.run_getObj_map hb, MapKept.run_checkKey h2 hkey, MapKept.run_findKey h2 g2, g3, g4, List.getElem?_eq_getElem hj2, MapKept.run_keyThatStays hkey, MapKept.run_setObj_map _ hb, Result.andThen], hI', hE⟩
theorem clear_good {t e ty : TypeId} (ht : tmap P t = some e) (hI : Inv G m w) {id : Nat} {ks vs : List PV} {y : Value} (hy : Rep G w (.mp id) y) (hc : m.get id = some [.tp ks, .tp vs]) :
    Good G w ((Builtin.clear_ #[t] ty #[y]).run P w) (.tp []) (m.upd id [.tp [], .tp []]) := by
  obtain ⟨kt, h1, h2⟩ := tmap_spec ht
  obtain ⟨ks', vs', es, b0, rfl, hcc, hb, hk, hl, hr, hm, hbo⟩ := map_at hI hy hc
  obtain ⟨hrow, hb'⟩ := setObj_rowed hb (.map #[] (b0 + es.length))
  obtain ⟨hE, hI'⟩ := hI.storeG (c' := [.tp [], .tp []]) hc hrow _ hb' (by
    rw [hm]
    exact BoxAt.map (G := G) (w := w) [] [] [] (b0 + es.length) [] (.inl rfl) rfl rfl rfl (fun j q1 => by simp at q1))
  exact ⟨.tuple #[], _, G, by simp [Builtin.clear_, run_underlying h1, MapKept.run_getObj_map hb, MapKept.run_setObj_map _ hb, Result.andThen], .tp [] [] rfl (fun j q1 => by simp at q1), hI', hE⟩
/-- A new map. -/
theorem new_map (hI : Inv G m w) : ∃ G', Rep G' (w.alloc (.map #[] 0)) (.mp m.nb) (.map (some w.heap.size)) ∧ Inv G' (m.push [.tp [], .tp []]) (w.alloc (.map #[] 0)) ∧ Ext G w G' (w.alloc (.map #[] 0)) := by
  have hpush : Pushed w (w.alloc (.map #[] 0)) (.map #[] 0) := Pushed.alloc w _
  obtain ⟨hE, hI'⟩ := hI.push hpush (fun _ => False)
  have hnb : m.nb = G.nb := hI.nb
  have hI2 := hI'.addBoxG w.heap.size [.tp [], .tp []] true _ hpush.new (BoxAt.map (G := _) (w := _) [] [] [] 0 [] (.inl rfl) rfl rfl rfl (fun j q1 => by simp at q1)) hI.base (fun o hs => by
    rcases hs with hs | ⟨_, hs⟩
    · have := hI.set _ _ hs; omega
    · exact hs) (fun id c' hc => Nat.ne_of_lt (hI.blt hc)) (fun t s ht o hb => by
    obtain ⟨_, _, a3, _⟩ := (hI.tok t s ht).2 _ _ hb
    obtain ⟨u, hu⟩ := Option.isSome_iff_exists.1 a3
    have : w.heap.size < w.heap.size := World.block_lt_of_cell? w _ hu
    omega)
  refine ⟨_, ?_, hI2, hE.trans (Ext.addBox _ _ _ _)⟩
  have := Rep.mp (G := (G.more w.heap.size fun _ => False).addBox w.heap.size true) (w := w.alloc (.map #[] 0)) m.nb (by show m.nb < G.nb + 1; omega) (if_pos hnb)
  have hbx : ((G.more w.heap.size fun _ => False).addBox w.heap.size true).box m.nb = w.heap.size := if_pos hnb
  rwa [hbx] at this
/-- A walk through a map that holds nothing. -/
theorem range_good {t e : TypeId} (ht : tmap P t = some e) (hI : Inv G m w) {id : Nat} {y : Value} (hy : Rep G w (.mp id) y) (hc : m.get id = some [.tp [], .tp []]) :
    Good G w ((Instr.range t y).run P w) (.it m.nb) (m.push [.mp id, .tp []]) := by
  obtain ⟨kt, h1, h2⟩ := tmap_spec ht
  obtain ⟨ks', vs', es, b0, rfl, hcc, hb, hk, hl, hr, hm, hbo⟩ := map_at hI hy hc
  have hpush := Pushed.alloc w (.mapIter (some (G.box id)) (b0 + es.length) #[] (b0 + es.length))
  obtain ⟨hE, hI'⟩ := hI.push hpush (fun _ => False)
  have hnb : m.nb = G.nb := hI.nb
  have hI2 := hI'.addBoxG w.heap.size [.mp id, .tp []] true _ hpush.new (BoxAt.iter (G := _) (w := _) id (G.box id) (b0 + es.length) (b0 + es.length) [] [] (.inl ⟨rfl, rfl⟩) (Nat.le_refl _) (hy.mono hE)) hI.base (fun o hs => by
    rcases hs with hs | ⟨_, hs⟩
    · have := hI.set _ _ hs; omega
    · exact hs) (fun id c' hc => Nat.ne_of_lt (hI.blt hc)) (fun t s ht o hb => by
    obtain ⟨_, _, a3, _⟩ := (hI.tok t s ht).2 _ _ hb
    obtain ⟨u, hu⟩ := Option.isSome_iff_exists.1 a3
    have : w.heap.size < w.heap.size := World.block_lt_of_cell? w _ hu
    omega)
  refine ⟨.pointer (some ⟨w.heap.size, 0, none⟩), _, _, ?_, ?_, hI2, hE.trans (Ext.addBox _ _ _ _)⟩
  · simp [Instr.range, run_underlying h1, MapKept.run_getObj_map hb, Result.andThen, newObj, Sem.run]
  · have := Rep.it (G := (G.more w.heap.size fun _ => False).addBox w.heap.size true) (w := w.alloc (.mapIter (some (G.box id)) (b0 + es.length) #[] (b0 + es.length))) m.nb (by show m.nb < G.nb + 1; omega) (if_pos hnb)
    have hbx : ((G.more w.heap.size fun _ => False).addBox w.heap.size true).box m.nb = w.heap.size := if_pos hnb
    rwa [hbx] at this
theorem next_good (hI : Inv G m w) {id mid : Nat} {ty : TypeId} {y : Value} (hy : Rep G w (.it id) y) (hc : m.get id = some [.mp mid, .tp []]) (hc2 : m.get mid = some [.tp [], .tp []]) :
    Good G w ((Instr.next y false ty).run P w) (.tp [.v (.bool false)]) m := by
  cases hy with
  | it _ hid hm =>
    obtain ⟨o, h1, h2, h3⟩ := hI.box id _ hc
    rw [hm] at h2
    generalize hcc : [PV.mp mid, .tp []] = c at h2
    cases h2 with
    | map => simp at hcc
    | iter mid' bm since st seen tl htl hs hmm =>
      simp only [List.cons.injEq, PV.mp.injEq, PV.tp.injEq] at hcc
      obtain ⟨rfl, hsn, _⟩ := hcc
      obtain rfl : seen = [] := by simpa using hsn.symm
      obtain ⟨ks', vs', es, b0, hyy, hcc, hb, hk, hl, hr, hm, hbo⟩ := map_at hI hmm hc2
      cases hyy
      simp only [List.cons.injEq, PV.tp.injEq, and_true] at hcc
      obtain ⟨_, rfl⟩ := hcc
      obtain rfl : es = [] := List.eq_nil_of_length_eq_zero hl.symm
      refine Good.same (y := .tuple #[.bool false]) ?_ (.tp _ [.bool false] rfl (fun j q1 q2 => by
        match j, q1, q2 with
        | 0, _, _ => exact .v rfl)) hI
      simp [Instr.next, getObj, Sem.run, h1, hb, Result.andThen, choose, Question.forced]
end
end Go.Proofs.Ytmcajiccepgagaa
