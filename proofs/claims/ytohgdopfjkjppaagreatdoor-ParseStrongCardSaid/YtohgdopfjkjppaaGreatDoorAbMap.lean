/-
 Maps by strings: a look, an entry laid, all struck.
-/
-- halved
import Derived.Test.YtohgdopfjkjppaaGreatDoorGA
import Derived.MapKept
import Derived.Laws.Strings
set_option linter.unusedVariables false
set_option linter.unusedSimpArgs false
namespace Go.Proofs.YtohgdopfjkjppaaGreatDoor
open Go Go.RowKit Go.MapKept

section
variable {P : Program} {G : Ghost} {w : World} {m : M}
theorem tmap_spec {t e : TypeId} (h : tmap P t = some e) : ∃ k, P.underlying t = some (.map k e) ∧ P.underlying k = some .string := by
 unfold tmap at h
 split at h
 ·rename_i k e' hu
  split at h
  ·rename_i hk
   cases h
   exact ⟨k, hu, hk⟩
  ·cases h
 ·cases h
theorem bytes_tl {a k : ByteArray} : (a.toList == k.toList) = true ↔ a = k := by
 rw [beq_iff_eq]
 exact ⟨fun h => by
  rw [ByteArray.toList_eq, ByteArray.toList_eq] at h
  exact ByteArray.ext (Array.ext' h), fun h => by rw [h]⟩
theorem getPut_spec (k : ByteArray) (v : PV) : ∀ (ks : List ByteArray) (vs : List PV) (es : List MapEntry) (i : Nat), es.map (·.key) = ks.map Value.string → vs.length = es.length →
    (mapGet (ks.map fun k => .v (.string k)) vs k = none ∧ Instr.findNow .string (.string k) es i = some none ∧ mapPut (ks.map fun k => .v (.string k)) vs k v = ((ks ++ [k]).map (fun k => .v (.string k)), vs ++ [v])) ∨
    ∃ (j : Nat) (e : MapEntry) (h : j < vs.length), mapGet (ks.map fun k => .v (.string k)) vs k = some vs[j] ∧ Instr.findNow .string (.string k) es i = some (some (i + j, e.val)) ∧ es[j]? = some e ∧ e.key = .string k ∧ mapPut (ks.map fun k => .v (.string k)) vs k v = (ks.map (fun k => .v (.string k)), vs.set j v)
 | [], vs, es, i, hk, hl => by
  have he : es = [] := by simpa using hk
  subst he
  obtain rfl : vs = [] := List.eq_nil_of_length_eq_zero hl
  exact .inl ⟨rfl, rfl, rfl⟩
 | a :: ks, vs, es, i, hk, hl => by
  cases es with
  | nil => simp at hk
  | cons e es =>
   cases vs with
   | nil => simp at hl
   | cons u vs =>
    simp only [List.map_cons, List.cons.injEq] at hk
    obtain ⟨hk1, hk2⟩ := hk
    have hs : Instr.sameNow .string (.string k) e.key = some (a.toList == k.toList) := by
     obtain ⟨r, hr, hiff⟩ := sameNow_of_keys (d := .string) (a := .string k) (b := e.key) trivial (by rw [hk1]; trivial)
     rw [hr]
     congr 1
     rw [Bool.eq_iff_iff, hiff, bytes_tl, hk1]
     simp only [Value.string.injEq]
     exact ⟨fun h => h.symm, fun h => h.symm⟩
    simp only [List.map_cons, mapGet, mapPut, Instr.findNow, hs]
    cases ht : a.toList == k.toList with
    | true =>
     refine .inr ⟨0, e, by simp, by simp, by simp, rfl, ?_, by simp⟩
     rw [hk1, bytes_tl.1 ht]
    | false =>
     rcases getPut_spec k v ks vs es (i + 1) hk2 (by simpa using hl) with ⟨h1, h2, h3⟩ | ⟨j, e', hj, h1, h2, h3, h4, h5⟩
     ·exact .inl ⟨by simpa using h1, by simpa using h2, by simp [h3]⟩
     ·refine .inr ⟨j + 1, e', by simpa using hj, by simpa using h1, ?_, by simpa using h3, h4, by simp [h5]⟩
      simp only [Bool.false_eq_true]
      rw [h2]
      simp only [Option.some.injEq, Prod.mk.injEq, and_true]
      omega

/-- What stands at a map. -/
theorem map_at (hI : Inv G m w) {id : Nat} {p q : List PV} {y : Value} (hy : Rep G w (.mp id) y) (hc : m.get id = some [.tp p, .tp q]) : ∃ (ks : List ByteArray) (vs : List PV) (es : List MapEntry) (b0 : Nat), y = .map (some (G.box id)) ∧ [PV.tp p, .tp q] = [.tp (ks.map fun k => .v (.string k)), .tp vs] ∧
    w.heap[G.box id]? = some (.map es.toArray (b0 + es.length)) ∧ es.map (·.key) = ks.map Value.string ∧ vs.length = es.length ∧ (∀ j (h1 : j < vs.length) (h2 : j < es.length), Rep G w vs[j] es[j].val) ∧ G.mp id = true ∧ es.map (·.born) = (List.range es.length).map (b0 + ·) := by
 cases hy with
 | mp _ hid hm =>
  obtain ⟨o, h1, h2, h3⟩ := hI.box id _ hc
  rw [hm] at h2
  generalize hcc : [PV.tp p, .tp q] = c at h2
  cases h2 with
  | map ks vs es b0 tl htl hb0 hk hl hr =>
   have htl : tl = [] := by
    simp only [List.cons.injEq] at hcc
    exact hcc.2.2.symm
   subst htl
   exact ⟨ks, vs, es, b0, rfl, rfl, h1, hk, hl, hr, hm, hb0⟩
  | iter => simp at hcc
theorem map_atT (hI : Inv G m w) {id : Nat} {p q tl : List PV} {y : Value} (hy : Rep G w (.mp id) y) (hc : m.get id = some (.tp p :: .tp q :: tl)) : ∃ (ks : List ByteArray) (es : List MapEntry) (b0 : Nat), y = .map (some (G.box id)) ∧ p = ks.map (fun k => .v (.string k)) ∧ (tl = [] ∨ tl = [.v (.int .i64 b0)]) ∧
    w.heap[G.box id]? = some (.map es.toArray (b0 + es.length)) ∧ es.map (·.key) = ks.map Value.string ∧ q.length = es.length ∧ (∀ j (h1 : j < q.length) (h2 : j < es.length), Rep G w q[j] es[j].val) ∧ G.mp id = true ∧ es.map (·.born) = (List.range es.length).map (b0 + ·) := by
 cases hy with
 | mp _ hid hm =>
  obtain ⟨o, h1, h2, h3⟩ := hI.box id _ hc
  rw [hm] at h2
  generalize hcc : PV.tp p :: .tp q :: tl = c at h2
  cases h2 with
  | map ks vs es b0 tl' htl hb0 hk hl hr =>
   simp only [List.cons.injEq, PV.tp.injEq] at hcc
   obtain ⟨rfl, rfl, rfl⟩ := hcc
   exact ⟨ks, es, b0, rfl, rfl, htl, h1, hk, hl, hr, hm, hb0⟩
  | iter => simp at hcc
/-- A box seen otherwise. -/
theorem Inv.view (hI : Inv G m w) {id : Nat} {c c' : List PV} (hc : m.get id = some c) {o : Obj} (hb : w.heap[G.box id]? = some o) (h : BoxAt G w (G.mp id) o c') : Inv G (m.upd id c') w :=
 (hI.storeG hc (w' := w) ⟨fun _ _ => rfl, rfl, rfl, rfl, rfl⟩ o hb h).2
theorem lookup_good {t e : TypeId} {d : TD} (ht : tmap P t = some e) (hd : tdat P e = some d) (hI : Inv G m w) {id : Nat} {ks vs : List PV} {y : Value} (hy : Rep G w (.mp id) y) (hc : m.get id = some [.tp ks, .tp vs]) (k : ByteArray) (ok : Bool) :
    Good G w ((Instr.lookup t y (.string k) ok).run P w) (lookRes ok (ofV d.zero) (mapGet ks vs k)) m := by
 obtain ⟨kt, h1, h2⟩ := tmap_spec ht
 obtain ⟨ti, td, hi, _, hz, _⟩ := info_of hd
 obtain ⟨ks', vs', es, b0, rfl, hcc, hb, hk, hl, hr, _⟩ := map_at hI hy hc
 simp only [List.cons.injEq, PV.tp.injEq, and_true] at hcc
 obtain ⟨rfl, rfl⟩ := hcc
 have hkey : IsKey .string (.string k) := trivial
 rcases getPut_spec k .junk ks' vs es 0 hk hl with ⟨g1, g2, _⟩ | ⟨j, e', hj, g1, g2, g3, g4, _⟩
 ·rw [g1]
  refine Good.same (y := if ok then .tuple #[d.zero, .bool false] else d.zero) ?_ ?_ hI
  ·simp [Instr.lookup, run_underlying h1, MapKept.run_getObj_map hb, MapKept.run_checkKey h2 hkey, MapKept.run_findKey h2 g2, run_zeroValue hi hz, Result.andThen]
  ·simp only [lookRes]
   cases ok
   ·exact ofV_rep G w _
   ·exact .tp _ [d.zero, .bool false] rfl (fun j q1 q2 => by
      match j, q1, q2 with
      | 0, _, _ => exact ofV_rep G w _
      | 1, _, _ => exact .v rfl)
 ·rw [g1]
  obtain ⟨hj2, rfl⟩ := List.getElem?_eq_some_iff.1 g3
  refine Good.same (y := if ok then .tuple #[es[j].val, .bool true] else es[j].val) ?_ ?_ hI
  ·simp [Instr.lookup, run_underlying h1, MapKept.run_getObj_map hb, MapKept.run_checkKey h2 hkey, MapKept.run_findKey h2 g2, Result.andThen]
  ·simp only [lookRes]
   cases ok
   ·exact hr j hj hj2
   ·exact .tp _ [es[j].val, .bool true] rfl (fun i q1 q2 => by
      match i, q1, q2 with
      | 0, _, _ => exact hr j hj hj2
      | 1, _, _ => exact .v rfl)
theorem setObj_rowed {r : Nat} {es : Array MapEntry} {clk : Nat} (hb : w.heap[r]? = some (.map es clk)) (o : Obj) : Rowed w { w with heap := w.heap.setIfInBounds r o } r ∧ ({ w with heap := w.heap.setIfInBounds r o } : World).heap[r]? = some o :=
 ⟨⟨fun k hk => (heap_set (w := w) (o' := o) hb).2 k hk, by simp, rfl, rfl, rfl⟩, (heap_set hb).1⟩
theorem mapUpdate_good {t e : TypeId} (ht : tmap P t = some e) (hI : Inv G m w) {id : Nat} {ks vs : List PV} {y : Value} (hy : Rep G w (.mp id) y) (hc : m.get id = some [.tp ks, .tp vs]) (k : ByteArray) {x : PV} {u : Value} (hx : Rep G w x u) :
    ∃ w', (Instr.mapUpdate t y (.string k) u).run P w = .ok () w' ∧ Inv G (m.upd id [.tp (mapPut ks vs k x).1, .tp (mapPut ks vs k x).2]) w' ∧ Ext G w G w' := by
 obtain ⟨kt, h1, h2⟩ := tmap_spec ht
 obtain ⟨ks', vs', es, b0, rfl, hcc, hb, hk, hl, hr, hm, hbo⟩ := map_at hI hy hc
 simp only [List.cons.injEq, PV.tp.injEq, and_true] at hcc
 obtain ⟨rfl, rfl⟩ := hcc
 have hkey : IsKey .string (.string k) := trivial
 rcases getPut_spec k x ks' vs es 0 hk hl with ⟨g1, g2, g3⟩ | ⟨j, e', hj, g1, g2, g3, g4, g5⟩
 ·obtain ⟨hrow, hb'⟩ := setObj_rowed hb (.map (es.toArray.push { key := .string k, val := u, born := b0 + es.length }) (b0 + es.length + 1))
  obtain ⟨hE, hI'⟩ := hI.storeG (c' := [.tp (mapPut (ks'.map fun k => .v (.string k)) vs k x).1, .tp (mapPut (ks'.map fun k => .v (.string k)) vs k x).2]) hc hrow _ hb' (by
   rw [hm, g3]
   have := BoxAt.map (G := G) (w := w) (ks' ++ [k]) (vs ++ [x]) (es ++ [{ key := .string k, val := u, born := b0 + es.length }]) b0 [] (.inl rfl) (by simp [hbo, List.range_succ]) (by simp [hk]) (by simp [hl]) (fun j q1 q2 => by
    rcases Nat.lt_or_ge j vs.length with hj | hj
    ·rw [List.getElem_append_left hj, List.getElem_append_left (hl ▸ hj)]
     exact hr j hj (hl ▸ hj)
    ·have hj' : j = vs.length := by simp at q1; omega
     subst hj'
     simpa [List.getElem_append_right, hl] using hx)
   simpa [Nat.add_assoc] using this)
  exact ⟨_, by simp [Instr.mapUpdate, run_underlying h1, MapKept.run_getObj_map hb, MapKept.run_checkKey h2 hkey, MapKept.run_findKey h2 g2, MapKept.run_setObj_map _ hb, Result.andThen], hI', hE⟩
 ·obtain ⟨hj2, rfl⟩ := List.getElem?_eq_some_iff.1 g3
  have hje : es.toArray[j]? = some es[j] := by simp [hj2]
  obtain ⟨hrow, hb'⟩ := setObj_rowed hb (.map (es.toArray.modify j fun e => { e with key := .string k, val := u }) (b0 + es.length))
  obtain ⟨hE, hI'⟩ := hI.storeG (c' := [.tp (mapPut (ks'.map fun k => .v (.string k)) vs k x).1, .tp (mapPut (ks'.map fun k => .v (.string k)) vs k x).2]) hc hrow _ hb' (by
   rw [hm, g5]
   have hmod : es.toArray.modify j (fun e => { e with key := .string k, val := u }) = (es.set j { es[j] with key := .string k, val := u }).toArray := by
    apply Array.ext'
    simp only [Array.toList_modify]
    apply List.ext_getElem?
    intro i
    simp only [List.getElem?_modify, List.getElem?_set]
    by_cases hij : j = i
    ·subst hij; simp [hj2]
    ·simp [hij]
   rw [hmod]
   have := BoxAt.map (G := G) (w := w) ks' (vs.set j x) (es.set j { es[j] with key := .string k, val := u }) b0 [] (.inl rfl) (by
    rw [List.length_set, ← hbo]
    apply List.ext_getElem?
    intro i
    simp only [List.getElem?_map, List.getElem?_set]
    by_cases hij : j = i
    ·subst hij; simp [hj2]
    ·simp [hij]) (by
    rw [← hk]
    apply List.ext_getElem?
    intro i
    simp only [List.getElem?_map, List.getElem?_set]
    by_cases hij : j = i
    ·subst hij; simp [hj2, g4]
    ·simp [hij]) (by simp [hl]) (fun i q1 q2 => by
    simp only [List.getElem_set]
    split
    ·exact hx
    ·exact hr i (by simpa using q1) (by simpa using q2))
   simpa using this)
  exact ⟨_, by simp [Instr.mapUpdate, run_underlying h1, MapKept.run_getObj_map hb, MapKept.run_checkKey h2 hkey, MapKept.run_findKey h2 g2, g3, g4, List.getElem?_eq_getElem hj2, MapKept.run_keyThatStays hkey, MapKept.run_setObj_map _ hb, Result.andThen], hI', hE⟩
theorem clear_good {t e ty : TypeId} (ht : tmap P t = some e) (hI : Inv G m w) {id : Nat} {ks vs : List PV} {y : Value} (hy : Rep G w (.mp id) y) (hc : m.get id = some [.tp ks, .tp vs]) :
    Good G w ((Builtin.clear_ #[t] ty #[y]).run P w) (.tp []) (m.upd id [.tp [], .tp []]) := by
 obtain ⟨kt, h1, h2⟩ := tmap_spec ht
 obtain ⟨ks', vs', es, b0, rfl, hcc, hb, hk, hl, hr, hm, hbo⟩ := map_at hI hy hc
 obtain ⟨hrow, hb'⟩ := setObj_rowed hb (.map #[] (b0 + es.length))
 obtain ⟨hE, hI'⟩ := hI.storeG (c' := [.tp [], .tp []]) hc hrow _ hb' (by
  rw [hm]
  exact BoxAt.map (G := G) (w := w) [] [] [] (b0 + es.length) [] (.inl rfl) rfl rfl rfl (fun j q1 => by simp at q1))
 exact ⟨.tuple #[], _, G, by simp [Builtin.clear_, run_underlying h1, MapKept.run_getObj_map hb, MapKept.run_setObj_map _ hb, Result.andThen], .tp [] [] rfl (fun j q1 => by simp at q1), hI', hE⟩
/-- A new map. -/
theorem new_map (hI : Inv G m w) : ∃ G', Rep G' (w.alloc (.map #[] 0)) (.mp m.nb) (.map (some w.heap.size)) ∧ Inv G' (m.push [.tp [], .tp []]) (w.alloc (.map #[] 0)) ∧ Ext G w G' (w.alloc (.map #[] 0)) := by
 have hpush : Pushed w (w.alloc (.map #[] 0)) (.map #[] 0) := Pushed.alloc w _
 obtain ⟨hE, hI'⟩ := hI.push hpush (fun _ => False)
 have hnb : m.nb = G.nb := hI.nb
 have hI2 := hI'.addBoxG w.heap.size [.tp [], .tp []] true _ hpush.new (BoxAt.map (G := _) (w := _) [] [] [] 0 [] (.inl rfl) rfl rfl rfl (fun j q1 => by simp at q1)) hI.base (fun o hs => by
  rcases hs with hs | ⟨_, hs⟩
  ·have := hI.set _ _ hs; omega
  ·exact hs) (fun id c' hc => Nat.ne_of_lt (hI.blt hc)) (fun t s ht o hb => by
  obtain ⟨_, _, a3, _⟩ := (hI.tok t s ht).2 _ _ hb
  obtain ⟨u, hu⟩ := Option.isSome_iff_exists.1 a3
  have : w.heap.size < w.heap.size := World.block_lt_of_cell? w _ hu
  omega)
 refine ⟨_, ?_, hI2, hE.trans (Ext.addBox _ _ _ _)⟩
 have := Rep.mp (G := (G.more w.heap.size fun _ => False).addBox w.heap.size true) (w := w.alloc (.map #[] 0)) m.nb (by show m.nb < G.nb + 1; omega) (if_pos hnb)
 have hbx : ((G.more w.heap.size fun _ => False).addBox w.heap.size true).box m.nb = w.heap.size := if_pos hnb
 rwa [hbx] at this
/-- A walk through a map that holds nothing. -/
theorem range_good {t e : TypeId} (ht : tmap P t = some e) (hI : Inv G m w) {id : Nat} {y : Value} (hy : Rep G w (.mp id) y) (hc : m.get id = some [.tp [], .tp []]) :
    Good G w ((Instr.range t y).run P w) (.it m.nb) (m.push [.mp id, .tp []]) := by
 obtain ⟨kt, h1, h2⟩ := tmap_spec ht
 obtain ⟨ks', vs', es, b0, rfl, hcc, hb, hk, hl, hr, hm, hbo⟩ := map_at hI hy hc
 have hpush := Pushed.alloc w (.mapIter (some (G.box id)) (b0 + es.length) #[] (b0 + es.length))
 obtain ⟨hE, hI'⟩ := hI.push hpush (fun _ => False)
 have hnb : m.nb = G.nb := hI.nb
 have hI2 := hI'.addBoxG w.heap.size [.mp id, .tp []] true _ hpush.new (BoxAt.iter (G := _) (w := _) id (G.box id) (b0 + es.length) (b0 + es.length) [] [] (.inl ⟨rfl, rfl⟩) rfl (hy.mono hE)) hI.base (fun o hs => by
  rcases hs with hs | ⟨_, hs⟩
  ·have := hI.set _ _ hs; omega
  ·exact hs) (fun id c' hc => Nat.ne_of_lt (hI.blt hc)) (fun t s ht o hb => by
  obtain ⟨_, _, a3, _⟩ := (hI.tok t s ht).2 _ _ hb
  obtain ⟨u, hu⟩ := Option.isSome_iff_exists.1 a3
  have : w.heap.size < w.heap.size := World.block_lt_of_cell? w _ hu
  omega)
 refine ⟨.pointer (some ⟨w.heap.size, 0, none⟩), _, _, ?_, ?_, hI2, hE.trans (Ext.addBox _ _ _ _)⟩
 ·simp [Instr.range, run_underlying h1, MapKept.run_getObj_map hb, Result.andThen, newObj, Sem.run]
 ·have := Rep.it (G := (G.more w.heap.size fun _ => False).addBox w.heap.size true) (w := w.alloc (.mapIter (some (G.box id)) (b0 + es.length) #[] (b0 + es.length))) m.nb (by show m.nb < G.nb + 1; omega) (if_pos hnb)
  have hbx : ((G.more w.heap.size fun _ => False).addBox w.heap.size true).box m.nb = w.heap.size := if_pos hnb
  rwa [hbx] at this
/-- A walk through a map that holds something: it is seen when its first entry was born. -/
theorem rangeN_good {t e : TypeId} (ht : tmap P t = some e) (hI : Inv G m w) {id : Nat} {ks vs : List PV} {y : Value} (hy : Rep G w (.mp id) y) (hc : m.get id = some [.tp ks, .tp vs]) :
    ∃ b0 : Nat, Good G w ((Instr.range t y).run P w) (.it m.nb) ((m.upd id [.tp ks, .tp vs, .v (.int .i64 b0)]).push [.mp id, .tp [], .v (.int .i64 ((b0 : Int) + (vs.length : Int)))]) := by
 obtain ⟨kt, h1, h2⟩ := tmap_spec ht
 obtain ⟨ks', es, b0, rfl, rfl, _, hb, hk, hl, hr, hm, hbo⟩ := map_atT hI hy hc
 have hI0 : Inv G (m.upd id [.tp (ks'.map fun k => .v (.string k)), .tp vs, .v (.int .i64 b0)]) w := hI.view hc hb (by
  rw [hm]
  exact BoxAt.map ks' vs es b0 [.v (.int .i64 b0)] (.inr rfl) hbo hk hl hr)
 generalize hm0 : m.upd id [.tp (ks'.map fun k => .v (.string k)), .tp vs, .v (.int .i64 b0)] = m0 at hI0
 have hnb0 : m0.nb = m.nb := by rw [← hm0]; simp [M.upd, M.nb]
 have hpush := Pushed.alloc w (.mapIter (some (G.box id)) (b0 + es.length) #[] (b0 + es.length))
 obtain ⟨hE, hI'⟩ := hI0.push hpush (fun _ => False)
 have hnb : m0.nb = G.nb := hI0.nb
 have hI2 := hI'.addBoxG w.heap.size [.mp id, .tp [], .v (.int .i64 ((b0 + es.length : Nat) : Int))] true _ hpush.new (BoxAt.iter (G := _) (w := _) id (G.box id) (b0 + es.length) (b0 + es.length) [] [.v (.int .i64 ((b0 + es.length : Nat) : Int))] (.inr rfl) rfl (hy.mono hE)) hI0.base (fun o hs => by
  rcases hs with hs | ⟨_, hs⟩
  ·have := hI0.set _ _ hs; omega
  ·exact hs) (fun id c' hc => Nat.ne_of_lt (hI0.blt hc)) (fun t s ht o hb => by
  obtain ⟨_, _, a3, _⟩ := (hI0.tok t s ht).2 _ _ hb
  obtain ⟨u, hu⟩ := Option.isSome_iff_exists.1 a3
  have : w.heap.size < w.heap.size := World.block_lt_of_cell? w _ hu
  omega)
 refine ⟨b0, .pointer (some ⟨w.heap.size, 0, none⟩), _, (G.more w.heap.size fun _ => False).addBox w.heap.size true, ?_, ?_, ?_, hE.trans (Ext.addBox _ _ _ _)⟩
 ·simp [Instr.range, run_underlying h1, MapKept.run_getObj_map hb, Result.andThen, newObj, Sem.run]
 ·have := Rep.it (G := (G.more w.heap.size fun _ => False).addBox w.heap.size true) (w := w.alloc (.mapIter (some (G.box id)) (b0 + es.length) #[] (b0 + es.length))) m.nb (by show m.nb < G.nb + 1; omega) (if_pos (by show m.nb = G.nb; omega))
  have hbx : ((G.more w.heap.size fun _ => False).addBox w.heap.size true).box m.nb = w.heap.size := if_pos (by show m.nb = G.nb; omega)
  rwa [hbx] at this
 ·have he : ((b0 : Int) + (vs.length : Int)) = ((b0 + es.length : Nat) : Int) := by rw [hl]; omega
  rw [he, hm0]
  exact hI2
theorem run_getObj_iter {r : Nat} {a : Option Nat} {b : Nat} {c : Array Nat} {d : Nat} (hb : w.heap[r]? = some (.mapIter a b c d)) : (getObj r).run P w = .ok (.mapIter a b c d) w := by
 simp [getObj, Sem.run, hb]
theorem run_setObj_iter {r : Nat} {a : Option Nat} {b : Nat} {c : Array Nat} {d : Nat} (o : Obj) (hb : w.heap[r]? = some (.mapIter a b c d)) : (setObj r o).run P w = .ok () { w with heap := w.heap.setIfInBounds r o } := by
 simp [setObj, Sem.run, hb]
theorem run_choose_map (n : Nat) (hn : 0 < n) : ∃ i d, i < n ∧ (choose (.mapNext n)).run P w = .ok i { w with drawn := w.drawn + d } := by
 by_cases h : n ≤ 1
 ·exact ⟨0, 0, hn, by simp [choose, Sem.run, Question.forced, h]⟩
 ·exact ⟨w.tape w.drawn (.mapNext n) % n, 1, Nat.mod_lt _ hn, by simp [choose, Sem.run, Question.forced, Question.cut, h]⟩
theorem iter_at (hI : Inv G m w) {id mid : Nat} {seen : List PV} {since : Int} {y : Value} (hy : Rep G w (.it id) y) (hc : m.get id = some [.mp mid, .tp seen, .v (.int .i64 since)]) :
    ∃ (bm st : Nat) (sn : List Nat), y = .pointer (some ⟨G.box id, 0, none⟩) ∧ seen = sn.map (fun (n : Nat) => .v (.int .i64 n)) ∧ since = (st : Int) ∧ w.heap[G.box id]? = some (.mapIter (some bm) st sn.toArray st) ∧ Rep G w (.mp mid) (.map (some bm)) ∧ G.mp id = true := by
 cases hy with
 | it _ hid hm =>
  obtain ⟨o, h1, h2, h3⟩ := hI.box id _ hc
  rw [hm] at h2
  generalize hcc : [PV.mp mid, .tp seen, .v (.int .i64 since)] = c at h2
  cases h2 with
  | map => simp at hcc
  | iter mid' bm since' st sn tl htl hs hmm =>
   simp only [List.cons.injEq, PV.mp.injEq, PV.tp.injEq] at hcc
   obtain ⟨rfl, rfl, htl'⟩ := hcc
   subst hs
   rcases htl with ⟨_, rfl⟩ | rfl
   ·cases htl'
   ·simp at htl'
    exact ⟨bm, since', sn, rfl, rfl, htl', h1, hmm, hm⟩
theorem nextN_good (hI : Inv G m w) {id mid : Nat} {ty : TypeId} {y : Value} {ks vs seen : List PV} {b0 since : Int} (hy : Rep G w (.it id) y) (hc : m.get id = some [.mp mid, .tp seen, .v (.int .i64 since)]) (hc2 : m.get mid = some [.tp ks, .tp vs, .v (.int .i64 b0)])
    (hs : since = b0 + (vs.length : Int)) (hne : 0 < vs.length) :
    ∃ v m', nextS m id mid ks vs seen b0 since v m' ∧ Good G w ((Instr.next y false ty).run P w) v m' := by
 obtain ⟨bm, st, sn, rfl, rfl, rfl, hb, hmm, hmp⟩ := iter_at hI hy hc
 obtain ⟨ks', es, b1, hyy, rfl, htl, hb2, hk, hl, hr, hm, hbo⟩ := map_atT hI hmm hc2
 cases hyy
 have hb1 : b0 = (b1 : Int) := by rcases htl with h | h <;> simp at h; exact h
 subst hb1
 have hst : st = b1 + es.length := by omega
 have hborn : ∀ j (hj : j < es.length), es[j].born = b1 + j := fun j hj => by
  have := congrArg (·[j]?) hbo
  simpa [hj] using this
 have hmem : ∀ e ∈ es, ∃ j, ∃ hj : j < es.length, e = es[j] := fun e he => by
  obtain ⟨j, hj, rfl⟩ := List.getElem_of_mem he
  exact ⟨j, hj, rfl⟩
 have hall : es.toArray.all (fun e => decide (e.born ≥ st)) = false := by
  rw [List.all_toArray, List.all_eq_false]
  refine ⟨es[0]'(by omega), List.getElem_mem _, ?_⟩
  rw [hborn 0 (by omega)]
  simp; omega
 have hnew : (es.filter fun e => !sn.contains e.born).filter (fun e => decide (e.born ≥ st)) = [] := by
  rw [List.filter_eq_nil_iff]
  intro e he
  obtain ⟨j, hj, rfl⟩ := hmem e (List.mem_filter.1 he).1
  rw [hborn j hj]
  simp; omega
 have hold : (es.filter fun e => !sn.contains e.born).filter (fun e => decide (e.born < st)) = es.filter fun e => !sn.contains e.born := by
  rw [List.filter_eq_self]
  intro e he
  obtain ⟨j, hj, rfl⟩ := hmem e (List.mem_filter.1 he).1
  rw [hborn j hj]
  simp; omega
 obtain ⟨L, hL⟩ : ∃ L : List MapEntry, (es.filter fun e => !sn.contains e.born) = L := ⟨_, rfl⟩
 have hLm : ∀ e ∈ L, e ∈ es ∧ (!sn.contains e.born) = true := fun e he => by rw [← hL] at he; exact List.mem_filter.1 he
 rw [hL] at hnew hold
 have hrun : (Instr.next (.pointer (some ⟨G.box id, 0, none⟩)) false ty).run P w = (do
     let candidates := (if L.isEmpty then #[none] else #[]) ++ (L.map some).toArray
     match candidates[← choose (.mapNext candidates.size)]? with
     | some (some e) =>
      setObj (G.box id) (.mapIter (some (G.box mid)) st (sn.toArray.push e.born) (b1 + es.length))
      pure (.tuple #[.bool true, e.key, e.val])
     | some none => pure (.tuple #[.bool false])
     | none => stuck "Next: no such candidate" : Sem Value).run P w := by
  have hf1 : es.toArray.filter (fun e => !sn.toArray.contains e.born) = L.toArray := by rw [← hL]; simp
  simp only [Instr.next, Sem.run_bind, run_getObj_iter hb, Result.andThen_ok, MapKept.run_getObj_map hb2, hall, Bool.and_false, Bool.false_eq_true, if_false, hf1, List.filter_toArray, hnew, hold, Sem.run_pure]
  simp only [List.append_nil, List.map_toArray, List.isEmpty_toArray, Array.append_empty, List.toArray_appendList, Array.toList_append, List.append_toArray]
  rfl
 rw [hrun]
 by_cases hleft : L = []
 ·refine ⟨_, _, .inr ⟨fun k hk => ?_, rfl, rfl⟩, ?_⟩
  ·have hk' : k < es.length := hl ▸ hk
   rw [hleft] at hL
   have := List.filter_eq_nil_iff.1 hL es[k] (List.getElem_mem hk')
   rw [hborn k hk'] at this
   simp at this
   rw [List.mem_map]
   exact ⟨b1 + k, this, by simp⟩
  ·refine ⟨.tuple #[.bool false], w, G, ?_, .tp _ [.bool false] rfl (fun j q1 q2 => by
     match j, q1, q2 with
     | 0, _, _ => exact .v rfl), hI.view hc2 hb2 (by
      rw [hm]
      exact BoxAt.map ks' vs es b1 [] (.inl rfl) hbo hk hl hr), Ext.refl _ _⟩
   subst hleft
   rfl
 ·obtain ⟨i, dr, hi, hch⟩ := run_choose_map (P := P) (w := w) L.length (List.length_pos_iff.2 hleft)
  obtain ⟨k, hk', hek⟩ := hmem _ (hLm _ (List.getElem_mem hi)).1
  have hns : ¬ (b1 + k) ∈ sn := by
   have := (hLm _ (List.getElem_mem hi)).2
   rw [hek, hborn k hk'] at this
   simpa using this
  have hkv : k < vs.length := hl ▸ hk'
  have hb' : ({ w with drawn := w.drawn + dr } : World).heap[G.box id]? = some (.mapIter (some (G.box mid)) st sn.toArray st) := hb
  have hrow : Rowed w { w with drawn := w.drawn + dr, heap := w.heap.setIfInBounds (G.box id) (.mapIter (some (G.box mid)) st (sn.toArray.push (b1 + k)) st) } (G.box id) := ⟨fun j hj => by
   show (w.heap.setIfInBounds _ _)[j]? = _
   rw [Array.getElem?_setIfInBounds_ne (Ne.symm hj)], by simp, rfl, rfl, rfl⟩
  have hlt : G.box id < w.heap.size := (Array.getElem?_eq_some_iff.1 hb).1
  obtain ⟨hE, hI'⟩ := hI.storeG (c' := [.mp mid, .tp ((sn.map fun (n : Nat) => PV.v (.int .i64 n)) ++ [.v (.int .i64 ((b1 : Int) + (k : Int)))]), .v (.int .i64 (st : Int))]) hc hrow (.mapIter (some (G.box mid)) st (sn.toArray.push (b1 + k)) st) (by
   show (w.heap.setIfInBounds _ _)[G.box id]? = _
   simp [hlt]) (by
   rw [hmp]
   have := BoxAt.iter (G := G) (w := w) mid (G.box mid) st st (sn ++ [b1 + k]) [.v (.int .i64 (st : Int))] (.inr rfl) rfl hmm
   simpa using this)
  refine ⟨_, _, .inl ⟨k, hkv, ?_, rfl, rfl⟩, ⟨.tuple #[.bool true, es[k].key, es[k].val], _, G, ?_, ?_, hI', hE⟩⟩
  ·intro hmm'
   rw [List.mem_map] at hmm'
   obtain ⟨n, hn, hne'⟩ := hmm'
   have : n = b1 + k := by simp at hne'; omega
   exact hns (this ▸ hn)
  ·have hsz : ((if L.isEmpty then #[none] else #[]) ++ (L.map some).toArray).size = L.length := by
     rw [if_neg (by simpa using hleft)]; simp
   have hget : ((if L.isEmpty then #[none] else #[]) ++ (L.map some).toArray)[i]? = some (some es[k]) := by
    rw [if_neg (by simpa using hleft)]
    simp [hi, hek]
   simp only [hsz, Sem.run_bind, hch, Result.andThen_ok, hget, run_setObj_iter _ hb', Sem.run_pure, hborn k hk', hst]
  ·refine .tp _ [.bool true, es[k].key, es[k].val] rfl (fun j q1 q2 => ?_)
   match j, q1, q2 with
   | 0, _, _ => exact .v rfl
   | 1, _, _ =>
    have hkl : ks'.length = es.length := by have := congrArg List.length hk; simpa using this.symm
    have h2 := congrArg (·[k]?) hk
    simp [hk', hkl ▸ hk'] at h2
    show Rep G _ ((ks'.map fun k => PV.v (.string k)).getD k .junk) es[k].key
    rw [List.getD_eq_getElem?_getD, List.getElem?_map, List.getElem?_eq_getElem (hkl ▸ hk'), h2]
    exact .v rfl
   | 2, _, _ =>
    show Rep G _ (vs.getD k .junk) es[k].val
    rw [List.getD_eq_getElem?_getD, List.getElem?_eq_getElem hkv]
    exact (hr k hkv hk').mono hE
theorem entry_good (hI : Inv G m w) {id mid : Nat} {y : Value} {ks vs seen : List PV} {b0 since s : Int} (hy : Rep G w (.it id) y) (hc : m.get id = some [.mp mid, .tp seen, .v (.int .i64 since)]) (hc2 : m.get mid = some [.tp ks, .tp vs, .v (.int .i64 b0)])
    (hs : since = b0 + (vs.length : Int)) (hlast : seen.getLast? = some (.v (.int .i64 s))) (h1 : b0 ≤ s) (h2 : s < b0 + (vs.length : Int)) :
    Goodw G w ((Instr.entry y).run P w) (.tp [ks.getD (s - b0).toNat .junk, vs.getD (s - b0).toNat .junk]) := by
 obtain ⟨bm, st, sn, rfl, rfl, rfl, hb, hmm, hmp⟩ := iter_at hI hy hc
 obtain ⟨ks', es, b1, hyy, rfl, htl, hb2, hk, hl, hr, hm, hbo⟩ := map_atT hI hmm hc2
 cases hyy
 have hb1 : b0 = (b1 : Int) := by rcases htl with h | h <;> simp at h; exact h
 subst hb1
 have hst : st = b1 + es.length := by omega
 have hborn : ∀ j (hj : j < es.length), es[j].born = b1 + j := fun j hj => by
  have := congrArg (·[j]?) hbo
  simpa [hj] using this
 obtain ⟨n, hn, hns⟩ : ∃ n : Nat, sn.getLast? = some n ∧ s = (n : Int) := by
  rw [List.getLast?_map] at hlast
  cases hq : sn.getLast? with
  | none => rw [hq] at hlast; cases hlast
  | some n => rw [hq] at hlast; simp at hlast; exact ⟨n, rfl, hlast.symm⟩
 subst hns
 obtain ⟨k, hk', rfl⟩ : ∃ k, k < es.length ∧ n = b1 + k := ⟨n - b1, by omega, by omega⟩
 have hkk : (((b1 + k : Nat) : Int) - (b1 : Int)).toNat = k := by omega
 rw [hkk]
 have hfind : es.find? (fun e => e.born == b1 + k) = some es[k] := by
  cases hf : es.find? (fun e => e.born == b1 + k) with
  | none =>
   have := List.find?_eq_none.1 hf es[k] (List.getElem_mem hk')
   rw [hborn k hk'] at this
   simp at this
  | some e =>
   obtain ⟨j, hj, rfl⟩ := List.getElem_of_mem (List.mem_of_find?_eq_some hf)
   have := List.find?_some hf
   rw [hborn j hj] at this
   have : j = k := by simpa using this
   subst this
   rfl
 have hback : sn.toArray.back? = some (b1 + k) := by rw [List.back?_toArray]; exact hn
 refine ⟨.tuple #[es[k].key, es[k].val], ?_, .tp _ [es[k].key, es[k].val] rfl (fun j q1 q2 => ?_)⟩
 ·simp only [Instr.entry, Sem.run_bind, run_getObj_iter hb, Result.andThen_ok, hback, MapKept.run_getObj_map hb2, hst, bne_self_eq_false, Bool.false_eq_true, if_false, List.find?_toArray, hfind, Sem.run_pure]
 ·have hkv : k < vs.length := hl ▸ hk'
  match j, q1, q2 with
  | 0, _, _ =>
   have hkl : ks'.length = es.length := by have := congrArg List.length hk; simpa using this.symm
   have h2 := congrArg (·[k]?) hk
   simp [hk', hkl ▸ hk'] at h2
   show Rep G _ ((ks'.map fun k => PV.v (.string k)).getD k .junk) es[k].key
   rw [List.getD_eq_getElem?_getD, List.getElem?_map, List.getElem?_eq_getElem (hkl ▸ hk'), h2]
   exact .v rfl
  | 1, _, _ =>
   show Rep G _ (vs.getD k .junk) es[k].val
   rw [List.getD_eq_getElem?_getD, List.getElem?_eq_getElem hkv]
   exact hr k hkv hk'
/-- An entry that is there is asked for ahead of its store: when its map's first entry was born is seen. -/
theorem mapEntry_good {t e : TypeId} (ht : tmap P t = some e) (hI : Inv G m w) {id : Nat} {ks vs : List PV} {y : Value} (hy : Rep G w (.mp id) y) (hc : m.get id = some [.tp ks, .tp vs]) (k : ByteArray) (hin : (mapGet ks vs k).isSome = true) :
    ∃ (j b0 : Nat), j < vs.length ∧ mapGet ks vs k = some (vs.getD j .junk) ∧ (∀ x, mapPut ks vs k x = (ks, vs.set j x)) ∧ Good G w ((Instr.mapEntry t y (.string k)).run P w) (.tp [vs.getD j .junk, .v (.int .i64 ((b0 : Int) + (j : Int)))]) (m.upd id [.tp ks, .tp vs, .v (.int .i64 b0)]) := by
 obtain ⟨kt, h1, h2⟩ := tmap_spec ht
 obtain ⟨ks', es, b0, rfl, rfl, _, hb, hk, hl, hr, hm, hbo⟩ := map_atT hI hy hc
 have hkey : IsKey .string (.string k) := trivial
 have hborn : ∀ j (hj : j < es.length), es[j].born = b0 + j := fun j hj => by
  have := congrArg (·[j]?) hbo
  simpa [hj] using this
 rcases getPut_spec k .junk ks' vs es 0 hk hl with ⟨g1, g2, g3⟩ | ⟨j, e', hj, g1, g2, g3, g4, g5⟩
 ·rw [g1] at hin; cases hin
 ·have hput : ∀ x, mapPut (ks'.map fun k => .v (.string k)) vs k x = (ks'.map (fun k => .v (.string k)), vs.set j x) := fun x => by
    rcases getPut_spec k x ks' vs es 0 hk hl with ⟨q1, _⟩ | ⟨j', e2, hj', q1, q2, q3, q4, q5⟩
    ·rw [q1] at g1; cases g1
    ·have : j' = j := by
       rw [g2] at q2
       simp at q2
       omega
     subst this
     exact q5
  have hgd : vs.getD j .junk = vs[j] := by rw [List.getD_eq_getElem?_getD, List.getElem?_eq_getElem hj]; rfl
  obtain ⟨hj2, rfl⟩ := List.getElem?_eq_some_iff.1 g3
  have hmod : es.modify j (fun e => { key := Value.string k, val := e.val, born := e.born }) = es := by
   apply List.ext_getElem?
   intro i
   simp only [List.getElem?_modify]
   by_cases hij : j = i
   ·subst hij
    simp [hj2]
    rw [← g4]
   ·simp [hij]
  obtain ⟨hrow, hb'⟩ := setObj_rowed hb (.map es.toArray (b0 + es.length))
  obtain ⟨hE, hI'⟩ := hI.storeG (c' := [.tp (ks'.map fun k => .v (.string k)), .tp vs, .v (.int .i64 b0)]) hc hrow _ hb' (by
   rw [hm]
   exact BoxAt.map ks' vs es b0 [.v (.int .i64 b0)] (.inr rfl) hbo hk hl hr)
  refine ⟨j, b0, hj, by rw [hgd]; exact g1, hput, .tuple #[es[j].val, .int .i64 ((b0 + j : Nat) : Int)], _, G, ?_, ?_, hI', hE⟩
  ·simp [Instr.mapEntry, run_underlying h1, MapKept.run_getObj_map hb, MapKept.run_checkKey h2 hkey, MapKept.run_findKey h2 g2, g3, g4, List.getElem?_eq_getElem hj2, MapKept.run_keyThatStays hkey, MapKept.run_setObj_map _ hb, Result.andThen, hmod, hborn j hj2, goInt]
  ·refine .tp _ [es[j].val, .int .i64 ((b0 + j : Nat) : Int)] rfl (fun i q1 q2 => ?_)
   match i, q1, q2 with
   | 0, _, _ =>
    show Rep G _ (vs.getD j .junk) es[j].val
    rw [hgd]
    exact (hr j hj hj2).mono hE
   | 1, _, _ =>
    have : ((b0 : Int) + (j : Int)) = ((b0 + j : Nat) : Int) := by omega
    show Rep G _ (.v (.int .i64 ((b0 : Int) + (j : Int)))) (.int .i64 ((b0 + j : Nat) : Int))
    rw [this]
    exact .v rfl
theorem entryStore_good {t : TypeId} (hI : Inv G m w) {id : Nat} {ks vs : List PV} {b0 s : Int} {y : Value} (hy : Rep G w (.mp id) y) (hc : m.get id = some [.tp ks, .tp vs, .v (.int .i64 b0)]) (h1 : b0 ≤ s) (h2 : s < b0 + (vs.length : Int)) {x : PV} {u : Value} (hx : Rep G w x u) :
    ∃ w', (Instr.entryStore t y (.int .i64 s) u).run P w = .ok () w' ∧ Inv G (m.upd id [.tp ks, .tp (vs.set (s - b0).toNat x)]) w' ∧ Ext G w G w' := by
 obtain ⟨ks', es, b1, rfl, rfl, htl, hb, hk, hl, hr, hm, hbo⟩ := map_atT hI hy hc
 have hb1 : b0 = (b1 : Int) := by rcases htl with h | h <;> simp at h; exact h
 subst hb1
 have hborn : ∀ j (hj : j < es.length), es[j].born = b1 + j := fun j hj => by
  have := congrArg (·[j]?) hbo
  simpa [hj] using this
 obtain ⟨j, hj, rfl⟩ : ∃ j : Nat, j < es.length ∧ s = ((b1 + j : Nat) : Int) := ⟨(s - b1).toNat, by omega, by omega⟩
 have hjj : (((b1 + j : Nat) : Int) - (b1 : Int)).toNat = j := by omega
 rw [hjj]
 have hfind : es.findIdx? (fun e => ((e.born : Int) == ((b1 + j : Nat) : Int))) = some j := by
  rw [List.findIdx?_eq_some_iff_getElem]
  refine ⟨hj, by rw [hborn j hj]; simp, fun i hi => ?_⟩
  rw [hborn i (by omega)]
  simp
  omega
 obtain ⟨hrow, hb'⟩ := setObj_rowed hb (.map (es.modify j fun e => { key := e.key, val := u, born := e.born }).toArray (b1 + es.length))
 have hmod : es.modify j (fun e => { key := e.key, val := u, born := e.born }) = es.set j { es[j] with val := u } := by
  apply List.ext_getElem?
  intro i
  simp only [List.getElem?_modify, List.getElem?_set]
  by_cases hij : j = i
  ·subst hij; simp [hj]
  ·simp [hij]
 obtain ⟨hE, hI'⟩ := hI.storeG (c' := [.tp (ks'.map fun k => .v (.string k)), .tp (vs.set j x)]) hc hrow _ hb' (by
  rw [hm, hmod]
  have := BoxAt.map (G := G) (w := w) ks' (vs.set j x) (es.set j { es[j] with val := u }) b1 [] (.inl rfl) (by
   rw [List.length_set, ← hbo]
   apply List.ext_getElem?
   intro i
   simp only [List.getElem?_map, List.getElem?_set]
   by_cases hij : j = i
   ·subst hij; simp [hj]
   ·simp [hij]) (by
   rw [← hk]
   apply List.ext_getElem?
   intro i
   simp only [List.getElem?_map, List.getElem?_set]
   by_cases hij : j = i
   ·subst hij; simp [hj]
   ·simp [hij]) (by simp [hl]) (fun i q1 q2 => by
   simp only [List.getElem_set]
   split
   ·exact hx
   ·exact hr i (by simpa using q1) (by simpa using q2))
  simpa using this)
 refine ⟨_, ?_, hI', hE⟩
 simp [Instr.entryStore, MapKept.run_getObj_map hb, asInt, asIntOf, Result.andThen, MapKept.run_setObj_map _ hb]
 rw [show es.findIdx? (fun e => ((e.born : Int) == (b1 : Int) + (j : Int))) = some j from by rw [← hfind]; congr]
 simp [MapKept.run_setObj_map _ hb]
theorem next_good (hI : Inv G m w) {id mid : Nat} {ty : TypeId} {y : Value} (hy : Rep G w (.it id) y) (hc : m.get id = some [.mp mid, .tp []]) (hc2 : m.get mid = some [.tp [], .tp []]) :
    Good G w ((Instr.next y false ty).run P w) (.tp [.v (.bool false)]) m := by
 cases hy with
 | it _ hid hm =>
  obtain ⟨o, h1, h2, h3⟩ := hI.box id _ hc
  rw [hm] at h2
  generalize hcc : [PV.mp mid, .tp []] = c at h2
  cases h2 with
  | map => simp at hcc
  | iter mid' bm since st seen tl htl hs hmm =>
   simp only [List.cons.injEq, PV.mp.injEq, PV.tp.injEq] at hcc
   obtain ⟨rfl, hsn, _⟩ := hcc
   obtain rfl : seen = [] := by simpa using hsn.symm
   obtain ⟨ks', vs', es, b0, hyy, hcc, hb, hk, hl, hr, hm, hbo⟩ := map_at hI hmm hc2
   cases hyy
   simp only [List.cons.injEq, PV.tp.injEq, and_true] at hcc
   obtain ⟨_, rfl⟩ := hcc
   obtain rfl : es = [] := List.eq_nil_of_length_eq_zero hl.symm
   refine Good.same (y := .tuple #[.bool false]) ?_ (.tp _ [.bool false] rfl (fun j q1 q2 => by
    match j, q1, q2 with
    | 0, _, _ => exact .v rfl)) hI
   simp [Instr.next, getObj, Sem.run, h1, hb, Result.andThen, choose, Question.forced]
end
end Go.Proofs.YtohgdopfjkjppaaGreatDoor
