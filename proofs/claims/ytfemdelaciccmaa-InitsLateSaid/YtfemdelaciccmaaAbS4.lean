/-
  An operation on values without addresses does what the model's does: a store into a box, append.
-/
import Derived.Test.YtfemdelaciccmaaAbS3
set_option linter.unusedVariables false
set_option linter.unusedSimpArgs false
namespace Go.Proofs.Ytfemdelaciccmaa
open Go Go.RowKit

section
variable {P : Program} {G : Ghost} {w : World} {m : M}

theorem store_good {t : TypeId} {d : TD} (hd : tdat P t = some d) (hI : Inv G m w) {id o : Nat} {c : List PV} (hc : m.get id = some c) {ad : Value} (ha : Rep G w (.bp id o) ad) {x : PV} {y : Value} (hx : Rep G w x y)
    (h1 : x.cells.length = d.sz) (h2 : o + d.sz ≤ c.length) (h3 : x.cells.all PV.one = true) :
    ∃ w', (Instr.storeAt t ad y).run P w = .ok () w' ∧ Inv G (m.upd id (splice c o x.cells)) w' ∧ Ext G w G w' := by
  cases ha with
  | bp _ _ hid hm =>
  obtain ⟨i, td, hi, htd, hz, hs, hb, _⟩ := info_of hd
  obtain ⟨cs, e, k1, k2, k3, k4, k5⟩ := hI.boxC hc hm
  have hrl := hx.rl h3
  have hsz : y.cells.size = i.size := by have := hrl.len; simp at this; omega
  have hst := run_storeCells_at P (G.box id) o e y.cells.toList 0 cs.toArray w k1 (by have := hrl.len; simp at this ⊢; omega) hrl.one
  have hrow := Rowed.setRow w (G.box id) (cs.toArray.toList.take (o + 0) ++ y.cells.toList ++ cs.toArray.toList.drop (o + 0 + y.cells.toList.length)).toArray
  refine ⟨w.setRow (G.box id) (cs.toArray.toList.take (o + 0) ++ y.cells.toList ++ cs.toArray.toList.drop (o + 0 + y.cells.toList.length)).toArray, ?_, ?_⟩
  · simp only [Instr.storeAt, Instr.sureAddr, storeVar, Sem.run_bind, Sem.run_pure, Result.andThen_ok, run_sizeOf hi, hsz, ne_eq, not_true_eq_false, if_false]
    exact hst
  · have hlc : RL G w c cs := ⟨k2, k3, k4⟩
    have hsp := hlc.spl hrl o
    have := hI.store (c' := splice c o x.cells) hc hm hrow (spliceV cs o y.cells.toList) e (by
      have := setRow_heap w (G.box id) cs.toArray (cs.toArray.toList.take (o + 0) ++ y.cells.toList ++ cs.toArray.toList.drop (o + 0 + y.cells.toList.length)).toArray e (0, 0) k1
      simpa [spliceV] using this) hsp.len hsp.rep hsp.one
    exact ⟨this.2, this.1⟩

/-- What is appended: out of a slice, or a string's bytes. -/
theorem src_of {t' : TypeId} {td : TypeDesc} {i : TypeInfo} {s : Nat} {y : PV} {v : Value} {ys : List PV} (hI : Inv G m w) (ht : P.underlying t' = some td) (hy : Rep G w y v) (he : elems m y = some ys) (hs : ∀ x ∈ ys, x.cells.length = s) (hsi : i.size = s)
    (hk : okSrc y td s = true) :
    ∃ news, Src P i.size t' v ys.length news w ∧ RL G w (ys.flatMap PV.cells) news ∧ ∀ x ∈ ys, x.ok = true := by
  cases y with
  | sl o ys' =>
    simp only [elems, Option.some.injEq] at he
    subst he
    cases td <;> simp [okSrc] at hk
    rename_i e'
    rcases sl_inv hy with ⟨⟨ao, rfl⟩, rfl, _⟩ | ⟨b, off, cap, sz, cs, rfl, a1, a2, a3, a4, a5, a6, a7, a8⟩
    · refine ⟨[], ?_, RL.nil, fun x hx => by cases hx⟩
      cases ao with
      | none => exact Src.ofNil w ht 0
      | some ad => exact Src.ofSlice w ht ad 0 0 [] (by simp) (fun j u hu => by simp at hu) (fun u hu => by cases hu)
    · have hl : cs.length = ys'.length * i.size := by rw [← a3.len, flat_len _ s _ hs, hsi]
      refine ⟨cs, Src.ofSlice w ht ⟨b, off, none⟩ ys'.length cap cs hl (fun j u hu => ?_) a3.one, a3, a2⟩
      have hj : j < cs.length := by
        rcases Nat.lt_or_ge j cs.length with h | h
        · exact h
        · rw [List.getElem?_eq_none h] at hu; cases hu
      rw [Addr.add_lit, (a4 j hj).1, hu]
  | v x =>
    obtain rfl := hy.atomEq
    cases v with
    | string str =>
      simp only [elems, Option.some.injEq] at he
      subst he
      cases td <;> simp [okSrc] at hk
      subst hk
      have e : (str.data.toList.map fun b => PV.v (.int .u8 b.toNat)).flatMap PV.cells = str.data.toList.map fun b => PV.v (.int .u8 b.toNat) := by
        rw [List.flatMap_map]
        show str.data.toList.flatMap (fun b => [PV.v (.int .u8 b.toNat)]) = _
        exact List.map_eq_flatMap.symm
      refine ⟨byteCells str, ?_, ?_, ?_⟩
      · rw [hsi]
        have := Src.ofString (P := P) w ht str
        rwa [show str.size = (str.data.toList.map fun b => PV.v (.int .u8 b.toNat)).length by simp] at this
      · rw [e]
        refine ⟨by simp [byteCells], fun j a b => ?_, fun u hu => ?_⟩
        · simp only [byteCells, List.getElem_map]
          exact .v rfl
        · obtain ⟨_, _, rfl⟩ := List.mem_map.1 hu
          rfl
      · intro x hx
        obtain ⟨_, _, rfl⟩ := List.mem_map.1 hx
        rfl
    | _ => simp [elems] at he
  | bs id off len =>
    simp only [elems] at he
    cases td <;> simp [okSrc] at hk
    rename_i e'
    subst hk
    cases hg : m.get id with
    | none => simp [hg] at he
    | some c =>
      simp only [hg] at he
      split at he
      · rename_i hq
        obtain ⟨hq1, hq2⟩ := hq
        simp only [Option.some.injEq] at he
        subst he
        obtain ⟨o, k1, k2, k3⟩ := hI.box id c hg
        cases hy with
        | bs _ _ _ cap hid hm hcap hmax =>
        rw [hm] at k2
        cases k2 with
        | cells _ cs e hl hr h1 =>
          have hlen : ((cs.drop off).take len).length = len := by simp; omega
          have hlen2 : ((c.drop off).take len).length = len := by simp; omega
          have hone : ∀ x ∈ (c.drop off).take len, x.cells = [x] ∧ x.ok = true := fun x hx => by
            have := List.all_eq_true.1 hq2 x hx
            cases x <;> simp [PV.isV] at this
            exact ⟨rfl, rfl⟩
          have hfl : ∀ l : List PV, (∀ x ∈ l, x.cells = [x]) → l.flatMap PV.cells = l := fun l hl => by
            induction l with
            | nil => rfl
            | cons a l ih => rw [List.flatMap_cons, hl a (by simp), ih (fun x hx => hl x (by simp [hx]))]; rfl
          refine ⟨(cs.drop off).take len, ?_, ?_, fun x hx => (hone x hx).2⟩
          · rw [hlen2]
            refine Src.ofSlice w ht ⟨G.box id, off, none⟩ len cap _ (by rw [hlen, hsi]; omega) (fun j u hu => ?_) (fun u hu => h1 u (List.mem_of_mem_drop (List.mem_of_mem_take hu)))
            have hj : j < len := by
              rcases Nat.lt_or_ge j len with h | h
              · exact h
              · rw [List.getElem?_eq_none (by omega)] at hu; cases hu
            rw [List.getElem?_take_of_lt hj, List.getElem?_drop] at hu
            rw [Addr.add_lit]
            simp [World.cell?, k1, hu]
          · rw [hfl _ (fun x hx => (hone x hx).1)]
            refine ⟨by rw [hlen, hlen2], fun j a b => ?_, fun u hu => h1 u (List.mem_of_mem_drop (List.mem_of_mem_take hu))⟩
            simp only [List.getElem_take, List.getElem_drop]
            exact hr _ _ _
      · cases he
  | _ => simp [elems] at he

theorem growslice_of {need old by_ : Nat} (h : old < need) (hb : need * by_ ≤ 140737488355328) : Builtin.nextslicecap need old * by_ ≤ 281474976710656 := growslice_fits h hb
theorem grownCap_ge (w : World) (need old : Nat) (e : TypeId) : need ≤ grownCap w need old e := by
  unfold grownCap Question.cut
  simp

theorem append_good {t t' e ty : TypeId} {d : TD} {td : TypeDesc} (hte : tel P t = some e) (hd : tdat P e = some d) (ht' : P.underlying t' = some td) (hI : Inv G m w) {o : Own} {xs ys : List PV} {y : PV} {v v' : Value}
    (hx : Rep G w (.sl o xs) v) (hy : Rep G w y v') (he : elems m y = some ys)
    (hk : okSrc y td d.sz = true)
    (hfree : o.free m d.sz) (hxs : ∀ x ∈ xs, x.cells.length = d.sz) (hys : ∀ x ∈ ys, x.cells.length = d.sz) (hmax : xs.length + ys.length ≤ maxLen) (hby : (xs.length + ys.length) * d.by_ ≤ 140737488355328) :
    Good G w ((Builtin.append_ #[t, t'] ty #[v, v']).run P w) (.sl (.tok m.nt) (xs ++ ys)) ((o.use m).fresh d.sz) := by
  obtain ⟨i, td', hi, htd, hz, hs, hb, _, hzc⟩ := info_of hd
  obtain ⟨news, hsrc, hnew, hok⟩ := src_of hI ht' hy he hys hs hk
  have hu := under_of hte
  have hnt : m.nt = G.nt := hI.nt
  have hnl : news.length = ys.length * d.sz := by rw [← hnew.len, flat_len _ _ _ hys]
  have hIu : Inv G (o.use m) w := by
    cases o with
    | tok t => exact hI.kill t
    | _ => exact hI
  have huse : ∀ t s, (o.use m).alive t s → m.alive t s := fun t s h => by
    cases o with
    | tok t' => exact (M.alive_kill h).2
    | _ => exact h
  have hall : ∀ x ∈ xs ++ ys, x.cells.length = d.sz := fun x hx => (List.mem_append.1 hx).elim (hxs x) (hys x)
  -- a new row
  have grow : ∀ (base : Option Addr) (sCap : Nat) (olds : List Value), (Builtin.firstCells i.size xs.length (.slice base xs.length sCap)).run P w.drew = .ok olds.toArray w.drew → RL G w (xs.flatMap PV.cells) olds →
      (∀ x ∈ xs, x.ok = true) → sCap < xs.length + ys.length → Good G w ((Builtin.append_ #[t, t'] ty #[.slice base xs.length sCap, v']).run P w) (.sl (.tok m.nt) (xs ++ ys)) ((o.use m).fresh d.sz) := by
    intro base sCap olds hold hrl hoks hg
    have hrun := run_append_grow_src (P := P) w t t' ty e i d.zero hu hi hz base xs.length sCap olds hold v' ys.length news hsrc hg (by unfold maxLen at hmax; omega) (growslice_of hg (by rw [hb]; exact hby))
    have hol : olds.length = xs.length * d.sz := by rw [← hrl.len, flat_len _ _ _ hxs]
    have hge := grownCap_ge w (xs.length + ys.length) sCap e
    have hle := grownCap_le_maxLen w (xs.length + ys.length) sCap e hmax
    generalize grownCap w (xs.length + ys.length) sCap e = cap at *
    let row : Array Value := (olds ++ news).toArray ++ Builtin.zeroCells d.zero.cells (cap - (xs.length + ys.length))
    have hrow : row.size = cap * d.sz := by
      show ((olds ++ news).toArray ++ Builtin.zeroCells d.zero.cells (cap - (xs.length + ys.length))).size = _
      rw [Array.size_append, size_zeroCells, hzc]
      simp only [List.size_toArray, List.length_append, hol, hnl]
      rw [← Nat.add_mul, ← Nat.add_mul]
      congr 1
      omega
    have hpush : Pushed w (w.drew.alloc (.cells row e)) (.cells row e) := (Pushed.alloc w.drew _).drew
    obtain ⟨hE, hI'⟩ := hIu.push hpush (fun k => k < (xs.length + ys.length) * d.sz)
    have hI2 := hI'.addTok ⟨w.heap.size, (xs.length + ys.length) * d.sz, cap * d.sz, d.sz⟩ (fun b k hbk => by
      obtain ⟨hbb, k1, k2⟩ := hbk
      simp only at hbb k1 k2
      subst hbb
      refine ⟨hI.base, fun hset => ?_, by rw [hpush.cellNew, Array.getElem?_eq_getElem (by rw [hrow]; exact k2)]; rfl, by simp only [World.frozen?]; rw [hpush.new]; simp, fun id c hc => ?_⟩
      · rcases hset with hset | ⟨_, hset⟩
        · have := hI.set _ _ hset; omega
        · have hset' : k < (xs.length + ys.length) * d.sz := hset
          omega
      · have : G.box id < w.heap.size := hIu.blt hc
        show G.box id ≠ _
        omega) (fun t1 s1 hal b k hbk hx => by
      obtain ⟨hbb, _, _⟩ := hx
      simp only at hbb
      subst hbb
      obtain ⟨_, _, q3, _⟩ := (hIu.tok t1 s1 hal).2 _ _ hbk
      obtain ⟨u, hu'⟩ := Option.isSome_iff_exists.1 q3
      have : w.heap.size < w.heap.size := World.block_lt_of_cell? w _ hu'
      omega)
    refine ⟨_, _, _, hrun, ?_, hI2, hE.trans (Ext.addTok _ _ _)⟩
    have hfl : RL G w ((xs ++ ys).flatMap PV.cells) (olds ++ news) := by rw [List.flatMap_append]; exact hrl.append hnew
    have := slice_rep (G := (G.more w.heap.size fun k => k < (xs.length + ys.length) * d.sz).addTok ⟨w.heap.size, (xs.length + ys.length) * d.sz, cap * d.sz, d.sz⟩) (w := w.drew.alloc (.cells row e)) (xs := xs ++ ys) (cs := olds ++ news)
      (b := w.heap.size) (off := 0) (cap := cap) (sz := d.sz) (o := .tok m.nt) hall (fun x hx => (List.mem_append.1 hx).elim (hoks x) (hok x)) (hfl.mono (hE.trans (Ext.addTok _ _ _)))
      (fun k hk => ⟨by
        rw [Nat.zero_add, hpush.cellNew]
        show ((olds ++ news).toArray ++ _)[k]? = _
        rw [Array.getElem?_append_left (by simpa using hk)]
        simp, .inr (.inr ⟨rfl, by simp only [List.length_append, hol, hnl] at hk; rw [Nat.add_mul]; omega⟩)⟩)
      (by simpa using hge) hle (fun h => by cases h) (fun t1 ht1 => by
        cases ht1
        refine ⟨?_, ?_⟩
        · show m.nt < G.nt + 1
          omega
        · refine (if_pos hnt).trans ?_
          simp [List.length_append])
    rwa [List.length_append] at this
  rcases sl_inv hx with ⟨⟨ao, rfl⟩, rfl, hnil⟩ | ⟨b, off, cap, sz, cs, rfl, a1, a2, a3, a4, a5, a6, a7, a8⟩
  · -- nil
    by_cases h0 : ys.length = 0
    · obtain rfl := List.eq_nil_of_length_eq_zero h0
      have hn0 : news = [] := List.eq_nil_of_length_eq_zero (by simpa using hnl)
      subst hn0
      have hrun := run_append_nothing w t t' ty e i hu hi ao 0 0 (Nat.le_refl _) v' hsrc
      have hI2 := hIu.addTok ⟨0, 0, 0, d.sz⟩ (fun b k hbk => by obtain ⟨_, k1, k2⟩ := hbk; simp at k2) (fun t1 s1 _ b k _ hx => by obtain ⟨_, k1, k2⟩ := hx; simp at k2)
      refine ⟨_, _, _, hrun, .snil _ ao (fun t1 ht1 => ?_), hI2, Ext.addTok _ _ _⟩
      cases ht1
      refine ⟨?_, ?_⟩
      · show m.nt < G.nt + 1
        omega
      · have : (G.addTok ⟨0, 0, 0, d.sz⟩).res m.nt = ⟨0, 0, 0, d.sz⟩ := if_pos hnt
        rw [this]
        simp
    · refine grow ao 0 [] ?_ RL.nil (fun x hx => by cases hx) (by simp; omega)
      cases ao with
      | none => exact run_firstCells_none w.drew i.size 0 0 0
      | some ad => exact run_firstCells_some (P := P) w.drew i.size 0 ad 0 0 [] (by simp) (fun j u hu => by simp at hu)
  · have hsz : xs = [] ∨ sz = d.sz := by
      cases xs with
      | nil => exact .inl rfl
      | cons x xs => exact .inr ((a1 x (by simp)).symm.trans (hxs x (by simp)))
    have hcl : cs.length = xs.length * d.sz := by rw [← a3.len, flat_len _ _ _ hxs]
    by_cases hroom : xs.length + ys.length ≤ cap
    · -- within the spare places
      have hadr : off + xs.length * i.size = off + xs.length * d.sz := by rw [hs]
      cases o with
      | no => exact absurd hfree (by simp [Own.free])
      | full =>
        have hcap := a7 rfl
        have h0 : ys.length = 0 := by omega
        obtain rfl := List.eq_nil_of_length_eq_zero h0
        have hn0 : news = [] := List.eq_nil_of_length_eq_zero (by simpa using hnl)
        subst hn0
        have hrun := run_append_nothing w t t' ty e i hu hi (some ⟨b, off, none⟩) xs.length cap a5 v' hsrc
        have hI2 := hI.addTok ⟨b, off + xs.length * d.sz, off + cap * d.sz, d.sz⟩ (fun b k hbk => by obtain ⟨_, k1, k2⟩ := hbk; simp only [hcap] at k1 k2; omega) (fun t1 s1 _ b k _ hx => by obtain ⟨_, k1, k2⟩ := hx; simp only [hcap] at k1 k2; omega)
        refine ⟨_, _, _, hrun, ?_, hI2, Ext.addTok _ _ _⟩
        rw [List.append_nil]
        exact slice_rep hxs a2 (a3.mono (Ext.addTok _ _ _)) (fun k hk => ⟨(a4 k hk).1, (a4 k hk).2⟩) a5 a6 (fun h => by cases h) (fun t1 ht1 => by
          cases ht1
          refine ⟨?_, ?_⟩
          · show m.nt < G.nt + 1
            omega
          · exact if_pos hnt)
      | tok tk =>
        obtain ⟨b1, b2⟩ := a8 tk rfl
        have hal : m.alive tk d.sz := hfree
        have hss : sz = d.sz := by have := (hI.tok tk _ hal).1; rw [b2] at this; exact this
        subst hss
        have hlt : ys.length * d.sz ≤ (cap - xs.length) * d.sz := Nat.mul_le_mul_right _ (by omega)
        have hcs : cap * d.sz = xs.length * d.sz + (cap - xs.length) * d.sz := by rw [← Nat.add_mul]; congr 1; omega
        have hplace := (hI.tok tk _ hal).2
        have hhas : ∀ j, j < news.length → (G.res tk).has b (off + xs.length * i.size + j) := fun j hj => by
          rw [b2, hs]; refine ⟨rfl, ?_, ?_⟩ <;> simp only <;> omega
        have hrun := run_append_room_src (P := P) w t t' ty e i hu hi b off xs.length cap v' ys.length news hsrc hroom (fun j hj => (hplace _ _ (hhas j hj)).2.2.1) (fun j hj => (hplace _ _ (hhas j hj)).2.2.2.1)
        rw [hadr] at hrun
        obtain ⟨G', hE, hI2, e1, e2, e3⟩ := hI.room hal b2 news (ys.length * d.sz) hnl (by omega)
        refine ⟨_, _, _, hrun, ?_, hI2, hE⟩
        have hfl : RL G w ((xs ++ ys).flatMap PV.cells) (cs ++ news) := by rw [List.flatMap_append]; exact a3.append hnew
        have := slice_rep (G := G') (w := w.setCells b (off + xs.length * d.sz) news) (xs := xs ++ ys) (cs := cs ++ news) (b := b) (off := off) (cap := cap) (sz := d.sz) (o := .tok m.nt) hall (fun x hx => (List.mem_append.1 hx).elim (a2 x) (hok x)) (hfl.mono hE)
          (fun k hk => by
            by_cases hkc : k < cs.length
            · obtain ⟨q1, q2⟩ := a4 k hkc
              exact ⟨by rw [hE.scell q2, q1, List.getElem?_append_left hkc], hE.settled q2⟩
            · have hkn : k - cs.length < news.length := by simp at hk; omega
              have hin := World.cell?_setCells_in b news (off + xs.length * d.sz) w (fun j hj => by have := (hplace _ _ (hhas j hj)).2.2.1; rwa [hs] at this) (k - cs.length) hkn
              rw [show off + xs.length * d.sz + (k - cs.length) = off + k by omega] at hin
              refine ⟨by rw [hin, List.getElem?_append_right (by omega), List.getElem?_eq_getElem hkn], e3 _ (by omega) (by omega)⟩)
          (by simpa using hroom) a6 (fun h => by cases h) (fun t1 ht1 => by
            cases ht1
            rw [hnt, e1, e2]
            refine ⟨by omega, ?_⟩
            rw [List.length_append, Nat.add_mul, ← Nat.add_assoc])
        rwa [List.length_append] at this
    · refine grow (some ⟨b, off, none⟩) cap cs ?_ a3 a2 (by omega)
      exact run_firstCells_some (P := P) w.drew i.size xs.length ⟨b, off, none⟩ xs.length cap cs (by rw [hcl, hs]) (fun j u hu' => by
        have hj : j < cs.length := by
          rcases Nat.lt_or_ge j cs.length with h | h
          · exact h
          · rw [List.getElem?_eq_none h] at hu'; cases hu'
        rw [Addr.add_lit]
        show w.cell? _ = _
        rw [(a4 j hj).1, hu'])
end
end Go.Proofs.Ytfemdelaciccmaa
