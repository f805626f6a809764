/-
 Texts that belong together: AbS4, AbS5, AbS6.
-/
-- halved
import Derived.Test.YthhhnfjcaicjnaaGreatDoorGA
import Derived.Laws.StructEq
set_option linter.unusedVariables false
set_option linter.unusedSimpArgs false
namespace Go.Proofs.YthhhnfjcaicjnaaGreatDoor
open Go Go.RowKit

section
variable {P : Program} {G : Ghost} {w : World} {m : M}

theorem store_good {t : TypeId} {d : TD} (hd : tdat P t = some d) (hI : Inv G m w) {id o : Nat} {c : List PV} (hc : m.get id = some c) {ad : Value} (ha : Rep G w (.bp id o) ad) {x : PV} {y : Value} (hx : Rep G w x y)
    (h1 : x.cells.length = d.sz) (h2 : o + d.sz ≤ c.length) (h3 : x.cells.all PV.one = true) :
    ∃ w', (Instr.storeAt t ad y).run P w = .ok () w' ∧ Inv G (m.upd id (splice c o x.cells)) w' ∧ Ext G w G w' := by
 cases ha with
 | bp _ _ hid hm =>
 obtain ⟨i, td, hi, htd, hz, hs, hb, _⟩ := info_of hd
 obtain ⟨cs, e, k1, k2, k3, k4, k5⟩ := hI.boxC hc hm
 have hrl := hx.rl h3
 have hsz : y.cells.size = i.size := by have := hrl.len; simp at this; omega
 have hst := run_storeCells_at P (G.box id) o e y.cells.toList 0 cs.toArray w k1 (by have := hrl.len; simp at this ⊢; omega) hrl.one
 have hrow := Rowed.setRow w (G.box id) (cs.toArray.toList.take (o + 0) ++ y.cells.toList ++ cs.toArray.toList.drop (o + 0 + y.cells.toList.length)).toArray
 refine ⟨w.setRow (G.box id) (cs.toArray.toList.take (o + 0) ++ y.cells.toList ++ cs.toArray.toList.drop (o + 0 + y.cells.toList.length)).toArray, ?_, ?_⟩
 ·simp only [Instr.storeAt, Instr.sureAddr, storeVar, Sem.run_bind, Sem.run_pure, Result.andThen_ok, run_sizeOf hi, hsz, ne_eq, not_true_eq_false, if_false]
  exact hst
 ·have hlc : RL G w c cs := ⟨k2, k3, k4⟩
  have hsp := hlc.spl hrl o
  have := hI.store (c' := splice c o x.cells) hc hm hrow (spliceV cs o y.cells.toList) e (by
   have := setRow_heap w (G.box id) cs.toArray (cs.toArray.toList.take (o + 0) ++ y.cells.toList ++ cs.toArray.toList.drop (o + 0 + y.cells.toList.length)).toArray e (0, 0) k1
   simpa [spliceV] using this) hsp.len hsp.rep hsp.one
  exact ⟨this.2, this.1⟩

theorem src_of {t' : TypeId} {td : TypeDesc} {i : TypeInfo} {s : Nat} {y : PV} {v : Value} {ys : List PV} (hI : Inv G m w) (ht : P.underlying t' = some td) (hy : Rep G w y v) (he : elems m y = some ys) (hs : ∀ x ∈ ys, x.cells.length = s) (hsi : i.size = s)
    (hk : okSrc y td s = true) :
    ∃ news, Src P i.size t' v ys.length news w ∧ RL G w (ys.flatMap PV.cells) news ∧ ∀ x ∈ ys, x.ok = true := by
 cases y with
 | sl o ys' =>
  simp only [elems, Option.some.injEq] at he
  subst he
  cases td <;> simp [okSrc] at hk
  rename_i e'
  rcases sl_inv hy with ⟨⟨ao, rfl⟩, rfl, _⟩ | ⟨b, off, cap, sz, cs, rfl, a1, a2, a3, a4, a5, a6, a7, a8⟩
  ·refine ⟨[], ?_, RL.nil, fun x hx => by cases hx⟩
   cases ao with
   | none => exact Src.ofNil w ht 0
   | some ad => exact Src.ofSlice w ht ad 0 0 [] (by simp) (fun j u hu => by simp at hu) (fun u hu => by cases hu)
  ·have hl : cs.length = ys'.length * i.size := by rw [← a3.len, flat_len _ s _ hs, hsi]
   refine ⟨cs, Src.ofSlice w ht ⟨b, off, none⟩ ys'.length cap cs hl (fun j u hu => ?_) a3.one, a3, a2⟩
   have hj : j < cs.length := by
    rcases Nat.lt_or_ge j cs.length with h | h
    ·exact h
    ·rw [List.getElem?_eq_none h] at hu; cases hu
   rw [Addr.add_lit, (a4 j hj).1, hu]
 | v x =>
  obtain rfl := hy.atomEq
  cases v with
  | string str =>
   simp only [elems, Option.some.injEq] at he
   subst he
   cases td <;> simp [okSrc] at hk
   subst hk
   have e : (str.data.toList.map fun b => PV.v (.int .u8 b.toNat)).flatMap PV.cells = str.data.toList.map fun b => PV.v (.int .u8 b.toNat) := by
    rw [List.flatMap_map]
    show str.data.toList.flatMap (fun b => [PV.v (.int .u8 b.toNat)]) = _
    exact List.map_eq_flatMap.symm
   refine ⟨byteCells str, ?_, ?_, ?_⟩
   ·rw [hsi]
    have := Src.ofString (P := P) w ht str
    rwa [show str.size = (str.data.toList.map fun b => PV.v (.int .u8 b.toNat)).length by simp] at this
   ·rw [e]
    refine ⟨by simp [byteCells], fun j a b => ?_, fun u hu => ?_⟩
    ·simp only [byteCells, List.getElem_map]
     exact .v rfl
    ·obtain ⟨_, _, rfl⟩ := List.mem_map.1 hu
     rfl
   ·intro x hx
    obtain ⟨_, _, rfl⟩ := List.mem_map.1 hx
    rfl
  | _ => simp [elems] at he
 | bs id off len =>
  simp only [elems] at he
  cases td <;> simp [okSrc] at hk
  rename_i e'
  subst hk
  cases hg : m.get id with
  | none => simp [hg] at he
  | some c =>
   simp only [hg] at he
   split at he
   ·rename_i hq
    obtain ⟨hq1, hq2⟩ := hq
    simp only [Option.some.injEq] at he
    subst he
    obtain ⟨o, k1, k2, k3⟩ := hI.box id c hg
    cases hy with
    | bs _ _ _ cap hid hm hcap hmax =>
    rw [hm] at k2
    cases k2 with
    | cells _ cs e hl hr h1 =>
     have hlen : ((cs.drop off).take len).length = len := by simp; omega
     have hlen2 : ((c.drop off).take len).length = len := by simp; omega
     have hone : ∀ x ∈ (c.drop off).take len, x.cells = [x] ∧ x.ok = true := fun x hx => by
      have := List.all_eq_true.1 hq2 x hx
      cases x <;> simp [PV.isV] at this
      exact ⟨rfl, rfl⟩
     have hfl : ∀ l : List PV, (∀ x ∈ l, x.cells = [x]) → l.flatMap PV.cells = l := fun l hl => by
      induction l with
      | nil => rfl
      | cons a l ih => rw [List.flatMap_cons, hl a (by simp), ih (fun x hx => hl x (by simp [hx]))]; rfl
     refine ⟨(cs.drop off).take len, ?_, ?_, fun x hx => (hone x hx).2⟩
     ·rw [hlen2]
      refine Src.ofSlice w ht ⟨G.box id, off, none⟩ len cap _ (by rw [hlen, hsi]; omega) (fun j u hu => ?_) (fun u hu => h1 u (List.mem_of_mem_drop (List.mem_of_mem_take hu)))
      have hj : j < len := by
       rcases Nat.lt_or_ge j len with h | h
       ·exact h
       ·rw [List.getElem?_eq_none (by omega)] at hu; cases hu
      rw [List.getElem?_take_of_lt hj, List.getElem?_drop] at hu
      rw [Addr.add_lit]
      simp [World.cell?, k1, hu]
     ·rw [hfl _ (fun x hx => (hone x hx).1)]
      refine ⟨by rw [hlen, hlen2], fun j a b => ?_, fun u hu => h1 u (List.mem_of_mem_drop (List.mem_of_mem_take hu))⟩
      simp only [List.getElem_take, List.getElem_drop]
      exact hr _ _ _
   ·cases he
 | _ => simp [elems] at he

theorem growslice_of {need old by_ : Nat} (h : old < need) (hb : need * by_ ≤ 140737488355328) : Builtin.nextslicecap need old * by_ ≤ 281474976710656 := growslice_fits h hb
theorem grownCap_ge (w : World) (need old : Nat) (e : TypeId) : need ≤ grownCap w need old e := by
 unfold grownCap Question.cut
 simp

theorem append_good {t t' e ty : TypeId} {d : TD} {td : TypeDesc} (hte : tel P t = some e) (hd : tdat P e = some d) (ht' : P.underlying t' = some td) (hI : Inv G m w) {o : Own} {xs ys : List PV} {y : PV} {v v' : Value}
    (hx : Rep G w (.sl o xs) v) (hy : Rep G w y v') (he : elems m y = some ys)
    (hk : okSrc y td d.sz = true)
    (hfree : o.free m d.sz) (hxs : ∀ x ∈ xs, x.cells.length = d.sz) (hys : ∀ x ∈ ys, x.cells.length = d.sz) (hmax : xs.length + ys.length ≤ maxLen) (hby : (xs.length + ys.length) * d.by_ ≤ 140737488355328) :
    Good G w ((Builtin.append_ #[t, t'] ty #[v, v']).run P w) (.sl (.tok m.nt) (xs ++ ys)) ((o.use m).fresh d.sz) := by
 obtain ⟨i, td', hi, htd, hz, hs, hb, _, hzc⟩ := info_of hd
 obtain ⟨news, hsrc, hnew, hok⟩ := src_of hI ht' hy he hys hs hk
 have hu := under_of hte
 have hnt : m.nt = G.nt := hI.nt
 have hnl : news.length = ys.length * d.sz := by rw [← hnew.len, flat_len _ _ _ hys]
 have hIu : Inv G (o.use m) w := by
  cases o with
  | tok t => exact hI.kill t
  | _ => exact hI
 have huse : ∀ t s, (o.use m).alive t s → m.alive t s := fun t s h => by
  cases o with
  | tok t' => exact (M.alive_kill h).2
  | _ => exact h
 have hall : ∀ x ∈ xs ++ ys, x.cells.length = d.sz := fun x hx => (List.mem_append.1 hx).elim (hxs x) (hys x)
 have grow : ∀ (base : Option Addr) (sCap : Nat) (olds : List Value), (Builtin.firstCells i.size xs.length (.slice base xs.length sCap)).run P w.drew = .ok olds.toArray w.drew → RL G w (xs.flatMap PV.cells) olds →
     (∀ x ∈ xs, x.ok = true) → sCap < xs.length + ys.length → Good G w ((Builtin.append_ #[t, t'] ty #[.slice base xs.length sCap, v']).run P w) (.sl (.tok m.nt) (xs ++ ys)) ((o.use m).fresh d.sz) := by
  intro base sCap olds hold hrl hoks hg
  have hrun := run_append_grow_src (P := P) w t t' ty e i d.zero hu hi hz base xs.length sCap olds hold v' ys.length news hsrc hg (by unfold maxLen at hmax; omega) (growslice_of hg (by rw [hb]; exact hby))
  have hol : olds.length = xs.length * d.sz := by rw [← hrl.len, flat_len _ _ _ hxs]
  have hge := grownCap_ge w (xs.length + ys.length) sCap e
  have hle := grownCap_le_maxLen w (xs.length + ys.length) sCap e hmax
  generalize grownCap w (xs.length + ys.length) sCap e = cap at *
  let row : Array Value := (olds ++ news).toArray ++ Builtin.zeroCells d.zero.cells (cap - (xs.length + ys.length))
  have hrow : row.size = cap * d.sz := by
   show ((olds ++ news).toArray ++ Builtin.zeroCells d.zero.cells (cap - (xs.length + ys.length))).size = _
   rw [Array.size_append, size_zeroCells, hzc]
   simp only [List.size_toArray, List.length_append, hol, hnl]
   rw [← Nat.add_mul, ← Nat.add_mul]
   congr 1
   omega
  have hpush : Pushed w (w.drew.alloc (.cells row e)) (.cells row e) := (Pushed.alloc w.drew _).drew
  obtain ⟨hE, hI'⟩ := hIu.push hpush (fun k => k < (xs.length + ys.length) * d.sz)
  have hI2 := hI'.addTok ⟨w.heap.size, (xs.length + ys.length) * d.sz, cap * d.sz, d.sz⟩ (fun b k hbk => by
   obtain ⟨hbb, k1, k2⟩ := hbk
   simp only at hbb k1 k2
   subst hbb
   refine ⟨hI.base, fun hset => ?_, by rw [hpush.cellNew, Array.getElem?_eq_getElem (by rw [hrow]; exact k2)]; rfl, by simp only [World.frozen?]; rw [hpush.new]; simp, fun id c hc => ?_⟩
   ·rcases hset with hset | ⟨_, hset⟩
    ·have := hI.set _ _ hset; omega
    ·have hset' : k < (xs.length + ys.length) * d.sz := hset
     omega
   ·have : G.box id < w.heap.size := hIu.blt hc
    show G.box id ≠ _
    omega) (fun t1 s1 hal b k hbk hx => by
   obtain ⟨hbb, _, _⟩ := hx
   simp only at hbb
   subst hbb
   obtain ⟨_, _, q3, _⟩ := (hIu.tok t1 s1 hal).2 _ _ hbk
   obtain ⟨u, hu'⟩ := Option.isSome_iff_exists.1 q3
   have : w.heap.size < w.heap.size := World.block_lt_of_cell? w _ hu'
   omega)
  refine ⟨_, _, _, hrun, ?_, hI2, hE.trans (Ext.addTok _ _ _)⟩
  have hfl : RL G w ((xs ++ ys).flatMap PV.cells) (olds ++ news) := by rw [List.flatMap_append]; exact hrl.append hnew
  have := slice_rep (G := (G.more w.heap.size fun k => k < (xs.length + ys.length) * d.sz).addTok ⟨w.heap.size, (xs.length + ys.length) * d.sz, cap * d.sz, d.sz⟩) (w := w.drew.alloc (.cells row e)) (xs := xs ++ ys) (cs := olds ++ news)
   (b := w.heap.size) (off := 0) (cap := cap) (sz := d.sz) (o := .tok m.nt) hall (fun x hx => (List.mem_append.1 hx).elim (hoks x) (hok x)) (hfl.mono (hE.trans (Ext.addTok _ _ _)))
   (fun k hk => ⟨by
    rw [Nat.zero_add, hpush.cellNew]
    show ((olds ++ news).toArray ++ _)[k]? = _
    rw [Array.getElem?_append_left (by simpa using hk)]
    simp, .inr (.inr ⟨rfl, by simp only [List.length_append, hol, hnl] at hk; rw [Nat.add_mul]; omega⟩)⟩)
   (by simpa using hge) hle (fun h => by cases h) (fun t1 ht1 => by
    cases ht1
    refine ⟨?_, ?_⟩
    ·show m.nt < G.nt + 1
     omega
    ·refine (if_pos hnt).trans ?_
     simp [List.length_append])
  rwa [List.length_append] at this
 rcases sl_inv hx with ⟨⟨ao, rfl⟩, rfl, hnil⟩ | ⟨b, off, cap, sz, cs, rfl, a1, a2, a3, a4, a5, a6, a7, a8⟩
 ·
  by_cases h0 : ys.length = 0
  ·obtain rfl := List.eq_nil_of_length_eq_zero h0
   have hn0 : news = [] := List.eq_nil_of_length_eq_zero (by simpa using hnl)
   subst hn0
   have hrun := run_append_nothing w t t' ty e i hu hi ao 0 0 (Nat.le_refl _) v' hsrc
   have hI2 := hIu.addTok ⟨0, 0, 0, d.sz⟩ (fun b k hbk => by obtain ⟨_, k1, k2⟩ := hbk; simp at k2) (fun t1 s1 _ b k _ hx => by obtain ⟨_, k1, k2⟩ := hx; simp at k2)
   refine ⟨_, _, _, hrun, .snil _ ao (fun t1 ht1 => ?_), hI2, Ext.addTok _ _ _⟩
   cases ht1
   refine ⟨?_, ?_⟩
   ·show m.nt < G.nt + 1
    omega
   ·have : (G.addTok ⟨0, 0, 0, d.sz⟩).res m.nt = ⟨0, 0, 0, d.sz⟩ := if_pos hnt
    rw [this]
    simp
  ·refine grow ao 0 [] ?_ RL.nil (fun x hx => by cases hx) (by simp; omega)
   cases ao with
   | none => exact run_firstCells_none w.drew i.size 0 0 0
   | some ad => exact run_firstCells_some (P := P) w.drew i.size 0 ad 0 0 [] (by simp) (fun j u hu => by simp at hu)
 ·have hsz : xs = [] ∨ sz = d.sz := by
    cases xs with
    | nil => exact .inl rfl
    | cons x xs => exact .inr ((a1 x (by simp)).symm.trans (hxs x (by simp)))
  have hcl : cs.length = xs.length * d.sz := by rw [← a3.len, flat_len _ _ _ hxs]
  by_cases hroom : xs.length + ys.length ≤ cap
  ·
   have hadr : off + xs.length * i.size = off + xs.length * d.sz := by rw [hs]
   cases o with
   | no => exact absurd hfree (by simp [Own.free])
   | full =>
    have hcap := a7 rfl
    have h0 : ys.length = 0 := by omega
    obtain rfl := List.eq_nil_of_length_eq_zero h0
    have hn0 : news = [] := List.eq_nil_of_length_eq_zero (by simpa using hnl)
    subst hn0
    have hrun := run_append_nothing w t t' ty e i hu hi (some ⟨b, off, none⟩) xs.length cap a5 v' hsrc
    have hI2 := hI.addTok ⟨b, off + xs.length * d.sz, off + cap * d.sz, d.sz⟩ (fun b k hbk => by obtain ⟨_, k1, k2⟩ := hbk; simp only [hcap] at k1 k2; omega) (fun t1 s1 _ b k _ hx => by obtain ⟨_, k1, k2⟩ := hx; simp only [hcap] at k1 k2; omega)
    refine ⟨_, _, _, hrun, ?_, hI2, Ext.addTok _ _ _⟩
    rw [List.append_nil]
    exact slice_rep hxs a2 (a3.mono (Ext.addTok _ _ _)) (fun k hk => ⟨(a4 k hk).1, (a4 k hk).2⟩) a5 a6 (fun h => by cases h) (fun t1 ht1 => by
     cases ht1
     refine ⟨?_, ?_⟩
     ·show m.nt < G.nt + 1
      omega
     ·exact if_pos hnt)
   | tok tk =>
    obtain ⟨b1, b2⟩ := a8 tk rfl
    have hal : m.alive tk d.sz := hfree
    have hss : sz = d.sz := by have := (hI.tok tk _ hal).1; rw [b2] at this; exact this
    subst hss
    have hlt : ys.length * d.sz ≤ (cap - xs.length) * d.sz := Nat.mul_le_mul_right _ (by omega)
    have hcs : cap * d.sz = xs.length * d.sz + (cap - xs.length) * d.sz := by rw [← Nat.add_mul]; congr 1; omega
    have hplace := (hI.tok tk _ hal).2
    have hhas : ∀ j, j < news.length → (G.res tk).has b (off + xs.length * i.size + j) := fun j hj => by
     rw [b2, hs]; refine ⟨rfl, ?_, ?_⟩ <;> simp only <;> omega
    have hrun := run_append_room_src (P := P) w t t' ty e i hu hi b off xs.length cap v' ys.length news hsrc hroom (fun j hj => (hplace _ _ (hhas j hj)).2.2.1) (fun j hj => (hplace _ _ (hhas j hj)).2.2.2.1)
    rw [hadr] at hrun
    obtain ⟨G', hE, hI2, e1, e2, e3⟩ := hI.room hal b2 news (ys.length * d.sz) hnl (by omega)
    refine ⟨_, _, _, hrun, ?_, hI2, hE⟩
    have hfl : RL G w ((xs ++ ys).flatMap PV.cells) (cs ++ news) := by rw [List.flatMap_append]; exact a3.append hnew
    have := slice_rep (G := G') (w := w.setCells b (off + xs.length * d.sz) news) (xs := xs ++ ys) (cs := cs ++ news) (b := b) (off := off) (cap := cap) (sz := d.sz) (o := .tok m.nt) hall (fun x hx => (List.mem_append.1 hx).elim (a2 x) (hok x)) (hfl.mono hE)
     (fun k hk => by
      by_cases hkc : k < cs.length
      ·obtain ⟨q1, q2⟩ := a4 k hkc
       exact ⟨by rw [hE.scell q2, q1, List.getElem?_append_left hkc], hE.settled q2⟩
      ·have hkn : k - cs.length < news.length := by simp at hk; omega
       have hin := World.cell?_setCells_in b news (off + xs.length * d.sz) w (fun j hj => by have := (hplace _ _ (hhas j hj)).2.2.1; rwa [hs] at this) (k - cs.length) hkn
       rw [show off + xs.length * d.sz + (k - cs.length) = off + k by omega] at hin
       refine ⟨by rw [hin, List.getElem?_append_right (by omega), List.getElem?_eq_getElem hkn], e3 _ (by omega) (by omega)⟩)
     (by simpa using hroom) a6 (fun h => by cases h) (fun t1 ht1 => by
      cases ht1
      rw [hnt, e1, e2]
      refine ⟨by omega, ?_⟩
      rw [List.length_append, Nat.add_mul, ← Nat.add_assoc])
    rwa [List.length_append] at this
  ·refine grow (some ⟨b, off, none⟩) cap cs ?_ a3 a2 (by omega)
   exact run_firstCells_some (P := P) w.drew i.size xs.length ⟨b, off, none⟩ xs.length cap cs (by rw [hcl, hs]) (fun j u hu' => by
    have hj : j < cs.length := by
     rcases Nat.lt_or_ge j cs.length with h | h
     ·exact h
     ·rw [List.getElem?_eq_none h] at hu'; cases hu'
    rw [Addr.add_lit]
    show w.cell? _ = _
    rw [(a4 j hj).1, hu'])
end

section
variable {P : Program} {G : Ghost} {w : World} {m : M}

theorem eqCell_run {x y : PV} {u v : Value} {c : Bool} (hx : Rep G w x u) (hy : Rep G w y v) (h : eqCell x y = some c) {t : TypeId} {td : TypeDesc} (hu : P.underlying t = some td) (hty : skT td = skP x) (d : Nat) :
    (Op.equalIn (d + 1) t u v).run P w = .ok c w := by
 cases x with
 | v a =>
  cases y with
  | v b =>
   obtain rfl := hx.atomEq
   obtain rfl := hy.atomEq
   cases u <;> cases v <;> simp only [eqCell, reduceCtorEq, Option.some.injEq] at h
   case bool.bool =>
    cases td <;> simp [skT, skP] at hty
    subst h
    exact run_equalIn_bool' w d t _ _ hu
   case int.int k a k' b =>
    cases td <;> simp [skT, skP] at hty
    by_cases hk : k = k'
    ·subst hk
     simp only [if_true, Option.some.injEq] at h
     subst h
     exact run_equalIn_int w d t k _ _ _ hu
    ·simp [hk] at h
   case string.string =>
    cases td <;> simp [skT, skP] at hty
    subst h
    exact run_equalIn_string w d t _ _ hu
  | _ => simp [eqCell] at h
 | _ => simp [eqCell] at h

theorem scal_agg {td : TypeDesc} {s : SK} (h : skT td = some s) : aggD td = false := by cases td <;> simp [skT] at h <;> rfl

theorem eqFields_run (d : Nat) (as bs : Array Value) : ∀ (fs : List Field) (k : Nat) (xs ys : List PV) (c : Bool), (∀ j (h : j < fs.length), fs[j].name ≠ "_" ∧ fs[j].offset = k + j) → fs.length = xs.length → xs.length = ys.length →
    (∀ j (h1 : j < fs.length) (h2 : j < xs.length), ∃ td, P.underlying fs[j].type = some td ∧ skT td = skP xs[j]) →
    (∀ j (h : j < xs.length), ∃ u, as[k + j]? = some u ∧ Rep G w xs[j] u) → (∀ j (h : j < ys.length), ∃ u, bs[k + j]? = some u ∧ Rep G w ys[j] u) → eqCells xs ys = some c →
    (Op.eqFields (d + 1) as bs fs).run P w = .ok c w
 | [], _, xs, ys, c, _, h1, h2, _, _, _, h => by
  obtain rfl := List.eq_nil_of_length_eq_zero h1.symm
  obtain rfl := List.eq_nil_of_length_eq_zero h2.symm
  simp only [eqCells, Option.some.injEq] at h
  subst h
  rfl
 | f :: fs, k, [], ys, c, _, h1, _, _, _, _, _ => by simp at h1
 | f :: fs, k, x :: xs, [], c, _, _, h2, _, _, _, _ => by simp at h2
 | f :: fs, k, x :: xs, y :: ys, c, hf, h1, h2, hk, ha, hb, h => by
  simp only [eqCells] at h
  cases he : eqCell x y with
  | none => simp [he] at h
  | some c1 =>
   cases hes : eqCells xs ys with
   | none => simp [he, hes] at h
   | some c2 =>
    simp only [he, hes, Option.some.injEq] at h
    subst h
    obtain ⟨n0, o0⟩ := hf 0 (by simp)
    obtain ⟨td, hu, hsk⟩ := hk 0 (by simp) (by simp)
    obtain ⟨u, hu1, hu2⟩ := ha 0 (by simp)
    obtain ⟨v, hv1, hv2⟩ := hb 0 (by simp)
    simp only [List.getElem_cons_zero, Nat.add_zero] at n0 o0 hu hsk hu1 hu2 hv1 hv2
    have hag : aggD td = false := by
     have : skP x ≠ none := by
      intro hn
      cases x <;> simp [eqCell] at he
      rename_i a
      cases a <;> simp [skP] at hn
      all_goals simp [eqCell] at he
     cases hs : skT td with
     | none => rw [hs] at hsk; exact absurd hsk.symm this
     | some s => exact scal_agg hs
    have pa : ∀ (cs : Array Value) (z : Value), cs[k]? = some z → (Go.part f.type cs f.offset).run P w = .ok z w := fun cs z hz => by
     simp only [Go.part, Sem.run_bind, run_isAgg hu, hag, Result.andThen_ok, Bool.false_eq_true, if_false, o0, hz, Sem.run_pure]
    have ih := eqFields_run d as bs fs (k + 1) xs ys c2 (fun j hj => by
        have := hf (j + 1) (by simpa using hj)
        simp only [List.getElem_cons_succ] at this
        exact ⟨this.1, by rw [this.2]; omega⟩) (by simpa using h1) (by simpa using h2) (fun j a b => by
        have := hk (j + 1) (by simpa using a) (by simpa using b)
        simpa using this) (fun j hj => by
        have := ha (j + 1) (by simpa using hj)
        rw [show k + (j + 1) = k + 1 + j by omega] at this
        simpa using this) (fun j hj => by
        have := hb (j + 1) (by simpa using hj)
        rw [show k + (j + 1) = k + 1 + j by omega] at this
        simpa using this) hes
    simp only [Op.eqFields, n0, ne_eq, not_false_eq_true, if_true, Sem.run_bind, pa as u hu1, pa bs v hv1, Result.andThen_ok, eqCell_run hu2 hv2 he hu hsk d]
    cases c1
    ·simp
    ·simpa using ih

theorem eqStruct_good {op : BinOp} (hop : op = .eql ∨ op = .neq) {t : TypeId} {x y : Operand} {xs ys : List PV} {u v : Value} {c : Bool} (hx : Rep G w (.ag xs) u) (hy : Rep G w (.ag ys) v) (hI : Inv G m w) (he : eqCells xs ys = some c)
    (hfl : (flat1 P t).map (·.map some) = some (xs.map skP)) :
    Good G w ((do eqGuard op t x y u v; binOp op t u v : Sem Value).run P w) (.v (.bool (if op = .eql then c else !c))) m := by
 cases hx with
 | ag _ as hla hra _ =>
 cases hy with
 | ag _ bs hlb hrb _ =>
 unfold flat1 at hfl
 cases hu : P.underlying t with
 | none => simp [hu] at hfl
 | some td =>
  cases td <;> simp only [hu, Option.map_none, reduceCtorEq] at hfl
  rename_i fs
  by_cases hc : (!P.stoodInHeld t && !P.eqGuardType P.depth t && (fs.toList.zipIdx.all fun p => p.1.name != "_" && p.1.offset == p.2)) = true
  ·rw [if_pos hc] at hfl
   simp only [Bool.and_eq_true, Bool.not_eq_true'] at hc
   obtain ⟨⟨c1, c2⟩, c3⟩ := hc
   have hfo : P.fieldsOf t = fs := by simp [Program.fieldsOf, hu]
   have hlen : xs.length = ys.length := by
    have : ∀ (xs ys : List PV) c, eqCells xs ys = some c → xs.length = ys.length := by
     intro xs
     induction xs with
     | nil => intro ys c h; cases ys <;> simp [eqCells] at h; rfl
     | cons x xs ih =>
      intro ys c h
      cases ys with
      | nil => simp [eqCells] at h
      | cons y ys =>
       simp only [eqCells] at h
       cases h1 : eqCell x y <;> cases h2 : eqCells xs ys <;> simp [h1, h2] at h
       simp [ih ys _ h2]
    exact this xs ys c he
   have hsk : fs.toList.length = xs.length ∧ ∀ j (h1 : j < fs.toList.length) (h2 : j < xs.length), ∃ td, P.underlying fs.toList[j].type = some td ∧ skT td = skP xs[j] := by
    generalize fs.toList = l at hfl
    clear hra hla hrb hlb he hlen
    induction l generalizing xs with
    | nil =>
     simp at hfl
     subst hfl
     exact ⟨rfl, fun j h => by simp at h⟩
    | cons f l ih =>
     simp only [List.mapM_cons] at hfl
     cases hb : (P.underlying f.type).bind skT with
     | none => simp [hb] at hfl
     | some s =>
      cases hm : l.mapM (fun f => (P.underlying f.type).bind skT) with
      | none => simp [hb, hm] at hfl
      | some r =>
       simp only [hb, hm, Option.bind_eq_bind, Option.bind_some, Option.pure_def, Option.map_some, List.map_cons, Option.some.injEq] at hfl
       cases xs with
       | nil => simp at hfl
       | cons x xs =>
        simp only [List.map_cons, List.cons.injEq] at hfl
        obtain ⟨i1, i2⟩ := ih (xs := xs) (by rw [hm]; simp [hfl.2])
        refine ⟨by simp [i1], fun j h1 h2 => ?_⟩
        cases j with
        | zero =>
         cases hut : P.underlying f.type with
         | none => simp [hut] at hb
         | some td => exact ⟨td, by simpa using hut, by simp [hut] at hb; simp [hb, ← hfl.1]⟩
        | succ j => simpa using i2 j (by simpa using h1) (by simpa using h2)
   have hf : ∀ j (h : j < fs.toList.length), fs.toList[j].name ≠ "_" ∧ fs.toList[j].offset = 0 + j := fun j hj => by
    have := List.all_eq_true.1 c3 (fs.toList[j], j) (List.mem_zipIdx_iff_getElem?.2 (by simp [hj]))
    simp only [Bool.and_eq_true, bne_iff_ne, ne_eq, beq_iff_eq] at this
    exact ⟨this.1, by omega⟩
   have hrun := eqFields_run (P := P) (G := G) (w := w) 9998 as.toArray bs.toArray fs.toList 0 xs ys c hf hsk.1 hlen hsk.2 (fun j hj => ⟨as[j]'(hla ▸ hj), by simp [hla ▸ hj], hra j hj _⟩) (fun j hj => ⟨bs[j]'(hlb ▸ hj), by simp [hlb ▸ hj], hrb j hj _⟩) he
   have hs := run_equalIn_struct (P := P) w 9999 t as.toArray bs.toArray (by rw [hfo]; exact hu) c1
   rw [hfo, hrun] at hs
   rcases hop with rfl | rfl
   ·refine Good.same (y := .bool c) ?_ (.v rfl) hI
    rw [Sem.run_bind, run_eqGuard_agg w .eql t x y _ _ c2]
    simp only [Result.andThen_ok, run_eql_struct, hs]
   ·refine Good.same (y := .bool (!c)) ?_ (.v rfl) hI
    rw [Sem.run_bind, run_eqGuard_agg w .neq t x y _ _ c2]
    simp only [Result.andThen_ok, run_neq_struct, hs]
  ·rw [if_neg hc] at hfl; simp at hfl
end

section
variable {P : Program} {G : Ghost} {w : World} {m : M}

def Stepped (P : Program) (G : Ghost) (w : World) (r : Result Next) (v : PV) (m' : M) : Prop :=
 ∃ n y w' G', r = .ok n w' ∧ (n = .value y ∨ (n = .skip ∧ y = undef)) ∧ Rep G' w' v y ∧ Inv G' m' w' ∧ Ext G w G' w'
theorem Good.stepped {s : Sem Value} {v : PV} {m' : M} (h : Good G w (s.run P w) v m') : Stepped P G w ((do pure (.value (← s)) : Sem Next).run P w) v m' := by
 obtain ⟨y, w', G', h1, h2, h3, h4⟩ := h
 exact ⟨.value y, y, w', G', by rw [Sem.run_bind, h1]; rfl, .inl rfl, h2, h3, h4⟩

theorem fieldAt_good {t : TypeId} {fl : List (Nat × Nat × Bool)} (hfl : tflds P t = some fl) {i o n : Nat} {ag : Bool} (hi : fl[i]? = some (o, n, ag)) (hn : n ≠ 0) (b off : Nat) (w : World) :
    (Instr.fieldAt t (.pointer (some ⟨b, off, none⟩)) i).run P w = .ok (.pointer (some ⟨b, off + o, none⟩)) w := by
 obtain ⟨fs, hu, hl, hget⟩ := tflds_get hfl
 have hlt : i < fl.length := by
  rcases Nat.lt_or_ge i fl.length with h | h
  ·exact h
  ·rw [List.getElem?_eq_none h] at hi; cases hi
 obtain ⟨d, hd, he⟩ := hget i hlt (hl ▸ hlt)
 rw [List.getElem?_eq_getElem hlt, Option.some.injEq] at hi
 rw [hi] at he
 simp only [Prod.mk.injEq] at he
 obtain ⟨e1, e2, e3⟩ := he
 obtain ⟨ti, td, h1, h2, h3, h4, _⟩ := info_of hd
 have hn' : ti.size ≠ 0 := by rw [h4, ← e2]; exact hn
 have hfi : fs[i]? = some fs[i] := Array.getElem?_eq_getElem _
 simp only [Instr.fieldAt, Sem.run_bind, run_underlying hu, Result.andThen_ok, hfi, Instr.sureAddr, Sem.run_pure, fieldPlace, run_sizeOf h1, hn', if_false, Addr.add_lit, e1]

theorem field_good {t : TypeId} {fl : List (Nat × Nat × Bool)} (hfl : tflds P t = some fl) {i o n : Nat} {ag : Bool} (hi : fl[i]? = some (o, n, ag)) (hI : Inv G m w) {xs : List PV} {y : Value} (h : Rep G w (.ag xs) y) (hfit : if ag then o + n ≤ xs.length else o < xs.length) :
    Good G w ((Instr.field t y i).run P w) (if ag then .ag (seg xs o n) else xs.getD o .junk) m := by
 obtain ⟨fs, hu, hl, hget⟩ := tflds_get hfl
 have hlt : i < fl.length := by
  rcases Nat.lt_or_ge i fl.length with h | h
  ·exact h
  ·rw [List.getElem?_eq_none h] at hi; cases hi
 obtain ⟨d, hd, he⟩ := hget i hlt (hl ▸ hlt)
 rw [List.getElem?_eq_getElem hlt, Option.some.injEq] at hi
 rw [hi] at he
 simp only [Prod.mk.injEq] at he
 obtain ⟨e1, e2, e3⟩ := he
 obtain ⟨ti, td, h1, h2, h3, h4, _, h6, _⟩ := info_of hd
 have hfi : fs[i]? = some fs[i] := Array.getElem?_eq_getElem _
 cases h with
 | ag _ cs hlen hr hone =>
 by_cases hag : ag = true
 ·subst hag
  simp only [if_true] at hfit ⊢
  refine Good.same (y := .agg (cs.toArray.extract o (o + n))) ?_ ?_ hI
  ·simp only [Instr.field, Sem.run_bind, run_underlying hu, Result.andThen_ok, hfi, asAgg, Sem.run_pure, Go.part, run_isAgg h2, h6, ← e3, if_true, run_sizeOf h1, h4, ← e2, ← e1]
  ·have : cs.toArray.extract o (o + n) = ((cs.drop o).take n).toArray := by apply Array.ext'; simp [List.drop_take]
   rw [this]
   exact .ag _ _ (by simp [seg, hlen]) (fun j a b => by simp only [seg, List.getElem_take, List.getElem_drop]; exact hr _ _ _) (fun u hu => hone u (List.mem_of_mem_drop (List.mem_of_mem_take hu)))
 ·simp only [hag] at hfit ⊢
  have hag' : ag = false := by simpa using hag
  subst hag'
  have hfit' : o < xs.length := by simpa using hfit
  refine Good.same (y := cs[o]'(hlen ▸ hfit')) ?_ ?_ hI
  ·simp only [Instr.field, Sem.run_bind, run_underlying hu, Result.andThen_ok, hfi, asAgg, Sem.run_pure, Go.part, run_isAgg h2, h6, ← e3, ← e1]
   simp [hlen ▸ hfit']
  ·have := hr o hfit' (hlen ▸ hfit')
   simpa [List.getD, hfit'] using this

theorem index_good {t : TypeId} {e : TypeId} (ht : tel P t = some e) (hI : Inv G m w) {o : Own} {xs : List PV} {y : Value} (h : Rep G w (.sl o xs) y) {k : IntKind} {n : Int} (h0 : 0 ≤ n) (hn : n.toNat < xs.length)
    (hsz : (tdat P e).map (·.sz) = some (xs.getD n.toNat .junk).cells.length) : Good G w ((Instr.indexAt t y (.int k n)).run P w) (.ep (xs.getD n.toNat .junk).cells) m := by
 cases hd : tdat P e with
 | none => simp [hd] at hsz
 | some d =>
 simp only [hd, Option.map_some, Option.some.injEq] at hsz
 obtain ⟨ti, td, h1, h2, h3, h4, _⟩ := info_of hd
 have hx : xs.getD n.toNat .junk = xs[n.toNat] := by simp [List.getD, hn]
 rw [hx] at hsz ⊢
 cases h with
 | snil => simp at hn
 | sl _ _ b off cap sz c hlen hc hp hr hcap hmax hfull htok =>
 have hs : sz = d.sz := by rw [hsz, hlen]
 have hlt : n < (xs.length : Int) := by omega
 refine Good.same (y := .pointer (some ⟨b, off + n.toNat * sz, none⟩)) ?_ ?_ hI
 ·simp only [Instr.indexAt, Sem.run_bind, asIntOf, Sem.run_pure, Result.andThen_ok, run_underlying (under_of ht), h0, hlt, and_self, if_true, run_sizeOf h1, h4, Addr.add_lit, hs]
 ·refine .ep _ b (off + n.toNat * sz) (fun j => c (n.toNat * sz + j)) (fun j hj => ?_) (ok_cells (hp _ hn)) (fun j hj => hr _ hn j hj)
  have hj' : j < sz := by rw [← hlen _ hn]; exact hj
  have hk : n.toNat * sz + j < xs.length * sz := by
   have : (n.toNat + 1) * sz ≤ xs.length * sz := Nat.mul_le_mul_right _ hn
   rw [Nat.add_mul] at this
   omega
  have := hc _ hk
  rwa [← Nat.add_assoc] at this

theorem indexBs_good {t : TypeId} {e : TypeId} {d : TD} (ht : tel P t = some e) (hd : tdat P e = some d) (hI : Inv G m w) {id o l : Nat} {y : Value} (h : Rep G w (.bs id o l) y) {k : IntKind} {n : Int} (h0 : 0 ≤ n) (hn : n.toNat < l) :
    Good G w ((Instr.indexAt t y (.int k n)).run P w) (.bp id (o + n.toNat * d.sz)) m := by
 obtain ⟨ti, td, h1, h2, h3, h4, _⟩ := info_of hd
 cases h with
 | bs _ _ _ cap hid hm hcap hmax =>
 have hlt : n < (l : Int) := by omega
 refine Good.same (y := .pointer (some ⟨G.box id, o + n.toNat * d.sz, none⟩)) ?_ (.bp _ _ hid hm) hI
 simp only [Instr.indexAt, Sem.run_bind, asIntOf, Sem.run_pure, Result.andThen_ok, run_underlying (under_of ht), h0, hlt, and_self, if_true, run_sizeOf h1, h4, Addr.add_lit]

theorem under_arr {t e : TypeId} {n : Nat} (ht : tarr P t = some (n, e)) : P.underlying t = some (.array n e) := by
 unfold tarr at ht
 split at ht
 ·rename_i h; cases ht; exact h
 ·cases ht
theorem run_indexArr {t e : TypeId} {l : Nat} {d : TD} (ht : tarr P t = some (l, e)) (hd : tdat P e = some d) {k : IntKind} {n : Int} (h0 : 0 ≤ n) (hn : n.toNat < l) (b o : Nat) (w : World) :
    (Instr.indexAt t (.pointer (some ⟨b, o, none⟩)) (.int k n)).run P w = .ok (.pointer (some ⟨b, o + n.toNat * d.sz, none⟩)) w := by
 obtain ⟨ti, td, h1, h2, h3, h4, _⟩ := info_of hd
 have hlt : n < (l : Int) := by omega
 simp only [Instr.indexAt, Sem.run_bind, asIntOf, Sem.run_pure, Result.andThen_ok, run_underlying (under_arr ht), Instr.sureAddr, h0, hlt, and_self, if_true, run_sizeOf h1, h4, Addr.add_lit]
theorem indexBp_good {t e : TypeId} {l : Nat} {d : TD} (ht : tarr P t = some (l, e)) (hd : tdat P e = some d) (hI : Inv G m w) {id o : Nat} {y : Value} (h : Rep G w (.bp id o) y) {k : IntKind} {n : Int} (h0 : 0 ≤ n) (hn : n.toNat < l) :
    Good G w ((Instr.indexAt t y (.int k n)).run P w) (.bp id (o + n.toNat * d.sz)) m := by
 cases h with
 | bp _ _ hid hm => exact Good.same (run_indexArr ht hd h0 hn _ _ w) (.bp _ _ hid hm) hI
theorem indexEp_good {t e : TypeId} {l : Nat} {d : TD} (ht : tarr P t = some (l, e)) (hd : tdat P e = some d) (hI : Inv G m w) {xs : List PV} {y : Value} (h : Rep G w (.ep xs) y) {k : IntKind} {n : Int} (h0 : 0 ≤ n) (hn : n.toNat < l) :
    Good G w ((Instr.indexAt t y (.int k n)).run P w) (.ep (xs.drop (n.toNat * d.sz))) m := by
 cases h with
 | ep _ b o c q1 q2 q3 =>
  refine Good.same (run_indexArr ht hd h0 hn _ _ w) ?_ hI
  refine .ep _ b (o + n.toNat * d.sz) (fun k => c (n.toNat * d.sz + k)) (fun k hk => ?_) (fun k hk => by simpa using q2 (n.toNat * d.sz + k) (by simp at hk; omega)) (fun k hk => by simpa using q3 (n.toNat * d.sz + k) (by simp at hk; omega))
  have := q1 (n.toNat * d.sz + k) (by simp at hk; omega)
  rwa [← Nat.add_assoc] at this
theorem indexAg_good {t e : TypeId} {l : Nat} {d : TD} (hu : P.underlying t = some (.array l e)) (hd : tdat P e = some d) (hI : Inv G m w) {xs : List PV} {y : Value} (h : Rep G w (.ag xs) y) {k : IntKind} {n : Int} (h0 : 0 ≤ n) (hn : n.toNat < l)
    (hfit : if d.agg then n.toNat * d.sz + d.sz ≤ xs.length else n.toNat * d.sz < xs.length) :
    Good G w ((Instr.index t y (.int k n)).run P w) (if d.agg then .ag (seg xs (n.toNat * d.sz) d.sz) else xs.getD (n.toNat * d.sz) .junk) m := by
 obtain ⟨ti, td, h1, h2, h3, h4, _, h6, _⟩ := info_of hd
 have hlt : n < (l : Int) := by omega
 cases h with
 | ag _ cs hlen hr hone =>
 by_cases hag : d.agg = true
 ·rw [if_pos hag] at hfit ⊢
  refine Good.same (y := .agg (cs.toArray.extract (n.toNat * d.sz) (n.toNat * d.sz + d.sz))) ?_ ?_ hI
  ·simp only [Instr.index, Sem.run_bind, asIntOf, Sem.run_pure, Result.andThen_ok, run_underlying hu, h0, hlt, and_self, if_true, run_sizeOf h1, h4, Go.part, run_isAgg h2, h6, hag]
  ·have : cs.toArray.extract (n.toNat * d.sz) (n.toNat * d.sz + d.sz) = ((cs.drop (n.toNat * d.sz)).take d.sz).toArray := by apply Array.ext'; simp [List.drop_take]
   rw [this]
   exact .ag _ _ (by simp [seg, hlen]) (fun j a b => by simp only [seg, List.getElem_take, List.getElem_drop]; exact hr _ _ _) (fun u hu => hone u (List.mem_of_mem_drop (List.mem_of_mem_take hu)))
 ·rw [if_neg hag] at hfit ⊢
  have hag' : d.agg = false := by simpa using hag
  refine Good.same (y := cs[n.toNat * d.sz]'(hlen ▸ hfit)) ?_ ?_ hI
  ·simp only [Instr.index, Sem.run_bind, asIntOf, Sem.run_pure, Result.andThen_ok, run_underlying hu, h0, hlt, and_self, if_true, run_sizeOf h1, h4, Go.part, run_isAgg h2, h6, hag']
   simp [hlen ▸ hfit]
  ·have := hr (n.toNat * d.sz) hfit (hlen ▸ hfit)
   simpa [List.getD, hfit] using this

theorem aInt_rep {x : PV} {y : Value} {n : Int} (h : Rep G w x y) (hx : aInt x = some n) : ∃ k, y = .int k n := by
 cases x with
 | v a =>
  obtain rfl := h.atomEq
  cases y <;> simp [aInt] at hx
  subst hx
  exact ⟨_, rfl⟩
 | _ => simp [aInt] at hx

theorem run_sliceBounds (isSlice : Bool) (len cap : Nat) {lo hi : Option Value} {l h : Nat} (hlo : (lo = none ∧ l = 0) ∨ ∃ k, lo = some (.int k l)) (hhi : (hi = none ∧ h = len) ∨ ∃ k, hi = some (.int k h)) (h1 : l ≤ h) (h2 : h ≤ cap) (w : World) :
    (Instr.sliceBounds isSlice len cap lo hi none).run P w = .ok (l, h, cap) w := by
 have e1 : (0 : Int) ≤ (h : Int) ∧ (h : Int) ≤ (cap : Int) := ⟨by omega, by omega⟩
 have e2 : (0 : Int) ≤ (l : Int) ∧ (l : Int) ≤ (h : Int) := ⟨by omega, by omega⟩
 rcases hlo with ⟨rfl, rfl⟩ | ⟨k, rfl⟩ <;> rcases hhi with ⟨rfl, rfl⟩ | ⟨k', rfl⟩ <;>
  simp [Instr.sliceBounds, Instr.sliceBound, asIntOf, h1, h2]

theorem sliceSl_good {t e : TypeId} (ht : P.underlying t = some (.slice e)) {d : TD} (hd : tdat P e = some d) (hI : Inv G m w) {o : Own} {xs : List PV} {y : Value} (hx : Rep G w (.sl o xs) y) (hsz : ∀ x ∈ xs, x.cells.length = d.sz)
    {lo hi : Option Value} {l h : Nat} (hlo : (lo = none ∧ l = 0) ∨ ∃ k, lo = some (.int k l)) (hhi : (hi = none ∧ h = xs.length) ∨ ∃ k, hi = some (.int k h)) (h1 : l ≤ h) (h2 : h ≤ xs.length) {o' : Own} (ho : o' = .no ∨ (o' = o ∧ h = xs.length)) :
    Good G w ((Instr.sliceAt t y lo hi none).run P w) (.sl o' ((xs.take h).drop l)) m := by
 obtain ⟨ti, td, k1, k2, k3, k4, _⟩ := info_of hd
 rcases sl_inv hx with ⟨⟨ao, rfl⟩, rfl, a0⟩ | ⟨b, off, cap, sz, cs, rfl, a1, a2, a3, a4, a5, a6, a7, a8⟩
 ·have hh : h = 0 := by simpa using h2
  subst hh
  obtain rfl : l = 0 := by omega
  have hb := run_sliceBounds (P := P) true 0 0 (lo := lo) (hi := hi) hlo (by simpa using hhi) (Nat.le_refl _) (Nat.le_refl _) w
  refine Good.same (y := .slice ao 0 0) ?_ (.snil _ _ (fun t h => by
   rcases ho with rfl | ⟨rfl, _⟩
   ·cases h
   ·exact a0 t h)) hI
  simp only [Instr.sliceAt, Instr.slice, Sem.run_bind, run_underlying ht, Result.andThen_ok, hb, run_sizeOf k1, if_true, Nat.sub_self, Sem.run_pure]
 ·have hb := run_sliceBounds (P := P) true xs.length cap (lo := lo) (hi := hi) hlo hhi h1 (Nat.le_trans h2 a5) w
  have hcl : cs.length = xs.length * d.sz := by rw [← a3.len, flat_len _ _ _ hsz]
  have hlen : ((xs.take h).drop l).length = h - l := by simp; omega
  by_cases hm : cap = l
  ·have hhl : h = l := by omega
   refine Good.same (y := .slice (some ⟨b, off, none⟩) (h - l) (cap - l)) ?_ ?_ hI
   ·rw [hm] at hb
    simp only [Instr.sliceAt, Instr.slice, Sem.run_bind, run_underlying ht, Result.andThen_ok, hm, hb, run_sizeOf k1, if_true, Sem.run_pure, Nat.sub_self]
   ·have hnil : (xs.take h).drop l = [] := List.eq_nil_of_length_eq_zero (by omega)
    rw [hnil, hhl, hm, Nat.sub_self]
    refine .snil _ _ (fun t ht => ?_)
    rcases ho with rfl | ⟨rfl, hlen2⟩
    ·cases ht
    ·obtain ⟨b1, b2⟩ := a8 t ht
     refine ⟨b1, ?_⟩
     rw [b2, show cap = xs.length by omega]
     exact Nat.lt_irrefl _
  ·refine Good.same (y := .slice (some ⟨b, off + l * ti.size, none⟩) (h - l) (cap - l)) ?_ ?_ hI
   ·simp only [Instr.sliceAt, Instr.slice, Sem.run_bind, run_underlying ht, Result.andThen_ok, hb, run_sizeOf k1, hm, if_false, Option.map_some, Addr.add_lit, Sem.run_pure]
   ·rw [k4]
    have hsub : ∀ x ∈ (xs.take h).drop l, x ∈ xs := fun x hx => List.mem_of_mem_take (List.mem_of_mem_drop hx)
    have hfl : ((xs.take h).drop l).flatMap PV.cells = ((xs.flatMap PV.cells).take (h * d.sz)).drop (l * d.sz) := by
     have gen : ∀ (l' : List PV) (n : Nat), (∀ x ∈ l', x.cells.length = d.sz) → (l'.take n).flatMap PV.cells = (l'.flatMap PV.cells).take (n * d.sz) ∧ (l'.drop n).flatMap PV.cells = (l'.flatMap PV.cells).drop (n * d.sz) := by
      intro l'
      induction l' with
      | nil => intro n _; simp
      | cons x l' ih =>
       intro n hx
       cases n with
       | zero => simp
       | succ n =>
        have hx0 := hx x (by simp)
        obtain ⟨i1, i2⟩ := ih n (fun y hy => hx y (by simp [hy]))
        refine ⟨?_, ?_⟩
        ·rw [List.take_succ_cons, List.flatMap_cons, List.flatMap_cons, i1, Nat.add_mul, Nat.one_mul, List.take_append, hx0]
         rw [show n * d.sz + d.sz - d.sz = n * d.sz by omega, List.take_of_length_le (l := x.cells) (by omega)]
        ·rw [List.drop_succ_cons, List.flatMap_cons, i2, Nat.add_mul, Nat.one_mul, List.drop_append, hx0]
         rw [show n * d.sz + d.sz - d.sz = n * d.sz by omega, List.drop_eq_nil_of_le (as := x.cells) (by omega), List.nil_append]
     rw [(gen (xs.take h) l (fun x hx => hsz x (List.mem_of_mem_take hx))).2, (gen xs h hsz).1]
    rcases Nat.eq_zero_or_pos xs.length with hz | hz
    ·have hxn : xs = [] := List.eq_nil_of_length_eq_zero hz
     subst hxn
     obtain rfl : h = 0 := by simpa using h2
     obtain rfl : l = 0 := by omega
     rw [Nat.zero_mul, Nat.add_zero, Nat.sub_zero, Nat.sub_zero]
     rcases ho with rfl | ⟨rfl, _⟩
     ·exact hx.settle
     ·exact hx
    have hsd : sz = d.sz := by rw [← a1 xs[0] (List.getElem_mem hz)]; exact hsz _ (List.getElem_mem hz)
    have := slice_rep (G := G) (w := w) (xs := (xs.take h).drop l) (cs := (cs.take (h * d.sz)).drop (l * d.sz)) (b := b) (off := off + l * d.sz) (cap := cap - l) (sz := d.sz) (o := o') (fun x hx => hsz x (hsub x hx)) (fun x hx => a2 x (hsub x hx))
     (by rw [hfl]; exact (a3.take _).drop _) (fun k hk => by
      have hk2 : k < min (h * d.sz) cs.length - l * d.sz := by rw [List.length_drop, List.length_take] at hk; exact hk
      have hk' : l * d.sz + k < cs.length := by omega
      obtain ⟨q1, q2⟩ := a4 _ hk'
      rw [Nat.add_assoc]
      refine ⟨by rw [q1, List.getElem?_drop, List.getElem?_take_of_lt (by omega)], q2⟩) (by rw [hlen]; omega) (by omega) (fun hf => by
       rcases ho with rfl | ⟨rfl, hl2⟩
       ·cases hf
       ·rw [hlen, a7 hf]; omega) (fun t ht => by
       rcases ho with rfl | ⟨rfl, hl2⟩
       ·cases ht
       ·obtain ⟨b1, b2⟩ := a8 t ht
        refine ⟨b1, ?_⟩
        rw [b2, hlen, hsd, hl2]
        have e1 : (xs.length - l) * d.sz + l * d.sz = xs.length * d.sz := by rw [← Nat.add_mul]; congr 1; omega
        have e2 : (cap - l) * d.sz + l * d.sz = cap * d.sz := by rw [← Nat.add_mul]; congr 1; omega
        simp only [Res.mk.injEq, true_and, and_true]
        omega)
    rwa [hlen] at this

theorem sliceStr_good {t : TypeId} (ht : P.underlying t = some .string) (hI : Inv G m w) (s : ByteArray) {lo hi : Option Value} {l h : Nat} (hlo : (lo = none ∧ l = 0) ∨ ∃ k, lo = some (.int k l)) (hhi : (hi = none ∧ h = s.size) ∨ ∃ k, hi = some (.int k h)) (h1 : l ≤ h) (h2 : h ≤ s.size) :
    Good G w ((Instr.sliceAt t (.string s) lo hi none).run P w) (.v (.string (s.extract l h))) m := by
 have hb := run_sliceBounds (P := P) false s.size s.size (lo := lo) (hi := hi) hlo hhi h1 h2 w
 refine Good.same (y := .string (s.extract l h)) ?_ (.v rfl) hI
 simp only [Instr.sliceAt, Instr.slice, Sem.run_bind, run_underlying ht, Result.andThen_ok, hb, Sem.run_pure, Option.isSome_none, Bool.false_eq_true, if_false]

theorem run_index_str {t : TypeId} (ht : P.underlying t = some .string) (s : ByteArray) (k : IntKind) {n : Int} (h0 : 0 ≤ n) (hn : n.toNat < s.size) (w : World) :
    (Instr.index t (.string s) (.int k n)).run P w = .ok (.int .u8 (s.data.toList.getD n.toNat 0).toNat) w := by
 have hs : s[n.toNat]? = some s[n.toNat] := getElem?_pos s n.toNat hn
 have hd : s.data.toList.getD n.toNat 0 = s[n.toNat] := by
  have : n.toNat < s.data.toList.length := by simpa using hn
  rw [List.getD, List.getElem?_eq_getElem this]
  rfl
 simp only [Instr.index, Sem.run_bind, asIntOf, Sem.run_pure, Result.andThen_ok, run_underlying ht, h0, if_true, hs, hd]
end
end Go.Proofs.YthhhnfjcaicjnaaGreatDoor
