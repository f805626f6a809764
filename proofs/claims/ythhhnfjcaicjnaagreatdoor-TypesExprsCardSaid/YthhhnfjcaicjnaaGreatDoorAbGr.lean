/-
 Slices that grow in a box of their own: what an operation does on values without addresses, the model's does.
-/
-- halved
import Derived.Test.YthhhnfjcaicjnaaGreatDoorAbS7
import Derived.Laws.MakeOwn
set_option linter.unusedVariables false
set_option linter.unusedSimpArgs false
namespace Go.Proofs.YthhhnfjcaicjnaaGreatDoor
open Go Go.RowKit

section
variable {P : Program} {G : Ghost} {w : World} {m : M} {f : F} {a : Act} {o : Oper}
theorem setCells_heap (b : Nat) (e : TypeId) : ∀ (vs : List Value) (o : Nat) (w : World) (cs : List Value), w.heap[b]? = some (.cells cs.toArray e (0, 0)) → o + vs.length ≤ cs.length → (w.setCells b o vs).heap[b]? = some (.cells (spliceV cs o vs).toArray e (0, 0))
 | [], o, w, cs, h, hl => by
  rw [show w.setCells b o [] = w from rfl, h]
  simp [spliceV]
 | v :: vs, o, w, cs, h, hl => by
  have h1 := heap_setCell_same w b o cs.toArray e v h
  rw [show cs.toArray.setIfInBounds o v = (cs.set o v).toArray by simp] at h1
  have h2 := setCells_heap b e vs (o + 1) (w.setCell ⟨b, o, none⟩ v) (cs.set o v) h1 (by simp at hl ⊢; omega)
  rw [show w.setCells b o (v :: vs) = (w.setCell ⟨b, o, none⟩ v).setCells b (o + 1) vs from rfl, h2]
  have hol : o < cs.length := by simp at hl; omega
  congr 2
  unfold spliceV
  have e1 : (cs.set o v).take (o + 1) = cs.take o ++ [v] := by
   rw [List.take_add_one, List.take_set_of_le (Nat.le_refl _)]
   simp [hol]
  have e2 : (cs.set o v).drop (o + 1 + vs.length) = cs.drop (o + (v :: vs).length) := by
   rw [List.drop_set_of_lt (by omega)]
   congr 1
   simp; omega
  rw [e1, e2]
  simp
theorem zeroCells_one {z : Array Value} {n : Nat} (h : ∀ u ∈ z.toList, u.oneCell' = true) : ∀ u ∈ (Builtin.zeroCells z n).toList, u.oneCell' = true := fun u hu => by
 unfold Builtin.zeroCells at hu
 simp only [Array.toList_map, List.mem_map, Array.mem_toList_iff, Array.mem_range] at hu
 obtain ⟨i, hi, rfl⟩ := hu
 have hz : 0 < z.size := by
  rcases Nat.eq_zero_or_pos z.size with h0 | h0
  ·rw [h0] at hi; simp at hi
  ·exact h0
 have hlt := Nat.mod_lt i hz
 rw [getElem!_pos z _ hlt]
 exact h _ (by simp)
theorem gSrc_of {t' : TypeId} {td : TypeDesc} {i : TypeInfo} {s : Nat} {y : PV} {v : Value} {p : Prop} {k : Nat} {new : List PV} (hI : Inv G m w) (ht : P.underlying t' = some td) (htd : isSlT td = true) (hy : Rep G w y v) (he : gSrc m y s = some (p, k, new)) (hp : p) (hsi : i.size = s) :
    new.length = k * s ∧ ∃ news, Src P i.size t' v k news w ∧ RL G w new news := by
 obtain ⟨e', rfl⟩ : ∃ e', td = .slice e' := by cases td <;> simp [isSlT] at htd; exact ⟨_, rfl⟩
 have boxed : ∀ (id off len cap : Nat) (c : List PV), m.get id = some c → G.mp id = false → off + len * s ≤ c.length → v = .slice (some ⟨G.box id, off, none⟩) len cap →
     ((c.drop off).take (len * s)).length = len * s ∧ ∃ news, Src P i.size t' v len news w ∧ RL G w ((c.drop off).take (len * s)) news := by
  rintro id off len cap c hg hm hle rfl
  obtain ⟨cs, e, k1, k2, k3, k4, k5⟩ := hI.boxC hg hm
  have hlen : ((cs.drop off).take (len * s)).length = len * s := by simp; omega
  have hlen2 : ((c.drop off).take (len * s)).length = len * s := by simp; omega
  refine ⟨hlen2, (cs.drop off).take (len * s), ?_, ?_⟩
  ·refine Src.ofSlice w ht ⟨G.box id, off, none⟩ len cap _ (by rw [hlen, hsi]) (fun j u hu => ?_) (fun u hu => k4 u (List.mem_of_mem_drop (List.mem_of_mem_take hu)))
   have hj : j < len * s := by
    rcases Nat.lt_or_ge j (len * s) with h | h
    ·exact h
    ·rw [List.getElem?_eq_none (by omega)] at hu; cases hu
   rw [List.getElem?_take_of_lt hj, List.getElem?_drop] at hu
   rw [Addr.add_lit]
   simp [World.cell?, k1, hu]
  ·refine ⟨by rw [hlen, hlen2], fun j a b => ?_, fun u hu => k4 u (List.mem_of_mem_drop (List.mem_of_mem_take hu))⟩
   simp only [List.getElem_take, List.getElem_drop]
   exact k3 _ _ _
 cases y with
 | sl o ys =>
  simp only [gSrc, Option.some.injEq, Prod.mk.injEq] at he
  obtain ⟨rfl, rfl, rfl⟩ := he
  obtain ⟨news, h1, h2, _⟩ := src_of hI ht hy (show elems m (.sl o ys) = some ys from rfl) hp hsi rfl
  exact ⟨flat_len _ _ _ hp, news, h1, h2⟩
 | bs id off len =>
  simp only [gSrc] at he
  split at he
  ·rename_i c hg
   cases he
   cases hy with
   | bs _ _ _ cap hid hm hcap hmax => exact boxed id off k cap c hg hm hp rfl
  ·cases he
 | gs id len cap =>
  simp only [gSrc] at he
  split at he
  ·rename_i c hg
   cases he
   cases hy with
   | gs _ _ _ hid hm hcap hmax => exact boxed id 0 k cap c hg hm (by omega) rfl
  ·cases he
 | _ => simp [gSrc] at he
theorem new_gs {w' : World} {e : TypeId} {c : List PV} {cs : List Value} (n cap : Nat) (hn : n ≤ cap) (hc : cap ≤ maxLen) (hI : Inv G m w) (h : RL G w c cs) (hw : Pushed w w' (.cells cs.toArray e)) :
    ∃ G', Rep G' w' (.gs m.nb n cap) (.slice (some ⟨w.heap.size, 0, none⟩) n cap) ∧ Inv G' (m.push c) w' ∧ Ext G w G' w' := by
 obtain ⟨G', ⟨h1, hm⟩, h2, h3, h4⟩ := new_box hI h hw
 refine ⟨G', ?_, h3, h4⟩
 rw [← h2]
 have hnb : m.nb = G.nb := hI.nb
 exact .gs _ _ _ (by omega) hm hn hc
theorem grow_good {t t' e ty : TypeId} {d : TD} {i : TypeInfo} {base : Option Addr} {len cap k : Nat} {old new : List PV} {olds news : List Value} {v' : Value} (hu : P.underlying t = some (.slice e)) (hi : P.info? e = some i) (hz : i.zero = some d.zero) (hs : i.size = d.sz) (hb : i.bytes = d.by_) (hzc : d.zero.cells.size = d.sz)
    (hone : (ofV d.zero).cells.all PV.one = true) (hI : Inv G m w) (hold : (Builtin.firstCells i.size len (.slice base len cap)).run P w.drew = .ok olds.toArray w.drew) (hro : RL G w old olds) (hol : old.length = len * d.sz) (hsrc : Src P i.size t' v' k news w) (hnew : RL G w new news) (hnl : new.length = k * d.sz)
    (hg : cap < len + k) (hmax : len + k ≤ maxLen) (hby : (len + k) * d.by_ ≤ 140737488355328) :
    ∃ cap' c', len + k ≤ cap' ∧ c'.length = cap' * d.sz ∧ c'.take ((len + k) * d.sz) = old ++ new ∧ (∀ x ∈ c'.drop ((len + k) * d.sz), x = .junk) ∧ Good G w ((Builtin.append_ #[t, t'] ty #[.slice base len cap, v']).run P w) (.gs m.nb (len + k) cap') (m.push c') := by
 have hrun := run_append_grow_src (P := P) w t t' ty e i d.zero hu hi hz base len cap olds hold v' k news hsrc hg (by unfold maxLen at hmax; omega) (growslice_of hg (by rw [hb]; exact hby))
 have hge := grownCap_ge w (len + k) cap e
 have hle := grownCap_le_maxLen w (len + k) cap e hmax
 generalize grownCap w (len + k) cap e = cap' at *
 have hz1 : ∀ u ∈ d.zero.cells.toList, u.oneCell' = true := ((ofV_rep G w d.zero).rl hone).one
 let sp : List Value := (Builtin.zeroCells d.zero.cells (cap' - (len + k))).toList
 have hsp : sp.length = (cap' - (len + k)) * d.sz := by
  show (Builtin.zeroCells d.zero.cells (cap' - (len + k))).toList.length = _
  rw [Array.length_toList, size_zeroCells, hzc]
 have hj : RL G w (List.replicate sp.length .junk) sp := ⟨by simp, fun j q1 q2 => by simp only [List.getElem_replicate]; exact .junk _, zeroCells_one hz1⟩
 have hrl := (hro.append hnew).append hj
 have hpush : Pushed w (w.drew.alloc (.cells ((olds ++ news).toArray ++ Builtin.zeroCells d.zero.cells (cap' - (len + k))) e)) (.cells (olds ++ news ++ sp).toArray e) := by
  have h0 := (Pushed.alloc w.drew (.cells ((olds ++ news).toArray ++ Builtin.zeroCells d.zero.cells (cap' - (len + k))) e)).drew
  have e1 : (olds ++ news).toArray ++ Builtin.zeroCells d.zero.cells (cap' - (len + k)) = (olds ++ news ++ sp).toArray := by
   apply Array.ext'
   simp [sp]
  rw [e1] at h0 ⊢
  exact h0
 obtain ⟨G', g1, g2, g3⟩ := new_gs (len + k) cap' hge hle hI hrl hpush
 have hml : (len + k) * d.sz = len * d.sz + k * d.sz := Nat.add_mul _ _ _
 have hmc : cap' * d.sz = (len + k) * d.sz + (cap' - (len + k)) * d.sz := by rw [← Nat.add_mul]; congr 1; omega
 refine ⟨cap', old ++ new ++ List.replicate sp.length .junk, hge, by simp only [List.length_append, List.length_replicate, hol, hnl, hsp]; omega, ?_, ?_, _, _, G', hrun, g1, g2, g3⟩
 case refine_2 =>
  intro x hx
  rw [List.drop_append_of_le_length (by simp only [List.length_append, hol, hnl]; omega), List.drop_of_length_le (by simp only [List.length_append, hol, hnl]; omega), List.nil_append] at hx
  exact List.eq_of_mem_replicate hx
 rw [List.take_append_of_le_length (by simp only [List.length_append, hol, hnl]; omega), List.take_of_length_le (by simp only [List.length_append, hol, hnl]; omega)]
def AR.fits (P : Program) (G : Ghost) (w : World) (r : Result Next) : AR → Prop
 | .ok p v m' => p → Stepped P G w r v m'
 | .alt p S => p → ∃ v m', S v m' ∧ Stepped P G w r v m'
 | .bad => True
 | _ => False
theorem gApp_fits {t t' ty : TypeId} {id len cap : Nat} {y : PV} {u v' : Value} {cc : Array Bool} (hI : Inv G m w) (hx : Rep G w (.gs id len cap) u) (hy : Rep G w y v') : (gApp P t t' id len cap y m).fits P G w ((builtin .append #[t, t'] ty cc #[u, v']).run P w) := by
 unfold gApp
 split
 ·rename_i e td he ht'
  split
  ·rename_i d hd
   split
   ·rename_i c p k new hc hsr
    split
    ·rename_i hsl
     rintro ⟨⟨hcl, hlc, hone⟩, hp, hmax, hby⟩
     obtain ⟨i, td', hi, _, hz, hs, hb, _, hzc⟩ := info_of hd
     have hu := under_of he
     obtain ⟨hnl, news, hsrc, hnew⟩ := gSrc_of hI ht' hsl hy hsr hp hs
     cases hx with
     | gs _ _ _ hid hm hcap hmaxc =>
     obtain ⟨cs, e0, k1, k2, k3, k4, k5⟩ := hI.boxC hc hm
     have hlc2 : len * d.sz ≤ cap * d.sz := Nat.mul_le_mul_right _ hlc
     have hcc : RL G w c cs := ⟨k2, k3, k4⟩
     have hml : (len + k) * d.sz = len * d.sz + k * d.sz := Nat.add_mul _ _ _
     by_cases hroom : len + k ≤ cap
     ·have hfit : (len + k) * d.sz ≤ cap * d.sz := Nat.mul_le_mul_right _ hroom
      have hnn : news.length = k * d.sz := by rw [hsrc.newsLen, hs]
      have hcell : ∀ j, j < news.length → (w.cell? ⟨G.box id, 0 + len * i.size + j, none⟩).isSome = true := fun j hj => by
       have : len * d.sz + j < cs.length := by omega
       rw [hs]
       simp [World.cell?, k1, this]
      have hfrz : ∀ j, j < news.length → w.frozen? ⟨G.box id, 0 + len * i.size + j, none⟩ = false := fun j hj => by
       simp [World.frozen?, k1]
      have hrun := run_append_room_src (P := P) w t t' ty e i hu hi (G.box id) 0 len cap v' k news hsrc hroom hcell hfrz
      rw [Nat.zero_add, hs] at hrun
      have hrow := setCells_rowed (G.box id) news (len * d.sz) w
      have hsp := hcc.spl hnew (len * d.sz)
      obtain ⟨hE, hI'⟩ := hI.store (c' := splice c (len * d.sz) new) hc hm hrow (spliceV cs (len * d.sz) news) e0 (setCells_heap _ e0 news _ w cs k1 (by omega)) hsp.len hsp.rep hsp.one
      refine ⟨_, _, ⟨id, cap, splice c (len * d.sz) new, rfl, hroom, ?_, ?_, ?_, .inl ⟨rfl, rfl⟩⟩, Good.stepped (s := Builtin.append_ #[t, t'] ty _) ⟨_, _, G, hrun, ?_, hI', hE⟩⟩
      ·unfold splice
       rw [splice_length c new _ (by omega)]; exact hcl
      ·unfold splice
       have h1 : (c.take (len * d.sz) ++ new).length = (len + k) * d.sz := by rw [List.length_append, List.length_take, hnl]; omega
       rw [List.take_append_of_le_length (by omega), List.take_of_length_le (by omega)]
      ·intro x hx
       unfold splice at hx
       have h1 : (c.take (len * d.sz) ++ new).length = (len + k) * d.sz := by rw [List.length_append, List.length_take, hnl]; omega
       rw [List.drop_append_of_le_length (by omega), List.drop_of_length_le (by omega), List.nil_append] at hx
       exact .inr (List.mem_of_mem_drop hx)
      ·exact .gs id (len + k) cap hid hm hroom hmaxc
     ·obtain ⟨cap', c', q1, q2, q3, q5, q4⟩ := grow_good (ty := ty) (base := some ⟨G.box id, 0, none⟩) (old := c.take (len * d.sz)) (olds := cs.take (len * d.sz)) hu hi hz hs hb hzc hone hI
        (run_firstCells_some (P := P) w.drew i.size len ⟨G.box id, 0, none⟩ len cap (cs.take (len * d.sz)) (by rw [List.length_take, hs]; omega) (fun j u hu' => by
         have hj : j < len * d.sz := by
          rcases Nat.lt_or_ge j (len * d.sz) with h | h
          ·exact h
          ·rw [List.getElem?_eq_none (by rw [List.length_take]; omega)] at hu'; cases hu'
         rw [List.getElem?_take_of_lt hj] at hu'
         rw [Addr.add_lit]
         show w.cell? _ = _
         simp [World.cell?, k1, hu'])) (hcc.take _) (by rw [List.length_take]; omega) hsrc hnew hnl (by omega) hmax hby
      exact ⟨_, _, ⟨m.nb, cap', c', rfl, q1, q2, q3, fun x hx => .inl (q5 x hx), .inr ⟨rfl, rfl⟩⟩, Good.stepped (s := Builtin.append_ #[t, t'] ty _) q4⟩
    ·trivial
   ·trivial
  ·trivial
 ·trivial
theorem gAppN_fits {t t' ty : TypeId} {y : PV} {u v' : Value} {cc : Array Bool} (hI : Inv G m w) (hx : Rep G w (.sl .full []) u) (hy : Rep G w y v') : (gAppN P t t' y m).fits P G w ((builtin .append #[t, t'] ty cc #[u, v']).run P w) := by
 unfold gAppN
 split
 ·rename_i e td he ht'
  split
  ·rename_i d hd
   split
   ·rename_i p k new hsr
    split
    ·rename_i hsl
     rintro ⟨hone, hp, hmax, hby⟩
     obtain ⟨i, td', hi, _, hz, hs, hb, _, hzc⟩ := info_of hd
     have hu := under_of he
     obtain ⟨hnl, news, hsrc, hnew⟩ := gSrc_of hI ht' hsl hy hsr hp hs
     obtain ⟨ao, rfl⟩ : ∃ ao, u = .slice ao 0 0 := by
      rcases sl_inv hx with ⟨⟨ao, rfl⟩, _, _⟩ | ⟨b, off, cap, sz, cs, rfl, a1, a2, a3, a4, a5, a6, a7, a8⟩
      ·exact ⟨_, rfl⟩
      ·have := a7 rfl
       subst this
       exact ⟨_, rfl⟩
     by_cases h0 : k = 0
     ·subst h0
      have hn0 : news = [] := List.eq_nil_of_length_eq_zero (by rw [hsrc.newsLen]; simp)
      subst hn0
      have hrun := run_append_nothing (P := P) w t t' ty e i hu hi ao 0 0 (Nat.le_refl _) v' hsrc
      exact ⟨_, _, .inl ⟨rfl, rfl, rfl⟩, Good.stepped (s := Builtin.append_ #[t, t'] ty _) (Good.same hrun (.snil _ ao (fun t ht => by cases ht)) hI)⟩
     ·obtain ⟨cap', c', q1, q2, q3, q5, q4⟩ := grow_good (ty := ty) (base := ao) (len := 0) (cap := 0) (k := k) (old := []) (olds := []) hu hi hz hs hb hzc hone hI (by
        cases ao with
        | none => exact run_firstCells_none w.drew i.size 0 0 0
        | some ad => exact run_firstCells_some (P := P) w.drew i.size 0 ad 0 0 [] (by simp) (fun j u hu => by simp at hu)) RL.nil (by simp) hsrc hnew hnl (by omega) (by omega) (by rw [Nat.zero_add]; exact hby)
      rw [Nat.zero_add] at q1 q3 q4 q5
      exact ⟨_, _, .inr ⟨by omega, cap', c', rfl, q1, q2, q3, q5, rfl⟩, Good.stepped (s := Builtin.append_ #[t, t'] ty _) q4⟩
    ·trivial
   ·trivial
  ·trivial
 ·trivial
theorem made_repl' (z : Value) (n : Nat) : madeCells #[z] n = (List.replicate n z).toArray := Array.toList_inj.1 (by rw [toList_madeCells_one])
theorem grow_sound (hI : Inv G m w) (hF : FR G w f a.tmps) {mu : Bool} {r : AR} (h : aGrow P mu o.op f m = some r) : r.fits P G w ((execOp a.eval o).run P w) := by
 obtain ⟨dst, op, ty, pos, after, guard⟩ := o
 simp only at h
 cases op <;> simp only [aGrow, reduceCtorEq] at h
 case makeSlice t l c =>
  have hl := ev_rep hF l
  have hc := ev_rep hF c
  cases h
  split
  ·unfold gMk
   split
   ·rename_i e n n' he hel hec
    split
    ·rename_i d hd
     rintro ⟨⟨h0, hnn, hmax, hby⟩, hsz, hone, hzc⟩
     have hnn' := hnn.symm
     subst hnn'
     rw [hel] at hl
     rw [hec] at hc
     have e1 := hl.atomEq
     have e2 := hc.atomEq
     obtain ⟨i, td', hi, _, hz, hs, hb, _, _⟩ := info_of hd
     obtain ⟨k, rfl⟩ : ∃ k : Nat, n = k := ⟨n.toNat, by omega⟩
     have hrun := run_make (P := P) w t e i d.zero (under_of he) hi hz .i64 .i64 k k h0 (Int.le_refl _) (by rw [hb]; omega) (by unfold maxLen at hmax; omega)
     simp only [Int.toNat_natCast] at hrun ⊢
     rw [hs, hsz, Nat.mul_one, hzc, made_repl'] at hrun
     have hrl : RL G w (List.replicate k (ofV d.zero)) (List.replicate k d.zero) := by
      refine ⟨by simp, fun j q1 q2 => ?_, fun u hu => ?_⟩
      ·simp only [List.getElem_replicate]; exact ofV_rep G w d.zero
      ·rw [List.eq_of_mem_replicate hu]; exact (ofV_rep G w d.zero).one hone
     obtain ⟨G', g1, g2, g3⟩ := new_bs (e := e) k (by omega) hI hrl (Pushed.alloc w (.cells (List.replicate k d.zero).toArray e))
     refine Good.stepped (s := Instr.makeSlice t (a.eval l) (a.eval c)) ?_
     rw [e1, e2]
     exact ⟨_, _, G', hrun, g1, g2, g3⟩
    ·trivial
   ·trivial
  ·trivial
 case indexAddr t x i =>
  have hx := ev_rep hF x
  have hi := ev_rep hF i
  unfold gIx at h
  split at h
  ·rename_i id len cap hev
   cases h
   split
   ·rename_i kk n e hei he
    split
    ·rename_i d hd
     rintro ⟨h0, hn⟩
     rw [hev] at hx
     rw [hei] at hi
     have e1 := hi.atomEq
     refine Good.stepped (s := Instr.indexAt t (a.eval x) (a.eval i)) ?_
     rw [e1]
     obtain ⟨ti, td, h1, h2, h3, h4, _⟩ := info_of hd
     revert hx
     generalize a.eval x = ax
     intro hx
     cases hx with
     | gs _ _ _ hid hm hcap hmax =>
     have hlt : n < (len : Int) := by omega
     refine Good.same (y := .pointer (some ⟨G.box id, n.toNat * d.sz, none⟩)) ?_ (.bp _ _ hid hm) hI
     simp only [Instr.indexAt, Sem.run_bind, asIntOf, Sem.run_pure, Result.andThen_ok, run_underlying (under_of he), h0, hlt, and_self, if_true, run_sizeOf h1, h4, Addr.add_lit, Nat.zero_add]
    ·trivial
   ·trivial
  ·cases h
 case binOp op t x y yt =>
  have hx := ev_rep hF x
  split at h
  ·rename_i hny
   unfold gNil at h
   split at h
   ·rename_i o' xs hev
    cases h
    intro hp
    rw [hev] at hx
    have hy := isNilS_eval hny a
    obtain ⟨e, he⟩ : ∃ e, P.underlying t = some (.slice e) := by
     unfold sliceT at hp
     split at hp
     ·exact ⟨_, by assumption⟩
     ·cases hp
    obtain ⟨ax, hax⟩ : ∃ ax, a.eval x = ax := ⟨_, rfl⟩
    rw [hax] at hx
    have hc : ∃ (ao : Option Addr) (l c : Nat), ax = .slice ao l c ∧ (ao = none → xs = []) := by
     rcases sl_inv hx with ⟨⟨ao, rfl⟩, rfl, _⟩ | ⟨b, off, cap, sz, cs, rfl, _⟩
     ·exact ⟨ao, 0, 0, rfl, fun _ => rfl⟩
     ·exact ⟨_, _, _, rfl, fun h => by cases h⟩
    obtain ⟨ao, l, c, rfl, hnil⟩ := hc
    have key : ∀ b : Bool, (∀ d : Nat, (Op.equalIn (d + 2) t (.slice ao l c) (.slice none 0 0)).run P w = .ok b w) → (b = true → xs = []) → ∃ v m', (∃ b, v = .v (.bool b) ∧ (b = true → xs = []) ∧ m' = m) ∧ Stepped P G w ((execOp a.eval ⟨dst, .binOp .eql t x y yt, ty, pos, after, guard⟩).run P w) v m' := fun b hb hbx => by
     have hbin : (binOp .eql t (.slice ao l c) (.slice none 0 0)).run P w = .ok (.bool b) w := by
      simp only [binOp]
      simp [Op.equal, Op.maxDepth, hb 9998]
     have hg : (eqGuard .eql t x y (.slice ao l c) (.slice none 0 0)).run P w = .ok () w := eqGuard_nil (fun q => by cases q.1) (fun _ h => by cases h) w
     refine ⟨_, m, ⟨b, rfl, hbx, rfl⟩, .value (.bool b), .bool b, w, G, ?_, .inl rfl, .v rfl, hI, Ext.refl _ _⟩
     simp only [execOp, hax, hy, Sem.run_bind, hg, Result.andThen_ok, hbin, Sem.run_pure]
    cases ao with
    | none => exact key true (fun d => by simp [Op.equalIn, run_underlying he]) (fun _ => hnil rfl)
    | some ad => exact key false (fun d => by simp [Op.equalIn, run_underlying he]) (fun h => by cases h)
   ·cases h
  ·cases h
 case slice t x lo hi mx =>
  have hx := ev_rep hF x
  unfold gSl at h
  split at h
  ·rename_i id len cap hev
   cases h
   split
   ·rename_i hh e hhi he
    rintro ⟨h0, hle, hpos, hsome⟩
    rw [hev] at hx
    cases hi with
    | none => cases hhi
    | some q =>
    simp only [Option.map_some, Option.some.injEq] at hhi
    obtain ⟨kk, hk⟩ := aInt_rep (ev_rep hF q) hhi
    obtain ⟨d, hd⟩ := Option.isSome_iff_exists.1 hsome
    obtain ⟨ti, td, k1, k2, k3, k4, _⟩ := info_of hd
    refine Good.stepped (s := Instr.sliceAt t (a.eval x) (Option.map a.eval none) (Option.map a.eval (some q)) (Option.map a.eval none)) ?_
    revert hx
    generalize a.eval x = ax
    intro hx
    cases hx with
    | gs _ _ _ hid hm hcap hmax =>
    have hb := run_sliceBounds (P := P) true len cap (lo := none) (hi := some (a.eval q)) (l := 0) (h := hh.toNat) (.inl ⟨rfl, rfl⟩) (.inr ⟨kk, by rw [hk, Int.toNat_of_nonneg h0]⟩) (Nat.zero_le _) (by omega) w
    refine Good.same (y := .slice (some ⟨G.box id, 0, none⟩) hh.toNat cap) ?_ (.gs id hh.toNat cap hid hm (by omega) hmax) hI
    have hne : ¬ (cap = 0) := by omega
    simp only [Option.map_none, Option.map_some, Instr.sliceAt, Instr.slice, Sem.run_bind, run_underlying (under_of he), Result.andThen_ok, hb, run_sizeOf k1, hne, if_false, Addr.add_lit, Sem.run_pure, Nat.zero_mul, Nat.add_zero, Nat.sub_zero]
   ·trivial
  ·cases h
 case call c =>
  obtain ⟨callee, args, ats⟩ := c
  simp only at h
  cases callee with
  | builtin b =>
   simp only at h
   obtain ⟨ql, qr⟩ := reps_of hF args.toList
   have hex : (execOp a.eval ⟨dst, .call { callee := .builtin b, args := args, argTypes := ats }, ty, pos, after, guard⟩).run P w = (builtin b ats ty (args.map fun | .const _ => true | _ => false) (args.toList.map a.eval).toArray).run P w := by
    rw [show (args.toList.map a.eval).toArray = args.map a.eval by apply Array.ext'; simp]
    rfl
   rw [hex]
   clear hex
   revert ql qr
   generalize args.toList.map a.eval = vs
   generalize (args.map fun | .const _ => true | _ => false) = cc
   intro ql qr
   unfold gBu at h
   split at h
   ·rename_i id n cap heq
    cases h
    split
    ·rename_i t hts
     rintro ⟨e, he⟩
     rw [heq] at ql qr
     match vs, ql, qr with
     | [y], _, qr =>
      have h0 := qr 0 (by simp) (by simp)
      simp only [List.getElem_cons_zero] at h0
      obtain ⟨ats⟩ := ats
      simp only at hts
      subst hts
      cases h0 with
      | gs _ _ _ hid hm hcap hmax =>
      refine Good.stepped (s := Builtin.len_ #[t] ty #[.slice _ n cap]) (Good.same (y := .int .i64 n) ?_ (.v rfl) hI)
      simp [Builtin.len_, run_underlying (under_of he), goInt]
    ·trivial
   ·rename_i id len cap y heq
    cases h
    split
    ·rename_i t t' hts
     rw [heq] at ql qr
     match vs, ql, qr with
     | [u, u'], _, qr =>
      have h0 := qr 0 (by simp) (by simp)
      have h1 := qr 1 (by simp) (by simp)
      simp only [List.getElem_cons_zero, List.getElem_cons_succ] at h0 h1
      obtain ⟨ats⟩ := ats
      simp only at hts
      subst hts
      exact gApp_fits hI h0 h1
    ·trivial
   ·rename_i o' xs y heq
    split at h
    ·cases h
     split
     ·rename_i t t' hts
      rw [heq] at ql qr
      match vs, ql, qr with
      | [u, u'], _, qr =>
       have h0 := qr 0 (by simp) (by simp)
       have h1 := qr 1 (by simp) (by simp)
       simp only [List.getElem_cons_zero, List.getElem_cons_succ] at h0 h1
       obtain ⟨ats⟩ := ats
       simp only at hts
       subst hts
       exact gAppN_fits hI h0 h1
     ·trivial
    ·cases h
   ·cases h
  | value g => cases h
  | invoke g n => cases h
theorem step_sound (hI : Inv G m w) (hF : FR G w f a.tmps) {mu : Bool} {p : Prop} {v : PV} {m' : M} (h : aStep P mu o.op f m = .ok p v m') (hp : p) : Stepped P G w ((execOp a.eval o).run P w) v m' := by
 unfold aStep aOr at h
 cases hg : aGrow P mu o.op f m with
 | none => rw [hg] at h; exact step_sound0 hI hF h hp
 | some r =>
  rw [hg] at h
  have := grow_sound hI hF hg
  simp only at h
  rw [h] at this
  exact this hp
theorem call_sound (hI : Inv G m w) (hF : FR G w f a.tmps) {mu : Bool} {g : FuncId} {args : List PV} (h : aStep P mu o.op f m = .call g args) :
    ∃ vs : List Value, args.length = vs.length ∧ (∀ j (h1 : j < args.length) (h2 : j < vs.length), Rep G w args[j] vs[j]) ∧ (execOp a.eval o).run P w = (callFunc g vs.toArray).run P w := by
 unfold aStep aOr at h
 cases hg : aGrow P mu o.op f m with
 | none => rw [hg] at h; exact call_sound0 hF h
 | some r =>
  rw [hg] at h
  have := grow_sound hI hF hg
  simp only at h
  rw [h] at this
  exact this.elim
theorem alt_sound (hI : Inv G m w) (hF : FR G w f a.tmps) {mu : Bool} {p : Prop} {S : PV → M → Prop} (h : aStep P mu o.op f m = .alt p S) (hp : p) : ∃ v m', S v m' ∧ Stepped P G w ((execOp a.eval o).run P w) v m' := by
 unfold aStep aOr at h
 cases hg : aGrow P mu o.op f m with
 | none => rw [hg] at h; exact alt_sound0 hI hF h hp
 | some r =>
  rw [hg] at h
  have := grow_sound hI hF hg
  simp only at h
  rw [h] at this
  exact this hp
theorem pan_sound (hI : Inv G m w) (hF : FR G w f a.tmps) {mu : Bool} {v : PV} (h : aStep P mu o.op f m = .pan v) : ∃ y, Rep G w v y ∧ (execOp a.eval o).run P w = .halt (.panic y) w := by
 unfold aStep aOr at h
 cases hg : aGrow P mu o.op f m with
 | none => rw [hg] at h; exact pan_sound0 hF h
 | some r =>
  rw [hg] at h
  have := grow_sound hI hF hg
  simp only at h
  rw [h] at this
  exact this.elim
end
end Go.Proofs.YthhhnfjcaicjnaaGreatDoor
