/-
 Texts that belong together: AbS1, AbS2, AbS3.
-/
-- halved
import Derived.Test.YthhhnfjcaicjnaaGreatDoorAbStep
set_option linter.unusedVariables false
set_option linter.unusedSimpArgs false
namespace Go.Proofs.YthhhnfjcaicjnaaGreatDoor
open Go Go.RowKit

def FR (G : Ghost) (w : World) (f : F) (tmps : Array Value) : Prop := ∀ t, Rep G w (f t) (tmps.getD t undef)
def Good (G : Ghost) (w : World) (r : Result Value) (v : PV) (m' : M) : Prop := ∃ y w' G', r = .ok y w' ∧ Rep G' w' v y ∧ Inv G' m' w' ∧ Ext G w G' w'
theorem Good.same {G : Ghost} {w : World} {r : Result Value} {v : PV} {m : M} {y : Value} (h : r = .ok y w) (hr : Rep G w v y) (hI : Inv G m w) : Good G w r v m := ⟨y, w, G, h, hr, hI, Ext.refl _ _⟩

theorem ofCell_rep (G : Ghost) (w : World) (x : Value) : Rep G w (ofCell x) x := by
 unfold ofCell
 split
 ·exact .v ‹_›
 ·split
  ·exact .snil _ _ (fun t h => by cases h)
  ·exact .junk _
theorem ofCell_one {x : Value} (h : (ofCell x).one = true) : x.oneCell' = true := (ofCell_rep ⟨0, 0, fun _ => 0, 0, fun _ => ⟨0, 0, 0, 0⟩, fun _ _ => False, fun _ => false⟩ default x).one h
theorem ofV_rep (G : Ghost) (w : World) (x : Value) : Rep G w (ofV x) x := by
 cases x with
 | agg cs =>
  simp only [ofV]
  by_cases hall : (cs.toList.map ofCell).all PV.one = true
  ·rw [if_pos hall]
   have := Rep.ag (G := G) (w := w) (cs.toList.map ofCell) cs.toList (by simp) (fun j h1 h2 => by simpa using ofCell_rep G w _) (fun u hu => ofCell_one (List.all_eq_true.1 hall _ (List.mem_map.2 ⟨u, hu, rfl⟩)))
   rwa [Array.toArray_toList] at this
  ·rw [if_neg hall]; exact .junk _
 | _ => exact ofCell_rep G w _
theorem ev_rep {G : Ghost} {w : World} {f : F} {a : Act} (h : FR G w f a.tmps) (x : Operand) : Rep G w (ev f x) (a.eval x) := by
 cases x with
 | tmp t => exact h t
 | const v => exact ofV_rep G w v
 | global g => exact .junk _
 | func g => exact .fn _ [] [] [] [] rfl rfl (fun j h => by cases h) (fun j h => by cases h)

section
variable {P : Program} {G : Ghost} {w : World} {m : M}

theorem info_of {t : TypeId} {d : TD} (h : tdat P t = some d) : ∃ i td, P.info? t = some i ∧ P.underlying t = some td ∧ i.zero = some d.zero ∧ i.size = d.sz ∧ i.bytes = d.by_ ∧ aggD td = d.agg ∧ d.zero.cells.size = d.sz := by
 unfold tdat at h
 split at h
 ·rename_i i td h1 h2
  cases hz : i.zero with
  | none => simp [hz] at h
  | some z =>
   simp only [hz] at h
   by_cases hc : z.cells.size = i.size
   ·rw [if_pos hc] at h
    cases h
    exact ⟨i, td, h1, h2, hz, rfl, rfl, rfl, hc⟩
   ·rw [if_neg hc] at h; cases h
 ·cases h
theorem under_of {t : TypeId} {e : TypeId} (h : tel P t = some e) : P.underlying t = some (.slice e) := by
 unfold tel at h
 split at h
 ·rename_i e' h1; cases h; exact h1
 ·cases h
theorem run_isAgg {t : TypeId} {td : TypeDesc} (h : P.underlying t = some td) (w : World) : (isAgg t).run P w = .ok (aggD td) w := by
 simp only [isAgg, Sem.run_bind, run_underlying h, Result.andThen_ok]
 cases td <;> rfl
theorem run_sizeOf {t : TypeId} {i : TypeInfo} (h : P.info? t = some i) (w : World) : (sizeOf t).run P w = .ok i.size w := by
 simp [sizeOf, typeInfo, h]
theorem run_zeroValue {t : TypeId} {i : TypeInfo} {z : Value} (h : P.info? t = some i) (hz : i.zero = some z) (w : World) : (zeroValue t).run P w = .ok z w := by
 simp [zeroValue, typeInfo, h, hz]

theorem Rep.atomEq {x y : Value} (h : Rep G w (.v x) y) : y = x := by cases h; rfl

def Goodw (G : Ghost) (w : World) (r : Result Value) (v : PV) : Prop := ∃ y, r = .ok y w ∧ Rep G w v y
theorem Goodw.good {r : Result Value} {v : PV} (h : Goodw G w r v) (hI : Inv G m w) : Good G w r v m := by
 obtain ⟨y, h1, h2⟩ := h
 exact Good.same h1 h2 hI
theorem load_good {t : TypeId} {d : TD} (hd : tdat P t = some d) {b off : Nat} {xs : List PV} {c : Nat → Value} (o : Nat)
    (hc : ∀ k, k < xs.length → w.cell? ⟨b, off + k, none⟩ = some (c k)) (h1 : ∀ i (h : i < xs.length), (c i).oneCell' = true) (hr : ∀ i (h : i < xs.length), Rep G w xs[i] (c i))
    (hfit : if d.agg then o + d.sz ≤ xs.length else o < xs.length) : Goodw G w ((Instr.loadAt t (.pointer (some ⟨b, off + o, none⟩))).run P w) (partA d xs o) := by
 obtain ⟨i, td, hi, htd, hz, hs, hb, ha, _⟩ := info_of hd
 by_cases hagg : d.agg = true
 ·simp only [hagg, if_true] at hfit
  refine ⟨.agg ((List.range d.sz).map fun j => c (o + j)).toArray, ?_, ?_⟩
  ·have hl := run_loadCells (P := P) w ⟨b, off + o, none⟩ d.sz (fun j => c (o + j)) (fun j hj => by
     rw [Addr.add_lit, Nat.add_assoc]; exact hc (o + j) (by omega))
   simp [Instr.loadAt, Instr.sureAddr, loadVar, run_isAgg htd, ha, hagg, run_sizeOf hi, hs, hl]
  ·simp only [partA, hagg, if_true]
   refine .ag _ _ (by simp [seg]; omega) (fun j h1 h2 => ?_) (fun u hu => ?_)
   ·simp only [seg, List.getElem_take, List.getElem_drop, List.getElem_map, List.getElem_range]
    exact hr (o + j) _
   ·obtain ⟨j, hj, rfl⟩ := List.mem_map.1 hu
    have hj := List.mem_range.1 hj
    exact h1 (o + j) (by omega)
 ·simp only [hagg] at hfit
  have hfit' : o < xs.length := by simpa using hfit
  refine ⟨c o, ?_, ?_⟩
  ·simp [Instr.loadAt, Instr.sureAddr, loadVar, run_isAgg htd, ha, hagg, hc o hfit']
  ·simp only [partA, hagg]
   have := hr o hfit'
   simpa [List.getD, hfit'] using this

theorem ep_inv {xs : List PV} {y : Value} (h : Rep G w (.ep xs) y) : ∃ (b off : Nat) (c : Nat → Value), y = .pointer (some ⟨b, off, none⟩) ∧ (∀ k, k < xs.length → w.cell? ⟨b, off + k, none⟩ = some (c k) ∧ G.settled b (off + k)) ∧
    (∀ i (h : i < xs.length), xs[i].pure = true ∧ xs[i].one = true) ∧ (∀ i (h : i < xs.length), Rep G w xs[i] (c i)) := by
 cases h with
 | ep _ b off c hc hp hr => exact ⟨b, off, c, rfl, hc, hp, hr⟩

theorem load_epw {t : TypeId} {d : TD} (hd : tdat P t = some d) {xs : List PV} {y : Value} (h : Rep G w (.ep xs) y) (hfit : if d.agg then d.sz ≤ xs.length else 0 < xs.length) :
    Goodw G w ((Instr.loadAt t y).run P w) (partA d xs 0) := by
 obtain ⟨b, off, c, rfl, hc, hp, hr⟩ := ep_inv h
 exact load_good hd 0 (fun k hk => (hc k hk).1) (fun i hi => (hr i hi).one (hp i hi).2) hr (by simpa using hfit)
theorem load_ep {t : TypeId} {d : TD} (hd : tdat P t = some d) (hI : Inv G m w) {xs : List PV} {y : Value} (h : Rep G w (.ep xs) y) (hfit : if d.agg then d.sz ≤ xs.length else 0 < xs.length) :
    Good G w ((Instr.loadAt t y).run P w) (partA d xs 0) m := (load_epw hd h hfit).good hI

theorem load_bpw {t : TypeId} {d : TD} (hd : tdat P t = some d) (hI : Inv G m w) {id o : Nat} {xs : List PV} (hx : m.get id = some xs) {y : Value} (h : Rep G w (.bp id o) y) (hfit : if d.agg then o + d.sz ≤ xs.length else o < xs.length) :
    Goodw G w ((Instr.loadAt t y).run P w) (partA d xs o) := by
 cases h with
 | bp _ _ hid hm =>
 obtain ⟨cs, e, h1, h2, h3, h4, h5⟩ := hI.boxC hx hm
 have := load_good (P := P) (G := G) (w := w) hd (b := G.box id) (off := 0) (xs := xs) (c := fun k => cs.getD k undef) o (fun k hk => by
     simp only [World.cell?, h1, Nat.zero_add]
     simp [List.getD, h2 ▸ hk]) (fun i hi => by
     have hi' : i < cs.length := h2 ▸ hi
     simpa [List.getD, hi'] using h4 _ (List.getElem_mem hi')) (fun i hi => by
     have hi' : i < cs.length := h2 ▸ hi
     simpa [List.getD, hi'] using h3 i hi hi') hfit
 simpa using this
theorem load_bp {t : TypeId} {d : TD} (hd : tdat P t = some d) (hI : Inv G m w) {id o : Nat} {xs : List PV} (hx : m.get id = some xs) {y : Value} (h : Rep G w (.bp id o) y) (hfit : if d.agg then o + d.sz ≤ xs.length else o < xs.length) :
    Good G w ((Instr.loadAt t y).run P w) (partA d xs o) m := (load_bpw hd hI hx h hfit).good hI

theorem run_equalIn_bool {t : TypeId} (h : P.underlying t = some .bool) (d : Nat) (a b : Bool) : (Op.equalIn (d + 1) t (.bool a) (.bool b)).run P w = .ok (a == b) w := by
 simp only [Op.equalIn, Sem.run_bind, run_underlying h, Result.andThen_ok, Sem.run_pure]
theorem run_binEq_bool {t : TypeId} (h : P.underlying t = some .bool) (a b : Bool) : (binOp .eql t (.bool a) (.bool b)).run P w = .ok (.bool (a == b)) w := by
 show (do pure (.bool (← Op.equalIn (9999 + 1) t (.bool a) (.bool b))) : Sem Value).run P w = _
 simp only [Sem.run_bind, run_equalIn_bool h, Result.andThen_ok, Sem.run_pure]
theorem run_binNe_bool {t : TypeId} (h : P.underlying t = some .bool) (a b : Bool) : (binOp .neq t (.bool a) (.bool b)).run P w = .ok (.bool !(a == b)) w := by
 show (do pure (.bool !(← Op.equalIn (9999 + 1) t (.bool a) (.bool b))) : Sem Value).run P w = _
 simp only [Sem.run_bind, run_equalIn_bool h, Result.andThen_ok, Sem.run_pure]

theorem aBin_good {op : BinOp} {t : TypeId} {x y : Operand} {px py : PV} {vx vy : Value} (hx : Rep G w px vx) (hy : Rep G w py vy) (hI : Inv G m w) {p : Prop} {r : PV} (h : aBin op px py = some (p, r)) (hp : p)
    (hb : needB P op px t) :
    Good G w ((do eqGuard op t x y vx vy; binOp op t vx vy : Sem Value).run P w) r m := by
 cases px with
 | v ux =>
  cases py with
  | v uy =>
   obtain rfl := hx.atomEq
   obtain rfl := hy.atomEq
   cases vx <;> cases vy <;> simp only [aBin, reduceCtorEq] at h
   case bool.bool b b' =>
    simp only [eqGuard_at_bool, Sem.run_bind, Sem.run_pure, Result.andThen_ok]
    cases op <;> simp only [Option.some.injEq, Prod.mk.injEq, reduceCtorEq] at h
    all_goals (obtain ⟨rfl, rfl⟩ := h)
    all_goals (simp only [needB] at hb)
    ·exact Good.same (y := .bool _) (run_binEq_bool hb _ _) (.v rfl) hI
    ·exact Good.same (y := .bool _) (run_binNe_bool hb _ _) (.v rfl) hI
   case int.int k n k' n' =>
    simp only [eqGuard_at_int, Sem.run_bind, Sem.run_pure, Result.andThen_ok]
    by_cases hk : k = k'
    ·subst hk
     cases op <;> simp only [if_true, intAr, intCmp, Option.map_some, Option.map_none, Option.some.injEq, Prod.mk.injEq, reduceCtorEq] at h
     all_goals (obtain ⟨rfl, rfl⟩ := h)
     all_goals refine Good.same ?_ (.v rfl) hI
     all_goals simp only [binOp, ne_eq, not_true_eq_false, if_false, Op.intCmp, Op.intArith, Op.intDiv, Op.shift]
     all_goals first
      | rfl
      | (rw [if_neg hp]; rfl)
      | (rw [if_neg (Int.not_lt.2 hp)]; rfl)
    ·cases op <;> simp only [hk, if_false, Option.some.injEq, Prod.mk.injEq, reduceCtorEq] at h
     all_goals (obtain ⟨rfl, rfl⟩ := h)
     all_goals refine Good.same ?_ (.v rfl) hI
     all_goals simp only [binOp, Op.shift]
     all_goals (rw [if_neg (Int.not_lt.2 hp)]; rfl)
   case string.string s s' =>
    simp only [eqGuard_at_string, Sem.run_bind, Sem.run_pure, Result.andThen_ok]
    cases op <;> simp only [Option.some.injEq, Prod.mk.injEq, reduceCtorEq] at h
    all_goals (obtain ⟨rfl, rfl⟩ := h)
    ·refine Good.same (y := .string _) ?_ (.v rfl) hI
     simp only [binOp, Op.stringOp]
     rw [if_neg (by simp only [IntKind.max_i64]; omega)]
     rfl
    all_goals refine Good.same ?_ (.v rfl) hI
    all_goals (simp only [binOp, Op.stringOp]; rfl)
  | _ => simp [aBin] at h
 | _ => simp [aBin] at h
end

structure RL (G : Ghost) (w : World) (xs : List PV) (cs : List Value) : Prop where
 len : xs.length = cs.length
 rep : ∀ j (h1 : j < xs.length) (h2 : j < cs.length), Rep G w xs[j] cs[j]
 one : ∀ u ∈ cs, u.oneCell' = true

section
variable {P : Program} {G : Ghost} {w : World} {m : M}

theorem RL.nil : RL G w [] [] := ⟨rfl, fun j h => by simp at h, fun u h => by cases h⟩
theorem RL.append {xs ys : List PV} {cs ds : List Value} (h : RL G w xs cs) (k : RL G w ys ds) : RL G w (xs ++ ys) (cs ++ ds) := by
 refine ⟨by simp [h.len, k.len], fun j h1 h2 => ?_, fun u hu => (List.mem_append.1 hu).elim (h.one u) (k.one u)⟩
 by_cases hj : j < xs.length
 ·rw [List.getElem_append_left hj, List.getElem_append_left (h.len ▸ hj)]
  exact h.rep j _ _
 ·have e := h.len
  rw [List.getElem_append_right (by omega), List.getElem_append_right (by omega)]
  simp only [e]
  exact k.rep _ _ _
theorem RL.take {xs : List PV} {cs : List Value} (h : RL G w xs cs) (n : Nat) : RL G w (xs.take n) (cs.take n) :=
 ⟨by simp [h.len], fun j h1 h2 => by simpa using h.rep j (by simp at h1; omega) (by simp at h2; omega), fun u hu => h.one u (List.mem_of_mem_take hu)⟩
theorem RL.drop {xs : List PV} {cs : List Value} (h : RL G w xs cs) (n : Nat) : RL G w (xs.drop n) (cs.drop n) :=
 ⟨by simp [h.len], fun j h1 h2 => by simpa using h.rep (n + j) (by simp at h1; omega) (by simp at h2; omega), fun u hu => h.one u (List.mem_of_mem_drop hu)⟩
def spliceV (l : List Value) (o : Nat) (x : List Value) : List Value := l.take o ++ x ++ l.drop (o + x.length)
theorem RL.spl {xs ys : List PV} {cs ds : List Value} (h : RL G w xs cs) (k : RL G w ys ds) (o : Nat) : RL G w (splice xs o ys) (spliceV cs o ds) := by
 unfold splice spliceV
 rw [k.len]
 exact ((h.take o).append k).append (h.drop _)
theorem splice_length {α : Type} (l x : List α) (o : Nat) (h : o + x.length ≤ l.length) : (l.take o ++ x ++ l.drop (o + x.length)).length = l.length := by
 simp; omega
theorem RL.mono {G' : Ghost} {w' : World} (e : Ext G w G' w') {xs : List PV} {cs : List Value} (h : RL G w xs cs) : RL G' w' xs cs := ⟨h.len, fun j a b => (h.rep j a b).mono e, h.one⟩
theorem all_one {x : PV} (h : x.cells.all PV.one = true) : x.one = true ∨ ∃ xs, x = .ag xs := by
 cases x <;> first
  | exact .inr ⟨_, rfl⟩
  | (refine .inl ?_; simpa [PV.cells] using h)
theorem Rep.rl {x : PV} {y : Value} (h : Rep G w x y) (h1 : x.cells.all PV.one = true) : RL G w x.cells y.cells.toList := by
 have hj : x ≠ .junk := fun e => by subst e; simp [PV.cells, PV.one] at h1
 obtain ⟨a, b⟩ := h.cells hj
 exact ⟨by simpa using a, fun j k1 k2 => by simpa using b j k1 (by simpa using k2), h.ones (all_one h1)⟩

theorem fold_set (off : Nat) : ∀ (l : List Value) (k : Nat) (cs : Array Value) (i : Nat), i < cs.size →
    ((l.zipIdx k).foldl (fun cs (p : Value × Nat) => cs.setIfInBounds (off + p.2) p.1) cs)[i]? = if off + k ≤ i ∧ i < off + k + l.length then l[i - off - k]? else cs[i]?
 | [], k, cs, i, _ => by simp; intro h1 h2; omega
 | v :: l, k, cs, i, hi => by
  simp only [List.zipIdx_cons, List.foldl_cons]
  rw [fold_set off l (k + 1) _ i (by simpa using hi)]
  simp only [List.length_cons, Array.getElem?_setIfInBounds]
  by_cases h1 : off + (k + 1) ≤ i ∧ i < off + (k + 1) + l.length
  ·rw [if_pos h1, if_pos (by omega), show i - off - k = (i - off - (k + 1)) + 1 by omega, List.getElem?_cons_succ]
  ·rw [if_neg h1]
   by_cases h2 : off + k = i
   ·subst h2
    rw [if_pos (by omega)]
    simp [hi]
   ·rw [if_neg (by omega), if_neg (by omega)]
theorem fold_size (off : Nat) : ∀ (l : List Value) (k : Nat) (cs : Array Value), ((l.zipIdx k).foldl (fun cs (p : Value × Nat) => cs.setIfInBounds (off + p.2) p.1) cs).size = cs.size
 | [], _, _ => rfl
 | v :: l, k, cs => by simp only [List.zipIdx_cons, List.foldl_cons]; rw [fold_size off l]; simp
theorem fold_splice (off : Nat) (vs cs : Array Value) (h : off + vs.size ≤ cs.size) :
    (vs.zipIdx.foldl (fun cs (c, j) => cs.setIfInBounds (off + j) c) cs) = (spliceV cs.toList off vs.toList).toArray := by
 have e : vs.zipIdx.foldl (fun cs (c, j) => cs.setIfInBounds (off + j) c) cs = (vs.toList.zipIdx 0).foldl (fun cs (p : Value × Nat) => cs.setIfInBounds (off + p.2) p.1) cs := by
  rw [← Array.foldl_toList, Array.toList_zipIdx]
 rw [e]
 apply Array.ext'
 apply List.ext_getElem?
 intro i
 by_cases hi : i < cs.size
 ·have := fold_set off vs.toList 0 cs i hi
  simp only [Nat.add_zero, Nat.sub_zero, Array.length_toList] at this
  rw [Array.getElem?_toList, this]
  unfold spliceV
  by_cases h1 : i < off
  ·rw [if_neg (by omega), List.append_assoc, List.getElem?_append_left (by simp; omega)]
   simp [h1]
  ·by_cases h2 : i < off + vs.size
   ·rw [if_pos ⟨by omega, h2⟩, List.append_assoc, List.getElem?_append_right (by simp; omega), List.getElem?_append_left (by simp; omega)]
    simp [Nat.min_eq_left (show off ≤ cs.size by omega)]
   ·rw [if_neg (by omega), List.getElem?_append_right (by simp; omega), List.getElem?_drop]
    simp [Nat.min_eq_left (show off ≤ cs.size by omega)]
    congr 1
    omega
 ·rw [List.getElem?_eq_none (by rw [Array.length_toList, fold_size]; omega), List.getElem?_eq_none (by unfold spliceV; simp; omega)]

theorem fill_rep {place : Nat → Option (Nat × Nat)} (fl : List (Nat × Nat × Bool)) (hpl : ∀ i, i < fl.length → place i = some ((fl.getD i (0, 0, false)).1, (fl.getD i (0, 0, false)).2.1)) (n : Nat) :
    ∀ (ps : List (Nat × PV)) (vs : List (Nat × Value)) (l : List PV) (c : List Value), ps.length = vs.length → (∀ j (h1 : j < ps.length) (h2 : j < vs.length), ps[j].1 = vs[j].1 ∧ Rep G w ps[j].2 vs[j].2) →
     RL G w l c → l.length = n → fillOk fl n ps → ∃ c', Instr.fill place c.toArray vs = some c'.toArray ∧ RL G w (fillA fl ps l) c' ∧ (fillA fl ps l).length = n
 | [], [], l, c, _, _, hl, hn, _ => ⟨c, rfl, hl, hn⟩
 | (i, x) :: ps, (i', v) :: vs, l, c, hlen, hp, hl, hn, hok => by
  obtain ⟨⟨h1, h2, h3, h4⟩, hok'⟩ := hok
  have h0 := hp 0 (by simp) (by simp)
  simp only [List.getElem_cons_zero] at h0
  obtain ⟨rfl, hr⟩ := h0
  have hrl := hr.rl h4
  have hsz : v.cells.size = (fl.getD i (0, 0, false)).2.1 := by have := hrl.len; simp at this; omega
  have hn' : c.length = n := by rw [← hl.len]; exact hn
  obtain ⟨c', e1, e2, e3⟩ := fill_rep fl hpl n ps vs (splice l (fl.getD i (0, 0, false)).1 x.cells) (spliceV c (fl.getD i (0, 0, false)).1 v.cells.toList) (by simpa using hlen)
   (fun j a b => by have := hp (j + 1) (by simpa using a) (by simpa using b); simpa using this) (hl.spl hrl _) (by unfold splice; rw [splice_length _ _ _ (by omega)]; exact hn) hok'
  refine ⟨c', ?_, e2, e3⟩
  have hfit : (fl.getD i (0, 0, false)).1 + v.cells.size ≤ c.toArray.size := by simp only [List.size_toArray]; omega
  simp only [Instr.fill, hpl i h1, fold_splice _ _ _ hfit]
  rw [if_neg (by simp only [Bool.or_eq_true, decide_eq_true_eq]; rintro (hne | hgt) <;> omega)]
  exact e1

theorem tflds_get {t : TypeId} {fl : List (Nat × Nat × Bool)} (h : tflds P t = some fl) : ∃ fs : Array Field, P.underlying t = some (.struct fs) ∧ fl.length = fs.size ∧
    ∀ i (h1 : i < fl.length) (h2 : i < fs.size), ∃ d, tdat P fs[i].type = some d ∧ fl[i] = (fs[i].offset, d.sz, d.agg) := by
 unfold tflds at h
 split at h
 ·rename_i fs hu
  refine ⟨fs, hu, ?_⟩
  obtain ⟨fl0⟩ := fs
  simp only at h
  suffices ∀ (l : List Field) (r : List (Nat × Nat × Bool)), l.mapM (fun f => (tdat P f.type).map fun d => (f.offset, d.sz, d.agg)) = some r → r.length = l.length ∧ ∀ i (h1 : i < r.length) (h2 : i < l.length), ∃ d, tdat P l[i].type = some d ∧ r[i] = (l[i].offset, d.sz, d.agg) by
   obtain ⟨a, b⟩ := this fl0 fl h
   exact ⟨by simpa using a, fun i h1 h2 => by simpa using b i h1 (by simpa using h2)⟩
  intro l
  induction l with
  | nil => intro r hr; simp at hr; subst hr; exact ⟨rfl, fun i h => by simp at h⟩
  | cons f l ih =>
   intro r hr
   simp only [List.mapM_cons] at hr
   cases hd : tdat P f.type with
   | none => simp [hd] at hr
   | some d =>
    simp only [hd, Option.map_some, Option.bind_eq_bind, Option.bind_some] at hr
    cases hm : l.mapM (fun f => (tdat P f.type).map fun d => (f.offset, d.sz, d.agg)) with
    | none => simp [hm] at hr
    | some r' =>
     simp only [hm, Option.bind_some, Option.pure_def, Option.some.injEq] at hr
     subst hr
     obtain ⟨a, b⟩ := ih r' hm
     refine ⟨by simp [a], fun i h1 h2 => ?_⟩
     cases i with
     | zero => exact ⟨d, by simpa using hd, rfl⟩
     | succ i => simpa using b i (by simpa using h1) (by simpa using h2)
 ·cases h

theorem run_places {fs : Array Field} {fl : List (Nat × Nat × Bool)} (hl : fl.length = fs.size) (h : ∀ i (h1 : i < fl.length) (h2 : i < fs.size), ∃ d, tdat P fs[i].type = some d ∧ fl[i] = (fs[i].offset, d.sz, d.agg)) (w : World) :
    (fs.mapM (fun f => do pure (f.offset, ← sizeOf f.type) : Field → Sem (Nat × Nat))).run P w = .ok (fl.map fun p => (p.1, p.2.1)).toArray w := by
 obtain ⟨fs⟩ := fs
 simp only [List.size_toArray] at hl h
 rw [List.mapM_toArray]
 suffices ∀ (l : List Field) (r : List (Nat × Nat × Bool)), r.length = l.length → (∀ i (h1 : i < r.length) (h2 : i < l.length), ∃ d, tdat P l[i].type = some d ∧ r[i] = (l[i].offset, d.sz, d.agg)) →
     (l.mapM (fun f => do pure (f.offset, ← sizeOf f.type) : Field → Sem (Nat × Nat))).run P w = .ok (r.map fun p => (p.1, p.2.1)) w by
  have := this fs fl hl (fun i h1 h2 => by simpa using h i h1 h2)
  rw [show (List.toArray <$> fs.mapM (fun f => do pure (f.offset, ← sizeOf f.type) : Field → Sem (Nat × Nat))) = ((fs.mapM (fun f => do pure (f.offset, ← sizeOf f.type) : Field → Sem (Nat × Nat))) >>= fun l => pure l.toArray) from (bind_pure_comp _ _).symm]
  rw [Sem.run_bind, this]
  rfl
 intro l
 induction l with
 | nil => intro r hr _; obtain rfl := List.eq_nil_of_length_eq_zero hr; rfl
 | cons f l ih =>
  intro r hr hh
  cases r with
  | nil => simp at hr
  | cons p r =>
   obtain ⟨d, h1, h2⟩ := hh 0 (by simp) (by simp)
   simp only [List.getElem_cons_zero] at h1 h2
   obtain ⟨i, td, hi, _, _, hs, _⟩ := info_of h1
   have := ih r (by simpa using hr) (fun i a b => hh (i + 1) (by simpa using a) (by simpa using b))
   subst h2
   rw [List.mapM_cons]
   simp only [Sem.run_bind, run_sizeOf hi, hs, Result.andThen_ok, Sem.run_pure, this, List.map_cons]

theorem build_good {t : TypeId} {fl : List (Nat × Nat × Bool)} {d : TD} (hfl : tflds P t = some fl) (hd : tdat P t = some d) (hI : Inv G m w) (ps : List (Nat × PV)) (vs : List (Nat × Value)) (hlen : ps.length = vs.length)
    (hp : ∀ j (h1 : j < ps.length) (h2 : j < vs.length), ps[j].1 = vs[j].1 ∧ Rep G w ps[j].2 vs[j].2) (h1 : (ofV d.zero).cells.all PV.one = true) (hok : fillOk fl (ofV d.zero).cells.length ps) :
    Good G w ((Instr.build t vs.toArray).run P w) (.ag (fillA fl ps (ofV d.zero).cells)) m := by
 obtain ⟨fs, hu, hl, hget⟩ := tflds_get hfl
 obtain ⟨i, td, hi, htd, hz, _⟩ := info_of hd
 have hzr := (ofV_rep G w d.zero).rl h1
 obtain ⟨c', e1, e2, e3⟩ := fill_rep (G := G) (w := w) (place := fun i => ((fl.map fun p => (p.1, p.2.1)).toArray)[i]?) fl (fun i hi => by simp [List.getD, hi]) _ ps vs _ _ hlen hp hzr rfl hok
 refine Good.same (y := .agg c'.toArray) ?_ (.ag _ _ e2.len e2.rep e2.one) hI
 simp only [Instr.build, Sem.run_bind, run_zeroValue hi hz, Result.andThen_ok, run_underlying hu, run_places hl hget]
 simp only [Array.toArray_toList] at e1
 simp only [e1, Sem.run_pure]

theorem aflds_get (de : TD) : ∀ (n o i : Nat) (h : i < (aflds n o de).length), i < n ∧ (aflds n o de)[i] = (o + i * de.sz, de.sz, de.agg)
 | 0, o, i, h => by simp [aflds] at h
 | n + 1, o, 0, h => by simp [aflds]
 | n + 1, o, i + 1, h => by
  simp only [aflds, List.length_cons] at h
  obtain ⟨h1, h2⟩ := aflds_get de n (o + de.sz) i (by omega)
  refine ⟨by omega, ?_⟩
  simp only [aflds, List.getElem_cons_succ, h2, Nat.add_mul, Nat.one_mul]
  congr 1
  omega
theorem buildArr_good {t e : TypeId} {n : Nat} {d de : TD} (ht : tarr P t = some (n, e)) (hde : tdat P e = some de) (hd : tdat P t = some d) (hI : Inv G m w) (ps : List (Nat × PV)) (vs : List (Nat × Value)) (hlen : ps.length = vs.length)
    (hp : ∀ j (h1 : j < ps.length) (h2 : j < vs.length), ps[j].1 = vs[j].1 ∧ Rep G w ps[j].2 vs[j].2) (h1 : (ofV d.zero).cells.all PV.one = true) (hok : fillOk (aflds n 0 de) (ofV d.zero).cells.length ps) :
    Good G w ((Instr.build t vs.toArray).run P w) (.ag (fillA (aflds n 0 de) ps (ofV d.zero).cells)) m := by
 obtain ⟨i, td, hi, htd, hz, _⟩ := info_of hd
 obtain ⟨i', td', hi', htd', hz', hs', _⟩ := info_of hde
 have hu : P.underlying t = some (.array n e) := by
  unfold tarr at ht
  split at ht
  ·rename_i h; cases ht; exact h
  ·cases ht
 have hzr := (ofV_rep G w d.zero).rl h1
 obtain ⟨c', e1, e2, e3⟩ := fill_rep (G := G) (w := w) (place := fun i => some (i * i'.size, i'.size)) (aflds n 0 de) (fun i hi => by
  obtain ⟨_, h2⟩ := aflds_get de n 0 i hi
  simp [List.getD, hi, h2, hs']) _ ps vs _ _ hlen hp hzr rfl hok
 refine Good.same (y := .agg c'.toArray) ?_ (.ag _ _ e2.len e2.rep e2.one) hI
 simp only [Instr.build, Sem.run_bind, run_zeroValue hi hz, Result.andThen_ok, run_underlying hu, run_sizeOf hi']
 simp only [Array.toArray_toList] at e1
 simp only [e1, Sem.run_pure]

theorem ok_cells {x : PV} (h : x.ok = true) : ∀ i (hi : i < x.cells.length), x.cells[i].pure = true ∧ x.cells[i].one = true := by
 intro i hi
 simp only [PV.ok, Bool.and_eq_true] at h
 refine ⟨?_, List.all_eq_true.1 h.2 _ (List.getElem_mem _)⟩
 have hp := h.1
 revert hi
 cases x <;> intro hi <;> first
  | (simp only [PV.cells, List.length_singleton] at hi; obtain rfl : i = 0 := by omega
     exact hp)
  | (simp only [PV.pure] at hp
     exact (pures_iff _).1 hp _ (List.getElem_mem _))
theorem new_ep {w' : World} {e : TypeId} {x : PV} {y : Value} (hI : Inv G m w) (h : Rep G w x y) (hx : x.ok = true) (hw : Pushed w w' (.cells y.cells e)) :
    ∃ G', Rep G' w' (.ep x.cells) (.pointer (some ⟨w.heap.size, 0, none⟩)) ∧ Inv G' m w' ∧ Ext G w G' w' := by
 obtain ⟨hE, hI'⟩ := hI.push hw (fun _ => True)
 have h1 : x.cells.all PV.one = true := by simp only [PV.ok, Bool.and_eq_true] at hx; exact hx.2
 have hrl := h.rl h1
 refine ⟨_, ?_, hI', hE⟩
 refine .ep x.cells w.heap.size 0 (fun k => y.cells.getD k undef) (fun k hk => ⟨?_, .inr (.inr ⟨rfl, trivial⟩)⟩) (ok_cells hx) (fun i hi => ?_)
 ·have hk' : k < y.cells.size := by have := hrl.len; simp at this; omega
  rw [hw.cellNew, Nat.zero_add]
  simp [hk']
 ·have hi' : i < y.cells.size := by have := hrl.len; simp at this; omega
  have := (hrl.rep i hi (by simpa using hi')).mono hE
  simpa [hi'] using this
theorem new_box {w' : World} {e : TypeId} {c : List PV} {cs : List Value} (hI : Inv G m w) (h : RL G w c cs) (hw : Pushed w w' (.cells cs.toArray e)) :
    ∃ G', (G'.nb = G.nb + 1 ∧ G'.mp m.nb = false) ∧ G'.box m.nb = w.heap.size ∧ Inv G' (m.push c) w' ∧ Ext G w G' w' := by
 obtain ⟨hE, hI'⟩ := hI.push hw (fun _ => False)
 have h' := h.mono hE
 have hlt : ∀ id c', m.get id = some c' → G.box id < w.heap.size := fun id c' hc => by
  exact hI.blt hc
 refine ⟨_, ⟨rfl, if_pos hI.nb⟩, ?_, hI'.addBox w.heap.size c cs e hw.new h'.len h'.rep h'.one hI.base (fun o hs => ?_) (fun id c' hc => Nat.ne_of_lt (hlt id c' hc)) (fun t s ht o hb => ?_), hE.trans (Ext.addBox _ _ _)⟩
 ·exact if_pos hI.nb
 ·rcases hs with hs | ⟨_, hs⟩
  ·have := hI.set _ _ hs; omega
  ·exact hs
 ·obtain ⟨_, _, a3, _⟩ := (hI.tok t s ht).2 _ _ hb
  obtain ⟨u, hu⟩ := Option.isSome_iff_exists.1 a3
  have : w.heap.size < w.heap.size := World.block_lt_of_cell? w _ hu
  omega
theorem new_bp {w' : World} {e : TypeId} {c : List PV} {cs : List Value} (hI : Inv G m w) (h : RL G w c cs) (hw : Pushed w w' (.cells cs.toArray e)) :
    ∃ G', Rep G' w' (.bp m.nb 0) (.pointer (some ⟨w.heap.size, 0, none⟩)) ∧ Inv G' (m.push c) w' ∧ Ext G w G' w' := by
 obtain ⟨G', ⟨h1, hm⟩, h2, h3, h4⟩ := new_box hI h hw
 refine ⟨G', ?_, h3, h4⟩
 rw [← h2]
 have hnb : m.nb = G.nb := hI.nb
 exact .bp _ _ (by omega) hm
theorem new_bs {w' : World} {e : TypeId} {c : List PV} {cs : List Value} (n : Nat) (hn : n ≤ maxLen) (hI : Inv G m w) (h : RL G w c cs) (hw : Pushed w w' (.cells cs.toArray e)) :
    ∃ G', Rep G' w' (.bs m.nb 0 n) (.slice (some ⟨w.heap.size, 0, none⟩) n n) ∧ Inv G' (m.push c) w' ∧ Ext G w G' w' := by
 obtain ⟨G', ⟨h1, hm⟩, h2, h3, h4⟩ := new_box hI h hw
 refine ⟨G', ?_, h3, h4⟩
 rw [← h2]
 have hnb : m.nb = G.nb := hI.nb
 exact .bs _ _ _ _ (by omega) hm (Nat.le_refl _) hn
end

section
variable {P : Program} {G : Ghost} {w : World} {m : M}

theorem fill_row {sz : Nat} : ∀ (vs : List Value) (k : Nat) (pre rest : List Value), pre.length = k * sz → rest.length = vs.length * sz → (∀ v ∈ vs, v.cells.size = sz) →
    Instr.fill (fun i => some (i * sz, sz)) (pre ++ rest).toArray ((List.range' k vs.length).zip vs) = some (pre ++ vs.flatMap fun v => v.cells.toList).toArray
 | [], k, pre, rest, h1, h2, _ => by
  obtain rfl : rest = [] := List.eq_nil_of_length_eq_zero (by simpa using h2)
  simp [Instr.fill]
 | v :: vs, k, pre, rest, h1, h2, h3 => by
  have hv := h3 v (by simp)
  have hle : sz ≤ rest.length := by rw [h2, List.length_cons, Nat.add_mul]; omega
  have hfit : k * sz + v.cells.size ≤ (pre ++ rest).toArray.size := by simp; omega
  simp only [List.length_cons, List.range'_succ, List.zip_cons_cons, Instr.fill, fold_splice _ _ _ hfit]
  rw [if_neg (by simp only [Bool.or_eq_true, decide_eq_true_eq]; rintro (hne | hgt) <;> omega)]
  have e : spliceV (pre ++ rest).toArray.toList (k * sz) v.cells.toList = (pre ++ v.cells.toList) ++ rest.drop sz := by
   unfold spliceV
   simp only [← h1, List.take_left, Array.length_toList, hv, List.drop_append]
   simp [show pre.length + sz - pre.length = sz by omega]
  rw [e, fill_row vs (k + 1) _ _ (by simp [h1, hv, Nat.add_mul]) (by simp [h2, List.length_cons, Nat.add_mul]) (fun u hu => h3 u (by simp [hu]))]
  simp

theorem buildSlice_run {t e : TypeId} {d : TD} (ht : tel P t = some e) (hd : tdat P e = some d) (n : Nat) (vs : List Value) (ps : Array (Nat × Value)) (hps : ps.toList = (List.range n).zip vs) (hn : vs.length = n) (hmax : n * d.sz ≤ 16777216) (hv : ∀ v ∈ vs, v.cells.size = d.sz) (w : World) :
    (Instr.buildSlice t n ps).run P w = .ok (.slice (some ⟨w.heap.size, 0, none⟩) n n) (w.alloc (.cells (vs.flatMap fun v => v.cells.toList).toArray e)) := by
 obtain ⟨i, td, hi, htd, hz, hs, _⟩ := info_of hd
 have h2 : ¬ (n * i.size > 2 ^ 24) := by rw [hs]; omega
 have hfill : ∀ z : Array Value, Instr.fill (fun i => some (i * d.sz, d.sz)) ((Array.range (n * d.sz)).map (z[· % z.size]!)) ps.toList = some (vs.flatMap fun v => v.cells.toList).toArray := fun z => by
  have := fill_row (sz := d.sz) vs 0 [] ((List.range (n * d.sz)).map fun k => z[k % z.size]!) (by simp) (by simp [hn]) hv
  simp only [List.nil_append, ← List.range_eq_range', hn] at this
  rw [hps, ← this]
  congr 1
  apply Array.ext'
  simp
 simp only [Instr.buildSlice, Sem.run_bind, run_underlying (under_of ht), Result.andThen_ok, run_sizeOf hi, h2, if_false, Sem.run_pure]
 by_cases h0 : n * i.size = 0
 ·simp only [h0, if_true]
  rw [Sem.run_bind, Sem.run_pure]
  simp only [Result.andThen_ok]
  have := hfill #[]
  rw [← hs] at this
  simp only [h0] at this
  simp only [this, Sem.run_bind]
  rfl
 ·simp only [h0, if_false, Sem.run_bind, run_zeroValue hi hz, Result.andThen_ok, Sem.run_pure]
  have := hfill d.zero.cells
  rw [← hs] at this
  simp only [this, Sem.run_bind]
  rfl

theorem RL.flat {xs : List PV} {vs : List Value} (hl : xs.length = vs.length) (h : ∀ j (h1 : j < xs.length) (h2 : j < vs.length), RL G w xs[j].cells vs[j].cells.toList) : RL G w (xs.flatMap PV.cells) (vs.flatMap fun v => v.cells.toList) := by
 induction xs generalizing vs with
 | nil => obtain rfl : vs = [] := List.eq_nil_of_length_eq_zero hl.symm; exact RL.nil
 | cons x xs ih =>
  cases vs with
  | nil => simp at hl
  | cons v vs =>
   simp only [List.flatMap_cons]
   have h0 := h 0 (by simp) (by simp)
   exact RL.append h0 (ih (by simpa using hl) (fun j a b => h (j + 1) (by simpa using a) (by simpa using b)))

theorem flat_get {α β : Type} (f : α → List β) (sz : Nat) : ∀ (l : List α), (∀ x ∈ l, (f x).length = sz) → ∀ i (hi : i < l.length) j, j < sz → (l.flatMap f)[i * sz + j]? = (f l[i])[j]?
 | [], _, i, hi, _, _ => by simp at hi
 | x :: l, h, 0, _, j, hj => by
  have := h x (by simp)
  simp only [List.flatMap_cons, Nat.zero_mul, Nat.zero_add, List.getElem_cons_zero]
  rw [List.getElem?_append_left (by omega)]
 | x :: l, h, i + 1, hi, j, hj => by
  have h0 := h x (by simp)
  simp only [List.flatMap_cons, List.getElem_cons_succ]
  rw [List.getElem?_append_right (by rw [h0, Nat.add_mul]; omega), show (i + 1) * sz + j - (f x).length = i * sz + j by rw [h0, Nat.add_mul]; omega]
  exact flat_get f sz l (fun y hy => h y (by simp [hy])) i (by simpa using hi) j hj
theorem flat_len {α β : Type} (f : α → List β) (sz : Nat) : ∀ (l : List α), (∀ x ∈ l, (f x).length = sz) → (l.flatMap f).length = l.length * sz
 | [], _ => by simp
 | x :: l, h => by
  rw [List.flatMap_cons, List.length_append, h x (by simp), flat_len f sz l (fun y hy => h y (by simp [hy])), List.length_cons, Nat.add_mul]
  omega

theorem slice_rep {xs : List PV} {cs : List Value} {b off cap sz : Nat} {o : Own} (hsz : ∀ x ∈ xs, x.cells.length = sz) (hok : ∀ x ∈ xs, x.ok = true) (hrl : RL G w (xs.flatMap PV.cells) cs)
    (hc : ∀ k, k < cs.length → w.cell? ⟨b, off + k, none⟩ = cs[k]? ∧ G.settled b (off + k)) (hcap : xs.length ≤ cap) (hmax : cap ≤ maxLen) (hfull : o = .full → cap = xs.length)
    (htok : ∀ t, o = .tok t → t < G.nt ∧ G.res t = ⟨b, off + xs.length * sz, off + cap * sz, sz⟩) : Rep G w (.sl o xs) (.slice (some ⟨b, off, none⟩) xs.length cap) := by
 have hlen : cs.length = xs.length * sz := by rw [← hrl.len, flat_len _ sz _ hsz]
 refine .sl o xs b off cap sz (fun k => cs.getD k undef) (fun i hi => hsz _ (List.getElem_mem _)) (fun k hk => ?_) (fun i hi => hok _ (List.getElem_mem _)) (fun i hi j hj => ?_) hcap hmax hfull htok
 ·obtain ⟨a, s⟩ := hc k (by omega)
  refine ⟨?_, s⟩
  rw [a]
  simp [List.getD, show k < cs.length by omega]
 ·have hj' : j < sz := by rw [← hsz xs[i] (List.getElem_mem _)]; exact hj
  have hk : i * sz + j < cs.length := by
   rw [hlen]
   have : (i + 1) * sz ≤ xs.length * sz := Nat.mul_le_mul_right _ hi
   rw [Nat.add_mul] at this
   omega
  have hg := flat_get PV.cells sz xs hsz i hi j hj'
  have hk' : i * sz + j < (xs.flatMap PV.cells).length := by rw [hrl.len]; exact hk
  rw [List.getElem?_eq_getElem hk', List.getElem?_eq_getElem hj] at hg
  have := hrl.rep (i * sz + j) hk' hk
  rw [Option.some.inj hg] at this
  simpa [List.getD, hk] using this

theorem sl_inv {o : Own} {xs : List PV} {y : Value} (h : Rep G w (.sl o xs) y) :
    ((∃ ao, y = .slice ao 0 0) ∧ xs = [] ∧ ∀ t, o = .tok t → t < G.nt ∧ ¬ (G.res t).lo < (G.res t).hi) ∨
    ∃ (b off cap sz : Nat) (cs : List Value), y = .slice (some ⟨b, off, none⟩) xs.length cap ∧ (∀ x ∈ xs, x.cells.length = sz) ∧ (∀ x ∈ xs, x.ok = true) ∧ RL G w (xs.flatMap PV.cells) cs ∧
     (∀ k, k < cs.length → w.cell? ⟨b, off + k, none⟩ = cs[k]? ∧ G.settled b (off + k)) ∧ xs.length ≤ cap ∧ cap ≤ maxLen ∧ (o = .full → cap = xs.length) ∧
     (∀ t, o = .tok t → t < G.nt ∧ G.res t = ⟨b, off + xs.length * sz, off + cap * sz, sz⟩) := by
 cases h with
 | snil _ ao ho => exact .inl ⟨⟨ao, rfl⟩, rfl, ho⟩
 | sl _ _ b off cap sz c hlen hc hp hr hcap hmax hfull htok =>
  have hsz : ∀ x ∈ xs, x.cells.length = sz := fun x hx => by
   obtain ⟨i, hi, rfl⟩ := List.mem_iff_getElem.1 hx
   exact hlen i hi
  have hl := flat_len PV.cells sz xs hsz
  have hget : ∀ k (hk : k < xs.length * sz), ∃ i j, ∃ (hi : i < xs.length) (hj : j < xs[i].cells.length), k = i * sz + j ∧ (xs.flatMap PV.cells)[k]? = some xs[i].cells[j] := fun k hk => by
   have hz : 0 < sz := by
    rcases Nat.eq_zero_or_pos sz with h | h
    ·subst h; simp at hk
    ·exact h
   have hi : k / sz < xs.length := Nat.div_lt_of_lt_mul (by rw [Nat.mul_comm]; exact hk)
   have hj : k % sz < xs[k / sz].cells.length := by rw [hlen]; exact Nat.mod_lt _ hz
   refine ⟨k / sz, k % sz, hi, hj, (by rw [Nat.mul_comm]; exact (Nat.div_add_mod k sz).symm), ?_⟩
   have := flat_get PV.cells sz xs hsz (k / sz) hi (k % sz) (Nat.mod_lt _ hz)
   rw [show k / sz * sz + k % sz = k by rw [Nat.mul_comm]; exact Nat.div_add_mod k sz] at this
   rw [this, List.getElem?_eq_getElem hj]
  refine .inr ⟨b, off, cap, sz, (List.range (xs.length * sz)).map c, rfl, hsz, fun x hx => ?_, ⟨by simp [hl], fun k h1 h2 => ?_, fun u hu => ?_⟩, fun k hk => ?_, hcap, hmax, hfull, htok⟩
  ·obtain ⟨i, hi, rfl⟩ := List.mem_iff_getElem.1 hx
   exact hp i hi
  ·obtain ⟨i, j, hi, hj, hkk, hg⟩ := hget k (by simpa using h2)
   rw [List.getElem?_eq_getElem h1] at hg
   rw [Option.some.inj hg]
   simp only [List.getElem_map, List.getElem_range]
   rw [hkk]
   exact hr i hi j hj
  ·obtain ⟨k, hk, rfl⟩ := List.mem_map.1 hu
   obtain ⟨i, j, hi, hj, hkk, _⟩ := hget k (by simpa using hk)
   rw [hkk]
   exact (hr i hi j hj).one (ok_cells (hp i hi) j hj).2
  ·have hk' : k < xs.length * sz := by simpa using hk
   obtain ⟨a, s⟩ := hc k hk'
   exact ⟨by rw [a]; simp [hk'], s⟩

theorem buildSlice_good {t e : TypeId} {d : TD} (ht : tel P t = some e) (hd : tdat P e = some d) (hI : Inv G m w) (n : Nat) (ys : List PV) (vs : List Value) (ps : Array (Nat × Value)) (hps : ps.toList = (List.range n).zip vs) (hn : vs.length = n)
    (hlen : ys.length = vs.length) (hr : ∀ j (h1 : j < ys.length) (h2 : j < vs.length), Rep G w ys[j] vs[j]) (hmax : n * d.sz ≤ 16777216) (hmax' : n ≤ 16777216) (hy : ∀ y ∈ ys, y.cells.length = d.sz ∧ y.settle.ok = true) :
    Good G w ((Instr.buildSlice t n ps).run P w) (.sl .full (ys.map PV.settle)) m := by
 have hrl : ∀ j (h1 : j < ys.length) (h2 : j < vs.length), RL G w (ys.map PV.settle)[j]!.cells vs[j].cells.toList ∧ (ys[j]).settle.cells.length = d.sz := fun j h1 h2 => by
  obtain ⟨a, b⟩ := hy _ (List.getElem_mem h1)
  have h3 : ys[j].settle.cells.all PV.one = true := by simp only [PV.ok, Bool.and_eq_true] at b; exact b.2
  have h4 := (hr j h1 h2).settle.rl h3
  refine ⟨by simpa [h1] using h4, ?_⟩
  rw [← a]
  cases ys[j] <;> simp [PV.settle, PV.cells, settles_eq]
 have hvs : ∀ v ∈ vs, v.cells.size = d.sz := fun v hv => by
  obtain ⟨j, hj, rfl⟩ := List.mem_iff_getElem.1 hv
  obtain ⟨h5, h6⟩ := hrl j (hlen ▸ hj) hj
  have := h5.len
  simp [hlen ▸ hj] at this
  omega
 have hrun := buildSlice_run ht hd n vs ps hps hn hmax hvs w
 obtain ⟨hE, hI'⟩ := hI.push (Pushed.alloc w (.cells (vs.flatMap fun v => v.cells.toList).toArray e)) (fun _ => True)
 have hflat : RL G w ((ys.map PV.settle).flatMap PV.cells) (vs.flatMap fun v => v.cells.toList) := RL.flat (by simpa using hlen) (fun j h1 h2 => by
  have := (hrl j (by simpa using h1) h2).1
  simpa [show j < ys.length by simpa using h1] using this)
 refine ⟨_, _, _, hrun, ?_, hI', hE⟩
 have hcm : n ≤ maxLen := by
  unfold maxLen
  omega
 have := slice_rep (G := G.more w.heap.size fun _ => True) (w := w.alloc (.cells (vs.flatMap fun v => v.cells.toList).toArray e)) (xs := ys.map PV.settle) (cs := vs.flatMap fun v => v.cells.toList) (b := w.heap.size) (off := 0) (cap := n) (sz := d.sz) (o := .full)
  (fun x hx => by obtain ⟨y, hy', rfl⟩ := List.mem_map.1 hx; obtain ⟨j, hj, rfl⟩ := List.mem_iff_getElem.1 hy'; exact (hrl j hj (hlen ▸ hj)).2)
  (fun x hx => by obtain ⟨y, hy', rfl⟩ := List.mem_map.1 hx; exact (hy y hy').2) (hflat.mono hE)
  (fun k hk => ⟨by simp, .inr (.inr ⟨rfl, trivial⟩)⟩) (by simp; omega) hcm (fun _ => by simp; omega) (fun t h => by cases h)
 have he : (ys.map PV.settle).length = n := by simp; omega
 rwa [he] at this
end
end Go.Proofs.YthhhnfjcaicjnaaGreatDoor
