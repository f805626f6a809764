/-
  An operation on values without addresses does what the model's does: those that make no memory.
-/
import Derived.Test.YtfemdelaciccmaaAbStep
set_option linter.unusedVariables false
set_option linter.unusedSimpArgs false
namespace Go.Proofs.Ytfemdelaciccmaa
open Go Go.RowKit

def FR (G : Ghost) (w : World) (f : F) (tmps : Array Value) : Prop := ∀ t, Rep G w (f t) (tmps.getD t undef)
def Good (G : Ghost) (w : World) (r : Result Value) (v : PV) (m' : M) : Prop := ∃ y w' G', r = .ok y w' ∧ Rep G' w' v y ∧ Inv G' m' w' ∧ Ext G w G' w'
theorem Good.same {G : Ghost} {w : World} {r : Result Value} {v : PV} {m : M} {y : Value} (h : r = .ok y w) (hr : Rep G w v y) (hI : Inv G m w) : Good G w r v m := ⟨y, w, G, h, hr, hI, Ext.refl _ _⟩

theorem ofCell_rep (G : Ghost) (w : World) (x : Value) : Rep G w (ofCell x) x := by
  unfold ofCell
  split
  · exact .v ‹_›
  · split
    · exact .snil _ _ (fun t h => by cases h)
    · exact .junk _
theorem ofCell_one {x : Value} (h : (ofCell x).one = true) : x.oneCell' = true := (ofCell_rep ⟨0, 0, fun _ => 0, 0, fun _ => ⟨0, 0, 0, 0⟩, fun _ _ => False, fun _ => false⟩ default x).one h
theorem ofV_rep (G : Ghost) (w : World) (x : Value) : Rep G w (ofV x) x := by
  cases x with
  | agg cs =>
    simp only [ofV]
    by_cases hall : (cs.toList.map ofCell).all PV.one = true
    · rw [if_pos hall]
      have := Rep.ag (G := G) (w := w) (cs.toList.map ofCell) cs.toList (by simp) (fun j h1 h2 => by simpa using ofCell_rep G w _) (fun u hu => ofCell_one (List.all_eq_true.1 hall _ (List.mem_map.2 ⟨u, hu, rfl⟩)))
      rwa [Array.toArray_toList] at this
    · rw [if_neg hall]; exact .junk _
  | _ => exact ofCell_rep G w _
theorem ev_rep {G : Ghost} {w : World} {f : F} {a : Act} (h : FR G w f a.tmps) (x : Operand) : Rep G w (ev f x) (a.eval x) := by
  cases x with
  | tmp t => exact h t
  | const v => exact ofV_rep G w v
  | global g => exact .junk _
  | func g => exact .fn _ [] [] [] [] rfl rfl (fun j h => by cases h) (fun j h => by cases h)

section
variable {P : Program} {G : Ghost} {w : World} {m : M}

theorem info_of {t : TypeId} {d : TD} (h : tdat P t = some d) : ∃ i td, P.info? t = some i ∧ P.underlying t = some td ∧ i.zero = some d.zero ∧ i.size = d.sz ∧ i.bytes = d.by_ ∧ aggD td = d.agg ∧ d.zero.cells.size = d.sz := by
  unfold tdat at h
  split at h
  · rename_i i td h1 h2
    cases hz : i.zero with
    | none => simp [hz] at h
    | some z =>
      simp only [hz] at h
      by_cases hc : z.cells.size = i.size
      · rw [if_pos hc] at h
        cases h
        exact ⟨i, td, h1, h2, hz, rfl, rfl, rfl, hc⟩
      · rw [if_neg hc] at h; cases h
  · cases h
theorem under_of {t : TypeId} {e : TypeId} (h : tel P t = some e) : P.underlying t = some (.slice e) := by
  unfold tel at h
  split at h
  · rename_i e' h1; cases h; exact h1
  · cases h
theorem run_isAgg {t : TypeId} {td : TypeDesc} (h : P.underlying t = some td) (w : World) : (isAgg t).run P w = .ok (aggD td) w := by
  simp only [isAgg, Sem.run_bind, run_underlying h, Result.andThen_ok]
  cases td <;> rfl
theorem run_sizeOf {t : TypeId} {i : TypeInfo} (h : P.info? t = some i) (w : World) : (sizeOf t).run P w = .ok i.size w := by
  simp [sizeOf, typeInfo, h]
theorem run_zeroValue {t : TypeId} {i : TypeInfo} {z : Value} (h : P.info? t = some i) (hz : i.zero = some z) (w : World) : (zeroValue t).run P w = .ok z w := by
  simp [zeroValue, typeInfo, h, hz]

theorem Rep.atomEq {x y : Value} (h : Rep G w (.v x) y) : y = x := by cases h; rfl

theorem cell_rep_of {b off : Nat} {xs : List PV} {c : Nat → Value} (hp : ∀ i (h : i < xs.length), xs[i].pure = true ∧ xs[i].one = true) (hr : ∀ i (h : i < xs.length), Rep G w xs[i] (c i)) (o n : Nat) (hn : o + n ≤ xs.length) :
    Rep G w (.ag (seg xs o n)) (.agg ((List.range n).map fun j => c (o + j)).toArray) := by
  refine .ag _ _ (by simp [seg]; omega) (fun j h1 h2 => ?_) (fun u hu => ?_)
  · simp only [seg, List.getElem_take, List.getElem_drop, List.getElem_map, List.getElem_range]
    exact hr (o + j) _
  · obtain ⟨j, hj, rfl⟩ := List.mem_map.1 hu
    have hj := List.mem_range.1 hj
    exact (hr (o + j) (by omega)).one (hp (o + j) (by omega)).2

/-- A value, the world as it is. -/
def Goodw (G : Ghost) (w : World) (r : Result Value) (v : PV) : Prop := ∃ y, r = .ok y w ∧ Rep G w v y
theorem Goodw.good {r : Result Value} {v : PV} (h : Goodw G w r v) (hI : Inv G m w) : Good G w r v m := by
  obtain ⟨y, h1, h2⟩ := h
  exact Good.same h1 h2 hI
/-- A load of settled cells, or of a box. -/
theorem load_good {t : TypeId} {d : TD} (hd : tdat P t = some d) {b off : Nat} {xs : List PV} {c : Nat → Value} (o : Nat)
    (hc : ∀ k, k < xs.length → w.cell? ⟨b, off + k, none⟩ = some (c k)) (h1 : ∀ i (h : i < xs.length), (c i).oneCell' = true) (hr : ∀ i (h : i < xs.length), Rep G w xs[i] (c i))
    (hfit : if d.agg then o + d.sz ≤ xs.length else o < xs.length) : Goodw G w ((Instr.loadAt t (.pointer (some ⟨b, off + o, none⟩))).run P w) (partA d xs o) := by
  obtain ⟨i, td, hi, htd, hz, hs, hb, ha, _⟩ := info_of hd
  by_cases hagg : d.agg = true
  · simp only [hagg, if_true] at hfit
    refine ⟨.agg ((List.range d.sz).map fun j => c (o + j)).toArray, ?_, ?_⟩
    · have hl := run_loadCells (P := P) w ⟨b, off + o, none⟩ d.sz (fun j => c (o + j)) (fun j hj => by
        rw [Addr.add_lit, Nat.add_assoc]; exact hc (o + j) (by omega))
      simp [Instr.loadAt, Instr.sureAddr, loadVar, run_isAgg htd, ha, hagg, run_sizeOf hi, hs, hl]
    · simp only [partA, hagg, if_true]
      refine .ag _ _ (by simp [seg]; omega) (fun j h1 h2 => ?_) (fun u hu => ?_)
      · simp only [seg, List.getElem_take, List.getElem_drop, List.getElem_map, List.getElem_range]
        exact hr (o + j) _
      · obtain ⟨j, hj, rfl⟩ := List.mem_map.1 hu
        have hj := List.mem_range.1 hj
        exact h1 (o + j) (by omega)
  · simp only [hagg] at hfit
    have hfit' : o < xs.length := by simpa using hfit
    refine ⟨c o, ?_, ?_⟩
    · simp [Instr.loadAt, Instr.sureAddr, loadVar, run_isAgg htd, ha, hagg, hc o hfit']
    · simp only [partA, hagg]
      have := hr o hfit'
      simpa [List.getD, hfit'] using this

theorem ep_inv {xs : List PV} {y : Value} (h : Rep G w (.ep xs) y) : ∃ (b off : Nat) (c : Nat → Value), y = .pointer (some ⟨b, off, none⟩) ∧ (∀ k, k < xs.length → w.cell? ⟨b, off + k, none⟩ = some (c k) ∧ G.settled b (off + k)) ∧
    (∀ i (h : i < xs.length), xs[i].pure = true ∧ xs[i].one = true) ∧ (∀ i (h : i < xs.length), Rep G w xs[i] (c i)) := by
  cases h with
  | ep _ b off c hc hp hr => exact ⟨b, off, c, rfl, hc, hp, hr⟩

theorem load_epw {t : TypeId} {d : TD} (hd : tdat P t = some d) {xs : List PV} {y : Value} (h : Rep G w (.ep xs) y) (hfit : if d.agg then d.sz ≤ xs.length else 0 < xs.length) :
    Goodw G w ((Instr.loadAt t y).run P w) (partA d xs 0) := by
  obtain ⟨b, off, c, rfl, hc, hp, hr⟩ := ep_inv h
  exact load_good hd 0 (fun k hk => (hc k hk).1) (fun i hi => (hr i hi).one (hp i hi).2) hr (by simpa using hfit)
theorem load_ep {t : TypeId} {d : TD} (hd : tdat P t = some d) (hI : Inv G m w) {xs : List PV} {y : Value} (h : Rep G w (.ep xs) y) (hfit : if d.agg then d.sz ≤ xs.length else 0 < xs.length) :
    Good G w ((Instr.loadAt t y).run P w) (partA d xs 0) m := (load_epw hd h hfit).good hI

theorem load_bpw {t : TypeId} {d : TD} (hd : tdat P t = some d) (hI : Inv G m w) {id o : Nat} {xs : List PV} (hx : m.get id = some xs) {y : Value} (h : Rep G w (.bp id o) y) (hfit : if d.agg then o + d.sz ≤ xs.length else o < xs.length) :
    Goodw G w ((Instr.loadAt t y).run P w) (partA d xs o) := by
  cases h with
  | bp _ _ hid hm =>
  obtain ⟨cs, e, h1, h2, h3, h4, h5⟩ := hI.boxC hx hm
  have := load_good (P := P) (G := G) (w := w) hd (b := G.box id) (off := 0) (xs := xs) (c := fun k => cs.getD k undef) o (fun k hk => by
      simp only [World.cell?, h1, Nat.zero_add]
      simp [List.getD, h2 ▸ hk]) (fun i hi => by
      have hi' : i < cs.length := h2 ▸ hi
      simpa [List.getD, hi'] using h4 _ (List.getElem_mem hi')) (fun i hi => by
      have hi' : i < cs.length := h2 ▸ hi
      simpa [List.getD, hi'] using h3 i hi hi') hfit
  simpa using this
theorem load_bp {t : TypeId} {d : TD} (hd : tdat P t = some d) (hI : Inv G m w) {id o : Nat} {xs : List PV} (hx : m.get id = some xs) {y : Value} (h : Rep G w (.bp id o) y) (hfit : if d.agg then o + d.sz ≤ xs.length else o < xs.length) :
    Good G w ((Instr.loadAt t y).run P w) (partA d xs o) m := (load_bpw hd hI hx h hfit).good hI

theorem run_equalIn_bool {t : TypeId} (h : P.underlying t = some .bool) (d : Nat) (a b : Bool) : (Op.equalIn (d + 1) t (.bool a) (.bool b)).run P w = .ok (a == b) w := by
  simp only [Op.equalIn, Sem.run_bind, run_underlying h, Result.andThen_ok, Sem.run_pure]
theorem run_binEq_bool {t : TypeId} (h : P.underlying t = some .bool) (a b : Bool) : (binOp .eql t (.bool a) (.bool b)).run P w = .ok (.bool (a == b)) w := by
  show (do pure (.bool (← Op.equalIn (9999 + 1) t (.bool a) (.bool b))) : Sem Value).run P w = _
  simp only [Sem.run_bind, run_equalIn_bool h, Result.andThen_ok, Sem.run_pure]
theorem run_binNe_bool {t : TypeId} (h : P.underlying t = some .bool) (a b : Bool) : (binOp .neq t (.bool a) (.bool b)).run P w = .ok (.bool !(a == b)) w := by
  show (do pure (.bool !(← Op.equalIn (9999 + 1) t (.bool a) (.bool b))) : Sem Value).run P w = _
  simp only [Sem.run_bind, run_equalIn_bool h, Result.andThen_ok, Sem.run_pure]

theorem aBin_good {op : BinOp} {t : TypeId} {x y : Operand} {px py : PV} {vx vy : Value} (hx : Rep G w px vx) (hy : Rep G w py vy) (hI : Inv G m w) {p : Prop} {r : PV} (h : aBin op px py = some (p, r)) (hp : p)
    (hb : needB P op px t) :
    Good G w ((do eqGuard op t x y vx vy; binOp op t vx vy : Sem Value).run P w) r m := by
  cases px with
  | v ux =>
    cases py with
    | v uy =>
      obtain rfl := hx.atomEq
      obtain rfl := hy.atomEq
      cases vx <;> cases vy <;> simp only [aBin, reduceCtorEq] at h
      case bool.bool b b' =>
        simp only [eqGuard_at_bool, Sem.run_bind, Sem.run_pure, Result.andThen_ok]
        cases op <;> simp only [Option.some.injEq, Prod.mk.injEq, reduceCtorEq] at h
        all_goals (obtain ⟨rfl, rfl⟩ := h)
        all_goals (simp only [needB] at hb)
        · exact Good.same (y := .bool _) (run_binEq_bool hb _ _) (.v rfl) hI
        · exact Good.same (y := .bool _) (run_binNe_bool hb _ _) (.v rfl) hI
      case int.int k n k' n' =>
        simp only [eqGuard_at_int, Sem.run_bind, Sem.run_pure, Result.andThen_ok]
        by_cases hk : k = k'
        · subst hk
          cases op <;> simp only [if_true, intAr, intCmp, Option.map_some, Option.map_none, Option.some.injEq, Prod.mk.injEq, reduceCtorEq] at h
          all_goals (obtain ⟨rfl, rfl⟩ := h)
          all_goals refine Good.same ?_ (.v rfl) hI
          all_goals simp only [binOp, ne_eq, not_true_eq_false, if_false, Op.intCmp, Op.intArith, Op.intDiv, Op.shift]
          all_goals first
            | rfl
            | (rw [if_neg hp]; rfl)
            | (rw [if_neg (Int.not_lt.2 hp)]; rfl)
        · cases op <;> simp only [hk, if_false, Option.some.injEq, Prod.mk.injEq, reduceCtorEq] at h
          all_goals (obtain ⟨rfl, rfl⟩ := h)
          all_goals refine Good.same ?_ (.v rfl) hI
          all_goals simp only [binOp, Op.shift]
          all_goals (rw [if_neg (Int.not_lt.2 hp)]; rfl)
      case string.string s s' =>
        simp only [eqGuard_at_string, Sem.run_bind, Sem.run_pure, Result.andThen_ok]
        cases op <;> simp only [Option.some.injEq, Prod.mk.injEq, reduceCtorEq] at h
        all_goals (obtain ⟨rfl, rfl⟩ := h)
        · refine Good.same (y := .string _) ?_ (.v rfl) hI
          simp only [binOp, Op.stringOp]
          rw [if_neg (by simp only [IntKind.max_i64]; omega)]
          rfl
        all_goals refine Good.same ?_ (.v rfl) hI
        all_goals (simp only [binOp, Op.stringOp]; rfl)
    | _ => simp [aBin] at h
  | _ => simp [aBin] at h
end
end Go.Proofs.Ytfemdelaciccmaa
