/-
  An operation on values without addresses does what the model's does: the rest, and all in one.
-/
import Derived.Test.YtfemdelaciccmaaAbS4
import Derived.Laws.StructEq
set_option linter.unusedVariables false
set_option linter.unusedSimpArgs false
namespace Go.Proofs.Ytfemdelaciccmaa
open Go Go.RowKit

section
variable {P : Program} {G : Ghost} {w : World} {m : M}

/-! ### Structs compared -/
theorem eqCell_run {x y : PV} {u v : Value} {c : Bool} (hx : Rep G w x u) (hy : Rep G w y v) (h : eqCell x y = some c) {t : TypeId} {td : TypeDesc} (hu : P.underlying t = some td) (hty : skT td = skP x) (d : Nat) :
    (Op.equalIn (d + 1) t u v).run P w = .ok c w := by
  cases x with
  | v a =>
    cases y with
    | v b =>
      obtain rfl := hx.atomEq
      obtain rfl := hy.atomEq
      cases u <;> cases v <;> simp only [eqCell, reduceCtorEq, Option.some.injEq] at h
      case bool.bool =>
        cases td <;> simp [skT, skP] at hty
        subst h
        exact run_equalIn_bool' w d t _ _ hu
      case int.int k a k' b =>
        cases td <;> simp [skT, skP] at hty
        by_cases hk : k = k'
        · subst hk
          simp only [if_true, Option.some.injEq] at h
          subst h
          exact run_equalIn_int w d t k _ _ _ hu
        · simp [hk] at h
      case string.string =>
        cases td <;> simp [skT, skP] at hty
        subst h
        exact run_equalIn_string w d t _ _ hu
    | _ => simp [eqCell] at h
  | _ => simp [eqCell] at h

theorem scal_agg {td : TypeDesc} {s : SK} (h : skT td = some s) : aggD td = false := by cases td <;> simp [skT] at h <;> rfl

theorem eqFields_run (d : Nat) (as bs : Array Value) : ∀ (fs : List Field) (k : Nat) (xs ys : List PV) (c : Bool), (∀ j (h : j < fs.length), fs[j].name ≠ "_" ∧ fs[j].offset = k + j) → fs.length = xs.length → xs.length = ys.length →
    (∀ j (h1 : j < fs.length) (h2 : j < xs.length), ∃ td, P.underlying fs[j].type = some td ∧ skT td = skP xs[j]) →
    (∀ j (h : j < xs.length), ∃ u, as[k + j]? = some u ∧ Rep G w xs[j] u) → (∀ j (h : j < ys.length), ∃ u, bs[k + j]? = some u ∧ Rep G w ys[j] u) → eqCells xs ys = some c →
    (Op.eqFields (d + 1) as bs fs).run P w = .ok c w
  | [], _, xs, ys, c, _, h1, h2, _, _, _, h => by
    obtain rfl := List.eq_nil_of_length_eq_zero h1.symm
    obtain rfl := List.eq_nil_of_length_eq_zero h2.symm
    simp only [eqCells, Option.some.injEq] at h
    subst h
    rfl
  | f :: fs, k, [], ys, c, _, h1, _, _, _, _, _ => by simp at h1
  | f :: fs, k, x :: xs, [], c, _, _, h2, _, _, _, _ => by simp at h2
  | f :: fs, k, x :: xs, y :: ys, c, hf, h1, h2, hk, ha, hb, h => by
    simp only [eqCells] at h
    cases he : eqCell x y with
    | none => simp [he] at h
    | some c1 =>
      cases hes : eqCells xs ys with
      | none => simp [he, hes] at h
      | some c2 =>
        simp only [he, hes, Option.some.injEq] at h
        subst h
        obtain ⟨n0, o0⟩ := hf 0 (by simp)
        obtain ⟨td, hu, hsk⟩ := hk 0 (by simp) (by simp)
        obtain ⟨u, hu1, hu2⟩ := ha 0 (by simp)
        obtain ⟨v, hv1, hv2⟩ := hb 0 (by simp)
        simp only [List.getElem_cons_zero, Nat.add_zero] at n0 o0 hu hsk hu1 hu2 hv1 hv2
        have hag : aggD td = false := by
          have : skP x ≠ none := by
            intro hn
            cases x <;> simp [eqCell] at he
            rename_i a
            cases a <;> simp [skP] at hn
            all_goals simp [eqCell] at he
          cases hs : skT td with
          | none => rw [hs] at hsk; exact absurd hsk.symm this
          | some s => exact scal_agg hs
        have pa : ∀ (cs : Array Value) (z : Value), cs[k]? = some z → (Go.part f.type cs f.offset).run P w = .ok z w := fun cs z hz => by
          simp only [Go.part, Sem.run_bind, run_isAgg hu, hag, Result.andThen_ok, Bool.false_eq_true, if_false, o0, hz, Sem.run_pure]
        have ih := eqFields_run d as bs fs (k + 1) xs ys c2 (fun j hj => by
            have := hf (j + 1) (by simpa using hj)
            simp only [List.getElem_cons_succ] at this
            exact ⟨this.1, by rw [this.2]; omega⟩) (by simpa using h1) (by simpa using h2) (fun j a b => by
            have := hk (j + 1) (by simpa using a) (by simpa using b)
            simpa using this) (fun j hj => by
            have := ha (j + 1) (by simpa using hj)
            rw [show k + (j + 1) = k + 1 + j by omega] at this
            simpa using this) (fun j hj => by
            have := hb (j + 1) (by simpa using hj)
            rw [show k + (j + 1) = k + 1 + j by omega] at this
            simpa using this) hes
        simp only [Op.eqFields, n0, ne_eq, not_false_eq_true, if_true, Sem.run_bind, pa as u hu1, pa bs v hv1, Result.andThen_ok, eqCell_run hu2 hv2 he hu hsk d]
        cases c1
        · simp
        · simpa using ih

theorem eqStruct_good {op : BinOp} (hop : op = .eql ∨ op = .neq) {t : TypeId} {x y : Operand} {xs ys : List PV} {u v : Value} {c : Bool} (hx : Rep G w (.ag xs) u) (hy : Rep G w (.ag ys) v) (hI : Inv G m w) (he : eqCells xs ys = some c)
    (hfl : (flat1 P t).map (·.map some) = some (xs.map skP)) :
    Good G w ((do eqGuard op t x y u v; binOp op t u v : Sem Value).run P w) (.v (.bool (if op = .eql then c else !c))) m := by
  cases hx with
  | ag _ as hla hra _ =>
  cases hy with
  | ag _ bs hlb hrb _ =>
  unfold flat1 at hfl
  cases hu : P.underlying t with
  | none => simp [hu] at hfl
  | some td =>
    cases td <;> simp only [hu, Option.map_none, reduceCtorEq] at hfl
    rename_i fs
    by_cases hc : (!P.stoodInHeld t && !P.eqGuardType P.depth t && (fs.toList.zipIdx.all fun p => p.1.name != "_" && p.1.offset == p.2)) = true
    · rw [if_pos hc] at hfl
      simp only [Bool.and_eq_true, Bool.not_eq_true'] at hc
      obtain ⟨⟨c1, c2⟩, c3⟩ := hc
      have hfo : P.fieldsOf t = fs := by simp [Program.fieldsOf, hu]
      have hlen : xs.length = ys.length := by
        have : ∀ (xs ys : List PV) c, eqCells xs ys = some c → xs.length = ys.length := by
          intro xs
          induction xs with
          | nil => intro ys c h; cases ys <;> simp [eqCells] at h; rfl
          | cons x xs ih =>
            intro ys c h
            cases ys with
            | nil => simp [eqCells] at h
            | cons y ys =>
              simp only [eqCells] at h
              cases h1 : eqCell x y <;> cases h2 : eqCells xs ys <;> simp [h1, h2] at h
              simp [ih ys _ h2]
        exact this xs ys c he
      have hsk : fs.toList.length = xs.length ∧ ∀ j (h1 : j < fs.toList.length) (h2 : j < xs.length), ∃ td, P.underlying fs.toList[j].type = some td ∧ skT td = skP xs[j] := by
        generalize fs.toList = l at hfl
        clear hra hla hrb hlb he hlen
        induction l generalizing xs with
        | nil =>
          simp at hfl
          subst hfl
          exact ⟨rfl, fun j h => by simp at h⟩
        | cons f l ih =>
          simp only [List.mapM_cons] at hfl
          cases hb : (P.underlying f.type).bind skT with
          | none => simp [hb] at hfl
          | some s =>
            cases hm : l.mapM (fun f => (P.underlying f.type).bind skT) with
            | none => simp [hb, hm] at hfl
            | some r =>
              simp only [hb, hm, Option.bind_eq_bind, Option.bind_some, Option.pure_def, Option.map_some, List.map_cons, Option.some.injEq] at hfl
              cases xs with
              | nil => simp at hfl
              | cons x xs =>
                simp only [List.map_cons, List.cons.injEq] at hfl
                obtain ⟨i1, i2⟩ := ih (xs := xs) (by rw [hm]; simp [hfl.2])
                refine ⟨by simp [i1], fun j h1 h2 => ?_⟩
                cases j with
                | zero =>
                  cases hut : P.underlying f.type with
                  | none => simp [hut] at hb
                  | some td => exact ⟨td, by simpa using hut, by simp [hut] at hb; simp [hb, ← hfl.1]⟩
                | succ j => simpa using i2 j (by simpa using h1) (by simpa using h2)
      have hf : ∀ j (h : j < fs.toList.length), fs.toList[j].name ≠ "_" ∧ fs.toList[j].offset = 0 + j := fun j hj => by
        have := List.all_eq_true.1 c3 (fs.toList[j], j) (List.mem_zipIdx_iff_getElem?.2 (by simp [hj]))
        simp only [Bool.and_eq_true, bne_iff_ne, ne_eq, beq_iff_eq] at this
        exact ⟨this.1, by omega⟩
      have hrun := eqFields_run (P := P) (G := G) (w := w) 9998 as.toArray bs.toArray fs.toList 0 xs ys c hf hsk.1 hlen hsk.2 (fun j hj => ⟨as[j]'(hla ▸ hj), by simp [hla ▸ hj], hra j hj _⟩) (fun j hj => ⟨bs[j]'(hlb ▸ hj), by simp [hlb ▸ hj], hrb j hj _⟩) he
      have hs := run_equalIn_struct (P := P) w 9999 t as.toArray bs.toArray (by rw [hfo]; exact hu) c1
      rw [hfo, hrun] at hs
      rcases hop with rfl | rfl
      · refine Good.same (y := .bool c) ?_ (.v rfl) hI
        rw [Sem.run_bind, run_eqGuard_agg w .eql t x y _ _ c2]
        simp only [Result.andThen_ok, run_eql_struct, hs]
      · refine Good.same (y := .bool (!c)) ?_ (.v rfl) hI
        rw [Sem.run_bind, run_eqGuard_agg w .neq t x y _ _ c2]
        simp only [Result.andThen_ok, run_neq_struct, hs]
    · rw [if_neg hc] at hfl; simp at hfl
end
end Go.Proofs.Ytfemdelaciccmaa
