/-
  An operation on values without addresses does what the model's does: all in one.
-/
import Derived.Test.YtfemdelaciccmaaAbS5
set_option linter.unusedVariables false
set_option linter.unusedSimpArgs false
namespace Go.Proofs.Ytfemdelaciccmaa
open Go Go.RowKit

section
variable {P : Program} {G : Ghost} {w : World} {m : M}

/-- What a step leaves. -/
def Stepped (P : Program) (G : Ghost) (w : World) (r : Result Next) (v : PV) (m' : M) : Prop :=
  ∃ n y w' G', r = .ok n w' ∧ (n = .value y ∨ (n = .skip ∧ y = undef)) ∧ Rep G' w' v y ∧ Inv G' m' w' ∧ Ext G w G' w'
theorem Good.stepped {s : Sem Value} {v : PV} {m' : M} (h : Good G w (s.run P w) v m') : Stepped P G w ((do pure (.value (← s)) : Sem Next).run P w) v m' := by
  obtain ⟨y, w', G', h1, h2, h3, h4⟩ := h
  exact ⟨.value y, y, w', G', by rw [Sem.run_bind, h1]; rfl, .inl rfl, h2, h3, h4⟩

theorem fieldAt_good {t : TypeId} {fl : List (Nat × Nat × Bool)} (hfl : tflds P t = some fl) {i o n : Nat} {ag : Bool} (hi : fl[i]? = some (o, n, ag)) (hn : n ≠ 0) (b off : Nat) (w : World) :
    (Instr.fieldAt t (.pointer (some ⟨b, off, none⟩)) i).run P w = .ok (.pointer (some ⟨b, off + o, none⟩)) w := by
  obtain ⟨fs, hu, hl, hget⟩ := tflds_get hfl
  have hlt : i < fl.length := by
    rcases Nat.lt_or_ge i fl.length with h | h
    · exact h
    · rw [List.getElem?_eq_none h] at hi; cases hi
  obtain ⟨d, hd, he⟩ := hget i hlt (hl ▸ hlt)
  rw [List.getElem?_eq_getElem hlt, Option.some.injEq] at hi
  rw [hi] at he
  simp only [Prod.mk.injEq] at he
  obtain ⟨e1, e2, e3⟩ := he
  obtain ⟨ti, td, h1, h2, h3, h4, _⟩ := info_of hd
  have hn' : ti.size ≠ 0 := by rw [h4, ← e2]; exact hn
  have hfi : fs[i]? = some fs[i] := Array.getElem?_eq_getElem _
  simp only [Instr.fieldAt, Sem.run_bind, run_underlying hu, Result.andThen_ok, hfi, Instr.sureAddr, Sem.run_pure, fieldPlace, run_sizeOf h1, hn', if_false, Addr.add_lit, e1]

theorem field_good {t : TypeId} {fl : List (Nat × Nat × Bool)} (hfl : tflds P t = some fl) {i o n : Nat} {ag : Bool} (hi : fl[i]? = some (o, n, ag)) (hI : Inv G m w) {xs : List PV} {y : Value} (h : Rep G w (.ag xs) y) (hfit : if ag then o + n ≤ xs.length else o < xs.length) :
    Good G w ((Instr.field t y i).run P w) (if ag then .ag (seg xs o n) else xs.getD o .junk) m := by
  obtain ⟨fs, hu, hl, hget⟩ := tflds_get hfl
  have hlt : i < fl.length := by
    rcases Nat.lt_or_ge i fl.length with h | h
    · exact h
    · rw [List.getElem?_eq_none h] at hi; cases hi
  obtain ⟨d, hd, he⟩ := hget i hlt (hl ▸ hlt)
  rw [List.getElem?_eq_getElem hlt, Option.some.injEq] at hi
  rw [hi] at he
  simp only [Prod.mk.injEq] at he
  obtain ⟨e1, e2, e3⟩ := he
  obtain ⟨ti, td, h1, h2, h3, h4, _, h6, _⟩ := info_of hd
  have hfi : fs[i]? = some fs[i] := Array.getElem?_eq_getElem _
  cases h with
  | ag _ cs hlen hr hone =>
  by_cases hag : ag = true
  · subst hag
    simp only [if_true] at hfit ⊢
    refine Good.same (y := .agg (cs.toArray.extract o (o + n))) ?_ ?_ hI
    · simp only [Instr.field, Sem.run_bind, run_underlying hu, Result.andThen_ok, hfi, asAgg, Sem.run_pure, Go.part, run_isAgg h2, h6, ← e3, if_true, run_sizeOf h1, h4, ← e2, ← e1]
    · have : cs.toArray.extract o (o + n) = ((cs.drop o).take n).toArray := by apply Array.ext'; simp [List.drop_take]
      rw [this]
      exact .ag _ _ (by simp [seg, hlen]) (fun j a b => by simp only [seg, List.getElem_take, List.getElem_drop]; exact hr _ _ _) (fun u hu => hone u (List.mem_of_mem_drop (List.mem_of_mem_take hu)))
  · simp only [hag] at hfit ⊢
    have hag' : ag = false := by simpa using hag
    subst hag'
    have hfit' : o < xs.length := by simpa using hfit
    refine Good.same (y := cs[o]'(hlen ▸ hfit')) ?_ ?_ hI
    · simp only [Instr.field, Sem.run_bind, run_underlying hu, Result.andThen_ok, hfi, asAgg, Sem.run_pure, Go.part, run_isAgg h2, h6, ← e3, ← e1]
      simp [hlen ▸ hfit']
    · have := hr o hfit' (hlen ▸ hfit')
      simpa [List.getD, hfit'] using this

theorem index_good {t : TypeId} {e : TypeId} (ht : tel P t = some e) (hI : Inv G m w) {o : Own} {xs : List PV} {y : Value} (h : Rep G w (.sl o xs) y) {k : IntKind} {n : Int} (h0 : 0 ≤ n) (hn : n.toNat < xs.length)
    (hsz : (tdat P e).map (·.sz) = some (xs.getD n.toNat .junk).cells.length) : Good G w ((Instr.indexAt t y (.int k n)).run P w) (.ep (xs.getD n.toNat .junk).cells) m := by
  cases hd : tdat P e with
  | none => simp [hd] at hsz
  | some d =>
  simp only [hd, Option.map_some, Option.some.injEq] at hsz
  obtain ⟨ti, td, h1, h2, h3, h4, _⟩ := info_of hd
  have hx : xs.getD n.toNat .junk = xs[n.toNat] := by simp [List.getD, hn]
  rw [hx] at hsz ⊢
  cases h with
  | snil => simp at hn
  | sl _ _ b off cap sz c hlen hc hp hr hcap hmax hfull htok =>
  have hs : sz = d.sz := by rw [hsz, hlen]
  have hlt : n < (xs.length : Int) := by omega
  refine Good.same (y := .pointer (some ⟨b, off + n.toNat * sz, none⟩)) ?_ ?_ hI
  · simp only [Instr.indexAt, Sem.run_bind, asIntOf, Sem.run_pure, Result.andThen_ok, run_underlying (under_of ht), h0, hlt, and_self, if_true, run_sizeOf h1, h4, Addr.add_lit, hs]
  · refine .ep _ b (off + n.toNat * sz) (fun j => c (n.toNat * sz + j)) (fun j hj => ?_) (ok_cells (hp _ hn)) (fun j hj => hr _ hn j hj)
    have hj' : j < sz := by rw [← hlen _ hn]; exact hj
    have hk : n.toNat * sz + j < xs.length * sz := by
      have : (n.toNat + 1) * sz ≤ xs.length * sz := Nat.mul_le_mul_right _ hn
      rw [Nat.add_mul] at this
      omega
    have := hc _ hk
    rwa [← Nat.add_assoc] at this

theorem indexBs_good {t : TypeId} {e : TypeId} {d : TD} (ht : tel P t = some e) (hd : tdat P e = some d) (hI : Inv G m w) {id o l : Nat} {y : Value} (h : Rep G w (.bs id o l) y) {k : IntKind} {n : Int} (h0 : 0 ≤ n) (hn : n.toNat < l) :
    Good G w ((Instr.indexAt t y (.int k n)).run P w) (.bp id (o + n.toNat * d.sz)) m := by
  obtain ⟨ti, td, h1, h2, h3, h4, _⟩ := info_of hd
  cases h with
  | bs _ _ _ cap hid hm hcap hmax =>
  have hlt : n < (l : Int) := by omega
  refine Good.same (y := .pointer (some ⟨G.box id, o + n.toNat * d.sz, none⟩)) ?_ (.bp _ _ hid hm) hI
  simp only [Instr.indexAt, Sem.run_bind, asIntOf, Sem.run_pure, Result.andThen_ok, run_underlying (under_of ht), h0, hlt, and_self, if_true, run_sizeOf h1, h4, Addr.add_lit]

theorem under_arr {t e : TypeId} {n : Nat} (ht : tarr P t = some (n, e)) : P.underlying t = some (.array n e) := by
  unfold tarr at ht
  split at ht
  · rename_i h; cases ht; exact h
  · cases ht
theorem run_indexArr {t e : TypeId} {l : Nat} {d : TD} (ht : tarr P t = some (l, e)) (hd : tdat P e = some d) {k : IntKind} {n : Int} (h0 : 0 ≤ n) (hn : n.toNat < l) (b o : Nat) (w : World) :
    (Instr.indexAt t (.pointer (some ⟨b, o, none⟩)) (.int k n)).run P w = .ok (.pointer (some ⟨b, o + n.toNat * d.sz, none⟩)) w := by
  obtain ⟨ti, td, h1, h2, h3, h4, _⟩ := info_of hd
  have hlt : n < (l : Int) := by omega
  simp only [Instr.indexAt, Sem.run_bind, asIntOf, Sem.run_pure, Result.andThen_ok, run_underlying (under_arr ht), Instr.sureAddr, h0, hlt, and_self, if_true, run_sizeOf h1, h4, Addr.add_lit]
theorem indexBp_good {t e : TypeId} {l : Nat} {d : TD} (ht : tarr P t = some (l, e)) (hd : tdat P e = some d) (hI : Inv G m w) {id o : Nat} {y : Value} (h : Rep G w (.bp id o) y) {k : IntKind} {n : Int} (h0 : 0 ≤ n) (hn : n.toNat < l) :
    Good G w ((Instr.indexAt t y (.int k n)).run P w) (.bp id (o + n.toNat * d.sz)) m := by
  cases h with
  | bp _ _ hid hm => exact Good.same (run_indexArr ht hd h0 hn _ _ w) (.bp _ _ hid hm) hI
theorem indexEp_good {t e : TypeId} {l : Nat} {d : TD} (ht : tarr P t = some (l, e)) (hd : tdat P e = some d) (hI : Inv G m w) {xs : List PV} {y : Value} (h : Rep G w (.ep xs) y) {k : IntKind} {n : Int} (h0 : 0 ≤ n) (hn : n.toNat < l) :
    Good G w ((Instr.indexAt t y (.int k n)).run P w) (.ep (xs.drop (n.toNat * d.sz))) m := by
  cases h with
  | ep _ b o c q1 q2 q3 =>
    refine Good.same (run_indexArr ht hd h0 hn _ _ w) ?_ hI
    refine .ep _ b (o + n.toNat * d.sz) (fun k => c (n.toNat * d.sz + k)) (fun k hk => ?_) (fun k hk => by simpa using q2 (n.toNat * d.sz + k) (by simp at hk; omega)) (fun k hk => by simpa using q3 (n.toNat * d.sz + k) (by simp at hk; omega))
    have := q1 (n.toNat * d.sz + k) (by simp at hk; omega)
    rwa [← Nat.add_assoc] at this
theorem indexAg_good {t e : TypeId} {l : Nat} {d : TD} (hu : P.underlying t = some (.array l e)) (hd : tdat P e = some d) (hI : Inv G m w) {xs : List PV} {y : Value} (h : Rep G w (.ag xs) y) {k : IntKind} {n : Int} (h0 : 0 ≤ n) (hn : n.toNat < l)
    (hfit : if d.agg then n.toNat * d.sz + d.sz ≤ xs.length else n.toNat * d.sz < xs.length) :
    Good G w ((Instr.index t y (.int k n)).run P w) (if d.agg then .ag (seg xs (n.toNat * d.sz) d.sz) else xs.getD (n.toNat * d.sz) .junk) m := by
  obtain ⟨ti, td, h1, h2, h3, h4, _, h6, _⟩ := info_of hd
  have hlt : n < (l : Int) := by omega
  cases h with
  | ag _ cs hlen hr hone =>
  by_cases hag : d.agg = true
  · rw [if_pos hag] at hfit ⊢
    refine Good.same (y := .agg (cs.toArray.extract (n.toNat * d.sz) (n.toNat * d.sz + d.sz))) ?_ ?_ hI
    · simp only [Instr.index, Sem.run_bind, asIntOf, Sem.run_pure, Result.andThen_ok, run_underlying hu, h0, hlt, and_self, if_true, run_sizeOf h1, h4, Go.part, run_isAgg h2, h6, hag]
    · have : cs.toArray.extract (n.toNat * d.sz) (n.toNat * d.sz + d.sz) = ((cs.drop (n.toNat * d.sz)).take d.sz).toArray := by apply Array.ext'; simp [List.drop_take]
      rw [this]
      exact .ag _ _ (by simp [seg, hlen]) (fun j a b => by simp only [seg, List.getElem_take, List.getElem_drop]; exact hr _ _ _) (fun u hu => hone u (List.mem_of_mem_drop (List.mem_of_mem_take hu)))
  · rw [if_neg hag] at hfit ⊢
    have hag' : d.agg = false := by simpa using hag
    refine Good.same (y := cs[n.toNat * d.sz]'(hlen ▸ hfit)) ?_ ?_ hI
    · simp only [Instr.index, Sem.run_bind, asIntOf, Sem.run_pure, Result.andThen_ok, run_underlying hu, h0, hlt, and_self, if_true, run_sizeOf h1, h4, Go.part, run_isAgg h2, h6, hag']
      simp [hlen ▸ hfit]
    · have := hr (n.toNat * d.sz) hfit (hlen ▸ hfit)
      simpa [List.getD, hfit] using this

theorem aInt_rep {x : PV} {y : Value} {n : Int} (h : Rep G w x y) (hx : aInt x = some n) : ∃ k, y = .int k n := by
  cases x with
  | v a =>
    obtain rfl := h.atomEq
    cases y <;> simp [aInt] at hx
    subst hx
    exact ⟨_, rfl⟩
  | _ => simp [aInt] at hx

theorem run_sliceBounds (isSlice : Bool) (len cap : Nat) {lo hi : Option Value} {l h : Nat} (hlo : (lo = none ∧ l = 0) ∨ ∃ k, lo = some (.int k l)) (hhi : (hi = none ∧ h = len) ∨ ∃ k, hi = some (.int k h)) (h1 : l ≤ h) (h2 : h ≤ cap) (w : World) :
    (Instr.sliceBounds isSlice len cap lo hi none).run P w = .ok (l, h, cap) w := by
  have e1 : (0 : Int) ≤ (h : Int) ∧ (h : Int) ≤ (cap : Int) := ⟨by omega, by omega⟩
  have e2 : (0 : Int) ≤ (l : Int) ∧ (l : Int) ≤ (h : Int) := ⟨by omega, by omega⟩
  rcases hlo with ⟨rfl, rfl⟩ | ⟨k, rfl⟩ <;> rcases hhi with ⟨rfl, rfl⟩ | ⟨k', rfl⟩ <;>
    simp [Instr.sliceBounds, Instr.sliceBound, asIntOf, h1, h2]

theorem sliceSl_good {t e : TypeId} (ht : P.underlying t = some (.slice e)) {d : TD} (hd : tdat P e = some d) (hI : Inv G m w) {o : Own} {xs : List PV} {y : Value} (hx : Rep G w (.sl o xs) y) (hsz : ∀ x ∈ xs, x.cells.length = d.sz)
    {lo hi : Option Value} {l h : Nat} (hlo : (lo = none ∧ l = 0) ∨ ∃ k, lo = some (.int k l)) (hhi : (hi = none ∧ h = xs.length) ∨ ∃ k, hi = some (.int k h)) (h1 : l ≤ h) (h2 : h ≤ xs.length) :
    Good G w ((Instr.sliceAt t y lo hi none).run P w) (.sl .no ((xs.take h).drop l)) m := by
  obtain ⟨ti, td, k1, k2, k3, k4, _⟩ := info_of hd
  rcases sl_inv hx with ⟨⟨ao, rfl⟩, rfl, _⟩ | ⟨b, off, cap, sz, cs, rfl, a1, a2, a3, a4, a5, a6, a7, a8⟩
  · have hh : h = 0 := by simpa using h2
    subst hh
    obtain rfl : l = 0 := by omega
    have hb := run_sliceBounds (P := P) true 0 0 (lo := lo) (hi := hi) hlo (by simpa using hhi) (Nat.le_refl _) (Nat.le_refl _) w
    refine Good.same (y := .slice ao 0 0) ?_ (.snil _ _ (fun t h => by cases h)) hI
    simp only [Instr.sliceAt, Instr.slice, Sem.run_bind, run_underlying ht, Result.andThen_ok, hb, run_sizeOf k1, if_true, Nat.sub_self, Sem.run_pure]
  · have hb := run_sliceBounds (P := P) true xs.length cap (lo := lo) (hi := hi) hlo hhi h1 (Nat.le_trans h2 a5) w
    have hcl : cs.length = xs.length * d.sz := by rw [← a3.len, flat_len _ _ _ hsz]
    have hlen : ((xs.take h).drop l).length = h - l := by simp; omega
    by_cases hm : cap = l
    · have hhl : h = l := by omega
      refine Good.same (y := .slice (some ⟨b, off, none⟩) (h - l) (cap - l)) ?_ ?_ hI
      · rw [hm] at hb
        simp only [Instr.sliceAt, Instr.slice, Sem.run_bind, run_underlying ht, Result.andThen_ok, hm, hb, run_sizeOf k1, if_true, Sem.run_pure, Nat.sub_self]
      · have hnil : (xs.take h).drop l = [] := List.eq_nil_of_length_eq_zero (by omega)
        rw [hnil, hhl, Nat.sub_self]
        exact slice_rep (sz := 0) (fun x hx => by cases hx) (fun x hx => by cases hx) RL.nil (fun k hk => by simp at hk) (Nat.zero_le _) (by omega) (fun h => by cases h) (fun t h => by cases h)
    · refine Good.same (y := .slice (some ⟨b, off + l * ti.size, none⟩) (h - l) (cap - l)) ?_ ?_ hI
      · simp only [Instr.sliceAt, Instr.slice, Sem.run_bind, run_underlying ht, Result.andThen_ok, hb, run_sizeOf k1, hm, if_false, Option.map_some, Addr.add_lit, Sem.run_pure]
      · rw [k4]
        have hsub : ∀ x ∈ (xs.take h).drop l, x ∈ xs := fun x hx => List.mem_of_mem_take (List.mem_of_mem_drop hx)
        have hfl : ((xs.take h).drop l).flatMap PV.cells = ((xs.flatMap PV.cells).take (h * d.sz)).drop (l * d.sz) := by
          have gen : ∀ (l' : List PV) (n : Nat), (∀ x ∈ l', x.cells.length = d.sz) → (l'.take n).flatMap PV.cells = (l'.flatMap PV.cells).take (n * d.sz) ∧ (l'.drop n).flatMap PV.cells = (l'.flatMap PV.cells).drop (n * d.sz) := by
            intro l'
            induction l' with
            | nil => intro n _; simp
            | cons x l' ih =>
              intro n hx
              cases n with
              | zero => simp
              | succ n =>
                have hx0 := hx x (by simp)
                obtain ⟨i1, i2⟩ := ih n (fun y hy => hx y (by simp [hy]))
                refine ⟨?_, ?_⟩
                · rw [List.take_succ_cons, List.flatMap_cons, List.flatMap_cons, i1, Nat.add_mul, Nat.one_mul, List.take_append, hx0]
                  rw [show n * d.sz + d.sz - d.sz = n * d.sz by omega, List.take_of_length_le (l := x.cells) (by omega)]
                · rw [List.drop_succ_cons, List.flatMap_cons, i2, Nat.add_mul, Nat.one_mul, List.drop_append, hx0]
                  rw [show n * d.sz + d.sz - d.sz = n * d.sz by omega, List.drop_eq_nil_of_le (as := x.cells) (by omega), List.nil_append]
          rw [(gen (xs.take h) l (fun x hx => hsz x (List.mem_of_mem_take hx))).2, (gen xs h hsz).1]
        have := slice_rep (G := G) (w := w) (xs := (xs.take h).drop l) (cs := (cs.take (h * d.sz)).drop (l * d.sz)) (b := b) (off := off + l * d.sz) (cap := cap - l) (sz := d.sz) (o := .no) (fun x hx => hsz x (hsub x hx)) (fun x hx => a2 x (hsub x hx))
          (by rw [hfl]; exact (a3.take _).drop _) (fun k hk => by
            have hk2 : k < min (h * d.sz) cs.length - l * d.sz := by rw [List.length_drop, List.length_take] at hk; exact hk
            have hk' : l * d.sz + k < cs.length := by omega
            obtain ⟨q1, q2⟩ := a4 _ hk'
            rw [Nat.add_assoc]
            refine ⟨by rw [q1, List.getElem?_drop, List.getElem?_take_of_lt (by omega)], q2⟩) (by rw [hlen]; omega) (by omega) (fun h => by cases h) (fun t h => by cases h)
        rwa [hlen] at this

theorem sliceStr_good {t : TypeId} (ht : P.underlying t = some .string) (hI : Inv G m w) (s : ByteArray) {lo hi : Option Value} {l h : Nat} (hlo : (lo = none ∧ l = 0) ∨ ∃ k, lo = some (.int k l)) (hhi : (hi = none ∧ h = s.size) ∨ ∃ k, hi = some (.int k h)) (h1 : l ≤ h) (h2 : h ≤ s.size) :
    Good G w ((Instr.sliceAt t (.string s) lo hi none).run P w) (.v (.string (s.extract l h))) m := by
  have hb := run_sliceBounds (P := P) false s.size s.size (lo := lo) (hi := hi) hlo hhi h1 h2 w
  refine Good.same (y := .string (s.extract l h)) ?_ (.v rfl) hI
  simp only [Instr.sliceAt, Instr.slice, Sem.run_bind, run_underlying ht, Result.andThen_ok, hb, Sem.run_pure, Option.isSome_none, Bool.false_eq_true, if_false]

theorem run_index_str {t : TypeId} (ht : P.underlying t = some .string) (s : ByteArray) (k : IntKind) {n : Int} (h0 : 0 ≤ n) (hn : n.toNat < s.size) (w : World) :
    (Instr.index t (.string s) (.int k n)).run P w = .ok (.int .u8 (s.data.toList.getD n.toNat 0).toNat) w := by
  have hs : s[n.toNat]? = some s[n.toNat] := getElem?_pos s n.toNat hn
  have hd : s.data.toList.getD n.toNat 0 = s[n.toNat] := by
    have : n.toNat < s.data.toList.length := by simpa using hn
    rw [List.getD, List.getElem?_eq_getElem this]
    rfl
  simp only [Instr.index, Sem.run_bind, asIntOf, Sem.run_pure, Result.andThen_ok, run_underlying ht, h0, if_true, hs, hd]
end
end Go.Proofs.Ytfemdelaciccmaa
