/-
  Plain law: the order of nodes of which none needs itself is full, and each node stands behind what it needs.
-/
import Derived.Test.YteiaedmipkcfeaaDoorNdX
import Derived.Test.YteiaedmipkcfeaaDoorNdK
set_option linter.unusedVariables false
set_option linter.unusedSimpArgs false
namespace Go.Proofs.YteiaedmipkcfeaaDoor
open Go
set_option maxRecDepth 20000

theorem mem_addS (l : List Str) (s x : Str) : x ∈ addS l s ↔ x ∈ l ∨ x = s := by
  unfold addS
  cases c : hasS l s with
  | true =>
    rw [if_pos rfl]
    have := (hasS_iff s l).1 c
    constructor
    · exact .inl
    · rintro (h | rfl)
      · exact h
      · exact this
  | false => rw [if_neg (by simp)]; simp
theorem mem_addL (x : Str) : ∀ (r l : List Str), x ∈ addL l r ↔ x ∈ l ∨ x ∈ r
  | [], l => by show x ∈ l ↔ _; simp
  | s :: r, l => by
    have h1 : addL l (s :: r) = addL (addS l s) r := rfl
    rw [h1, mem_addL x r, mem_addS, List.mem_cons, or_assoc]
theorem needs_sub (cf : Str → List Str) (T : Str → Prop) (hT : ∀ x, T x → ∀ c ∈ cf x, T c) : ∀ (g : Nat) (l todo : List Str), (∀ x ∈ l, T x) → (∀ e ∈ todo, ∀ c ∈ cf e, T c) → ∀ x ∈ needsN cf g l todo, T x
  | 0, l, _, hl, _, x, hx => hl x hx
  | _ + 1, l, [], hl, _, x, hx => hl x hx
  | g + 1, l, e :: todo, hl, ht, x, hx => by
    have h1 : ∀ x ∈ addL l (cf e), T x := fun x hx => by
      rcases (mem_addL x _ _).1 hx with h | h
      · exact hl x h
      · exact ht e (List.mem_cons_self ..) x h
    refine needs_sub cf T hT g (addL l (cf e)) _ h1 (fun y hy => ?_) x hx
    rcases List.mem_append.1 hy with h | h
    · exact ht y (List.mem_cons_of_mem _ h)
    · exact hT y (h1 y (List.mem_of_mem_drop h))
theorem needs_own (cf : Str → List Str) (S : List Str) (hcf : ∀ x, ∀ c ∈ cf x, c ∈ S) : ∀ (g : Nat) (l todo : List Str), Own1 S l → Own1 S (needsN cf g l todo)
  | 0, l, _, hl => hl
  | _ + 1, l, [], hl => hl
  | g + 1, l, e :: todo, hl => needs_own cf S hcf g _ _ (hl.addL (hcf e))
theorem needs_closed (cf : Str → List Str) (S : List Str) (hcf : ∀ x, ∀ c ∈ cf x, c ∈ S) (s : Str) : ∀ (g : Nat) (l todo : List Str), Own1 S l → todo.length + 2 * (S.length - l.length) ≤ g → (∀ x, x ∈ l ∨ x = s → x ∈ todo ∨ ∀ c ∈ cf x, c ∈ l) → ∀ x, x ∈ needsN cf g l todo ∨ x = s → ∀ c ∈ cf x, c ∈ needsN cf g l todo
  | 0, l, todo, _, hg, h, x, hx => by
    have h0 : todo = [] := List.length_eq_zero_iff.1 (by omega)
    subst h0
    rcases h x hx with h | h
    · simp at h
    · exact h
  | _ + 1, l, [], _, _, h, x, hx => by
    rcases h x hx with h | h
    · simp at h
    · exact h
  | g + 1, l, e :: todo, hl, hg, h, x, hx => by
    have hO := hl.addL (hcf e)
    have hll := hO.len
    have hl0 := hl.len
    obtain ⟨t, ht⟩ := addL_app (cf e) l
    have hdr : (addL l (cf e)).drop l.length = t := by rw [ht, List.drop_left]
    have hlen : (addL l (cf e)).length = l.length + t.length := by rw [ht, List.length_append]
    refine needs_closed cf S hcf s g (addL l (cf e)) _ hO ?_ (fun y hy => ?_) x hx
    · rw [hdr, List.length_append]
      simp only [List.length_cons] at hg
      omega
    · rw [hdr]
      have old : y ∈ l ∨ y = s → y ∈ todo ++ t ∨ ∀ c ∈ cf y, c ∈ addL l (cf e) := fun hy => by
        rcases h y hy with h2 | h2
        · rcases List.mem_cons.1 h2 with rfl | h3
          · exact .inr (fun c hc => (mem_addL c _ _).2 (.inr hc))
          · exact .inl (List.mem_append_left _ h3)
        · exact .inr (fun c hc => (mem_addL c _ _).2 (.inl (h2 c hc)))
      rcases hy with hy | hy
      · rw [ht] at hy
        rcases List.mem_append.1 hy with h2 | h2
        · exact old (.inl h2)
        · exact .inl (List.mem_append_right _ h2)
      · exact old (.inr hy)
section
variable {S : List Str} {P : List No} (hD : DOk S P)
include hD
theorem nm_inj {i j : Nat} (hi : i < P.length) (hj : j < P.length) (h : P[i].name = P[j].name) : i = j := by
  have h1 := hD.names i hi
  have h2 := hD.names j hj
  rw [h, h2] at h1
  omega
theorem cf_at {k : Nat} (hk : k < P.length) : cfN 0 P P[k].name = callsF 0 P[k].b.eqs :=
  cfN_pos hk (eqS_iff.2 rfl) (fun i hi hik => by
    cases c : eqS P[i].name P[k].name with
    | false => rfl
    | true => have := nm_inj hD hi hk (eqS_iff.1 c); omega)
theorem call_known {n : No} (hn : n ∈ P) {c : Str} (hc : c ∈ callsF 0 n.b.eqs) : Known P c := by
  have hO : Own1 (n.b.eqs.map (·.name)) (n.b.eqs.foldl (callsQ (fun _ => [])) []) := Own1.calls (PC := fun _ => False) (fun _ h => h.elim) (.nil _) (fun q hq => ⟨fun _ => List.mem_map.2 ⟨q, hq, rfl⟩, fun a ha => by rw [(hD.inS n hn q hq).1] at ha; simp at ha⟩)
  obtain ⟨q, hq, rfl⟩ := List.mem_map.1 (hO.2 c hc)
  exact hD.known n hn q hq
theorem cf_S (x : Str) : ∀ c ∈ cfN 0 P x, c ∈ S := fun c hc => by
  unfold cfN at hc
  split at hc
  · rename_i n hf
    have hn := List.mem_of_find?_eq_some hf
    exact (FlatC.own hD.lenS ⟨hD.eqs n hn, hD.inS n hn⟩).2.2 c hc
  · simp at hc
omit hD in
theorem known_at {c : Str} (h : Known P c) : ∃ j, ∃ hj : j < P.length, P[j].name = c := by
  obtain ⟨j, hj, he⟩ := h
  rcases idxF_at (p := fun n : No => eqS n.name c) P 0 with ⟨h1, _⟩ | ⟨k, hk, h1, h2, _⟩
  · rw [h1] at he; omega
  · exact ⟨k, hk, eqS_iff.1 h2⟩
omit hD in
theorem lacks_known {out : List Str} {c : Str} (h : Known P c) : lacks P out c = !hasS out c := by
  obtain ⟨j, hj, he⟩ := h
  unfold lacks
  rw [he]; simp
theorem cf_known (x : Str) : ∀ c ∈ cfN 0 P x, Known P c := fun c hc => by
  unfold cfN at hc
  split at hc
  · rename_i n hf
    exact call_known hD (List.mem_of_find?_eq_some hf) hc
  · simp at hc
/-- What is needed: calls, and what is called there. -/
theorem needsD_step (x : Str) : ∀ y, y ∈ needsD S P x ∨ y = x → ∀ c ∈ cfN 0 P y, c ∈ needsD S P x :=
  needs_closed (cfN 0 P) S (cf_S hD) x _ [] [x] (.nil S) (by simp; omega) (fun y hy => by
    rcases hy with h | h
    · simp at h
    · exact .inl (by simp [h]))
omit hD in
theorem needsD_sub (x : Str) (T : Str → Prop) (hT : ∀ y, T y → ∀ c ∈ cfN 0 P y, T c) (h : ∀ c ∈ cfN 0 P x, T c) : ∀ y ∈ needsD S P x, T y :=
  needs_sub (cfN 0 P) T hT _ [] [x] (fun y hy => by simp at hy) (fun e he => by rw [List.mem_singleton.1 he]; exact h)
theorem needsD_own (x : Str) : Own1 S (needsD S P x) := needs_own _ S (cf_S hD) _ _ _ (.nil S)
/-- An order so far: each once, behind what it calls. -/
def GoodO (P : List No) (out : List Str) : Prop := Own1 (P.map (·.name)) out ∧ ∀ i (h : i < out.length), ∀ c ∈ cfN 0 P out[i], c ∈ out.take i
theorem GoodO.next {out : List Str} (h : GoodO P out) {k : Nat} (hk : k < P.length) (hn : nextQ P out P[k] = true) : GoodO P (out ++ [P[k].name]) := by
  unfold nextQ at hn
  rw [Bool.and_eq_true, Bool.not_eq_true', Bool.not_eq_true'] at hn
  obtain ⟨h1, h2⟩ := hn
  have hni : P[k].name ∉ out := fun hm => by rw [(hasS_iff _ _).2 hm] at h2; cases h2
  refine ⟨⟨List.nodup_append.2 ⟨h.1.1, by simp, fun a ha b hb => by rw [List.mem_singleton.1 hb]; exact fun e => hni (e ▸ ha)⟩, fun x hx => ?_⟩, fun i hi c hc => ?_⟩
  · rcases List.mem_append.1 hx with hx | hx
    · exact h.1.2 x hx
    · rw [List.mem_singleton.1 hx]; exact List.mem_map.2 ⟨_, List.getElem_mem hk, rfl⟩
  · by_cases hlt : i < out.length
    · rw [List.getElem_append_left hlt] at hc
      have := h.2 i hlt c hc
      rw [List.take_append_of_le_length (by omega)]
      exact this
    · have hie : i = out.length := by simp at hi; omega
      subst hie
      rw [List.getElem_append_right (Nat.le_refl _)] at hc
      simp only [Nat.sub_self, List.getElem_cons_zero] at hc
      rw [cf_at hD hk] at hc
      have hkn := call_known hD (List.getElem_mem hk) hc
      have := List.any_eq_false.1 h1 c hc
      rw [lacks_known hkn] at this
      rw [List.take_left]
      exact (hasS_iff _ _).1 (by simpa using this)
theorem order_good : ∀ (k : Nat) (out : List Str), GoodO P out → orderN P k out = [] ∨ (GoodO P (orderN P k out) ∧ (orderN P k out).length = out.length + k)
  | 0, out, h => .inr ⟨h, rfl⟩
  | k + 1, out, h => by
    cases hf : P.find? (nextQ P out) with
    | none => left; unfold orderN; rw [hf]
    | some n =>
      have e : orderN P (k + 1) out = orderN P k (out ++ [n.name]) := by rw [orderN, hf]
      rw [e]
      obtain ⟨j, hj, he⟩ := List.getElem_of_mem (List.mem_of_find?_eq_some hf)
      have hq := List.find?_some hf
      rw [← he] at hq ⊢
      rcases order_good k _ (h.next hD hj hq) with h1 | ⟨h1, h2⟩
      · exact .inl h1
      · exact .inr ⟨h1, by rw [h2]; simp; omega⟩
omit hD in
theorem GoodO.needs {out : List Str} (h : GoodO P out) : ∀ (i : Nat) (hi : i < out.length), ∀ x ∈ needsD S P out[i], x ∈ out.take i := fun i hi =>
  needsD_sub out[i] (fun y => y ∈ out.take i) (fun y hy c hc => by
    obtain ⟨j, hj, rfl⟩ := List.getElem_of_mem hy
    have hj2 : j < i := by rw [List.length_take] at hj; omega
    rw [List.getElem_take] at hc
    have := h.2 j (by omega) c hc
    have e : out.take j = (out.take i).take j := by rw [List.take_take, Nat.min_eq_left (by omega)]
    rw [e] at this
    exact List.mem_of_mem_take this) (h.2 i hi)
theorem next_there (hL : ∀ n ∈ P, n.name ∉ needsD S P n.name) (out : List Str) : ∀ (g : Nat) (k : Nat) (hk : k < P.length), P[k].name ∉ out → (needsD S P P[k].name).length ≤ g → ∃ n ∈ P, nextQ P out n = true := by
  intro g
  induction g with
  | zero =>
    intro k hk hno hg
    cases hn : nextQ P out P[k] with
    | true => exact ⟨_, List.getElem_mem hk, hn⟩
    | false =>
      exfalso
      have hh : hasS out P[k].name = false := by
        cases c : hasS out P[k].name with
        | false => rfl
        | true => exact absurd ((hasS_iff _ _).1 c) hno
      unfold nextQ at hn
      rw [hh, Bool.not_false, Bool.and_true, Bool.not_eq_false'] at hn
      obtain ⟨c, hc, _⟩ := List.any_eq_true.1 hn
      rw [← cf_at hD hk] at hc
      have := needsD_step hD P[k].name _ (.inr rfl) c hc
      have := List.length_pos_of_mem this
      omega
  | succ g ih =>
    intro k hk hno hg
    cases hn : nextQ P out P[k] with
    | true => exact ⟨_, List.getElem_mem hk, hn⟩
    | false =>
      have hh : hasS out P[k].name = false := by
        cases c : hasS out P[k].name with
        | false => rfl
        | true => exact absurd ((hasS_iff _ _).1 c) hno
      unfold nextQ at hn
      rw [hh, Bool.not_false, Bool.and_true, Bool.not_eq_false'] at hn
      obtain ⟨c, hc, hl⟩ := List.any_eq_true.1 hn
      have hkn := call_known hD (List.getElem_mem hk) hc
      rw [lacks_known hkn] at hl
      obtain ⟨j, hj, rfl⟩ := known_at hkn
      have hno2 : P[j].name ∉ out := fun hm => by rw [(hasS_iff _ _).2 hm] at hl; cases hl
      rw [← cf_at hD hk] at hc
      have hm := needsD_step hD P[k].name _ (.inr rfl) _ hc
      have hsub : ∀ y ∈ needsD S P P[j].name, y ∈ needsD S P P[k].name := needsD_sub _ _ (fun y hy => needsD_step hD P[k].name y (.inl hy)) (needsD_step hD P[k].name _ (.inl hm))
      have hO : Own1 (needsD S P P[k].name) (P[j].name :: needsD S P P[j].name) := ⟨List.nodup_cons.2 ⟨hL _ (List.getElem_mem hj), (needsD_own hD _).1⟩, fun x hx => by
        rcases List.mem_cons.1 hx with rfl | hx
        · exact hm
        · exact hsub x hx⟩
      have := hO.len
      rw [List.length_cons] at this
      exact ih j hj hno2 (by omega)
theorem order_full (hL : ∀ n ∈ P, n.name ∉ needsD S P n.name) : ∀ (k : Nat) (out : List Str), GoodO P out → out.length + k = P.length → GoodO P (orderN P k out) ∧ (orderN P k out).length = P.length
  | 0, out, h, hk => ⟨h, hk⟩
  | k + 1, out, h, hk => by
    cases hf : P.find? (nextQ P out) with
    | none =>
      exfalso
      have hex : ∃ j, ∃ hj : j < P.length, P[j].name ∉ out := by
        refine Classical.byContradiction fun hne => ?_
        have hall : ∀ n ∈ P, n.name ∈ out := fun n hn => by
          obtain ⟨j, hj, rfl⟩ := List.getElem_of_mem hn
          exact Classical.byContradiction fun h2 => hne ⟨j, hj, h2⟩
        have hO : Own1 out (P.map (·.name)) := ⟨List.pairwise_iff_getElem.2 (fun i j hi hj hij => by
          simp only [List.length_map] at hi hj
          simp only [List.getElem_map]
          exact fun e => by have := nm_inj hD hi hj e; omega), fun x hx => by
          obtain ⟨n, hn, rfl⟩ := List.mem_map.1 hx
          exact hall n hn⟩
        have := hO.len
        rw [List.length_map] at this
        omega
      obtain ⟨j, hj, hno⟩ := hex
      obtain ⟨n, hn, hq⟩ := next_there hD hL out _ j hj hno (Nat.le_refl _)
      have := List.find?_eq_none.1 hf n hn
      exact this hq
    | some n =>
      have e : orderN P (k + 1) out = orderN P k (out ++ [n.name]) := by rw [orderN, hf]
      rw [e]
      obtain ⟨j, hj, he⟩ := List.getElem_of_mem (List.mem_of_find?_eq_some hf)
      have hq := List.find?_some hf
      rw [← he] at hq ⊢
      exact order_full hL k _ (h.next hD hj hq) (by simp; omega)
omit hD in
theorem loop_none : ∀ (l : List No), loopF S P l = none → ∀ n ∈ l, n.name ∉ needsD S P n.name
  | [], _, n, hn => by simp at hn
  | a :: l, h, n, hn => by
    unfold loopF at h
    split at h
    · cases h
    · rename_i hh
      rcases List.mem_cons.1 hn with rfl | hn
      · exact fun hm => hh ((hasS_iff _ _).2 hm)
      · exact loop_none l h n hn
omit hD in
theorem loop_some : ∀ (l : List No) (p : Int × Int), loopF S P l = some p → ∃ n ∈ l, n.name ∈ needsD S P n.name
  | [], p, h => by cases h
  | a :: l, p, h => by
    unfold loopF at h
    split at h
    · rename_i hh
      exact ⟨a, List.mem_cons_self .., (hasS_iff _ _).1 hh⟩
    · obtain ⟨n, hn, h2⟩ := loop_some l p h
      exact ⟨n, List.mem_cons_of_mem _ hn, h2⟩
omit hD in
theorem good_nil : GoodO P [] := ⟨.nil _, fun i hi => by simp at hi⟩
theorem orders_bad (p : Int × Int) (h : loopF S P P = some p) : orderN P P.length [] = [] := by
  rcases order_good hD P.length [] good_nil with h1 | ⟨h1, h2⟩
  · exact h1
  · exfalso
    obtain ⟨n, hn, hm⟩ := loop_some P p h
    have hall : n.name ∈ orderN P P.length [] := by
      refine Classical.byContradiction fun hno => ?_
      have hO : Own1 (P.map (·.name)) (n.name :: orderN P P.length []) := ⟨List.nodup_cons.2 ⟨hno, h1.1.1⟩, fun x hx => by
        rcases List.mem_cons.1 hx with rfl | hx
        · exact List.mem_map.2 ⟨n, hn, rfl⟩
        · exact h1.1.2 x hx⟩
      have := hO.len
      rw [List.length_cons, h2, List.length_map] at this
      simp at this
      omega
    obtain ⟨i, hi, he⟩ := List.getElem_of_mem hall
    have := h1.needs (S := S) i hi n.name (by rw [he]; exact hm)
    rw [← he] at this
    obtain ⟨j, hj, he2⟩ := List.getElem_of_mem this
    rw [List.getElem_take] at he2
    have hij : j < i := by rw [List.length_take] at hj; omega
    exact absurd he2 (List.pairwise_iff_getElem.1 h1.1.1 j i (by omega) hi hij)
theorem orders_ok (h : loopF S P P = none) : (orderN P P.length []).length = P.length ∧ ∀ i (hi : i < (orderN P P.length []).length), ∀ x ∈ needsD S P (orderN P P.length [])[i], hasS ((orderN P P.length []).take i) x = true := by
  obtain ⟨h1, h2⟩ := order_full hD (loop_none P h) P.length [] good_nil (by simp)
  exact ⟨h2, fun i hi x hx => (hasS_iff _ _).2 (h1.needs i hi x hx)⟩
end
end Go.Proofs.YteiaedmipkcfeaaDoor
