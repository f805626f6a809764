/-
  Texts that belong together: TmD, TmP.
-/
import Derived.Test.YticdboelpgalpaaDoorAbFr
import Derived.Test.YticdboelpgalpaaDoorNvA
/-
  What is made has its types: expressions, equations, blocks.
-/
set_option linter.unusedVariables false
set_option linter.unusedSimpArgs false
set_option linter.unusedSectionVars false
namespace Go.Proofs.YticdboelpgalpaaDoor
open Go

/-- A variable's type, where it is looked for. -/
def TyOf (E : List Va) (s : Str) (t : Ty) : Prop := ∃ k, ∃ h : k < E.length, findVar E s = (k : Int) ∧ E[k].t = t
/-- An expression that has neither fby, pre nor ->. -/
inductive Stl : Ex → Prop
  | mk {e : Ex} (h : e.kind ≠ 9 ∧ e.kind ≠ 10 ∧ e.kind ≠ 11) (hk : ∀ i (h : i < e.kids.length), Stl e.kids[i]) : Stl e
abbrev cols : List Str := [sRed, sGreen, sBlue]
/-- Of what an operator is, and what it answers. -/
def opT (o : Int) : Option (Int × Int) :=
  if o = 1 ∨ o = 8 ∨ o = 9 ∨ o = 10 then some (1, 1) else if o = 2 ∨ (3 ≤ o ∧ o ≤ 7) then some (2, 2) else if o = 13 ∨ o = 16 then some (2, 1) else if o = 11 then some (0, 1) else none
/-- The type of an expression whose kids have these. -/
def FinT (E : List Va) (e : Ex) (Ts : List Ty) (t : Ty) : Prop :=
  (e.kind = 1 ∧ t = tyI) ∨ (e.kind = 2 ∧ t = tyB) ∨ (e.kind = 3 ∧ e.name ∈ cols ∧ t = tyC) ∨
  ((e.kind = 4 ∨ e.kind = 5) ∧ TyOf E e.name t) ∨
  ((e.kind = 6 ∨ e.kind = 7) ∧ ∃ i o u, opT e.op = some (i, o) ∧ (∀ x ∈ Ts, x = u) ∧ (i = 0 ∨ u.kind = i) ∧ t = ⟨o, sE⟩) ∨
  (e.kind = 8 ∧ Ts = [tyB, t, t]) ∨ ((e.kind = 9 ∨ e.kind = 11) ∧ Ts = [t, t]) ∨ (e.kind = 10 ∧ Ts = [t]) ∨
  (e.kind = 12 ∧ TyOf E e.name tyC ∧ (∃ c r, e.names = c :: r ∧ c ∈ cols) ∧ (∃ a r, e.kids = a :: r ∧ Stl a) ∧ ∃ r, Ts = t :: r) ∨
  (e.kind = 13 ∧ TyOf E e.name tyC ∧ e.names = [sGreen, sRed, sBlue] ∧ Ts = [t, t, t])
inductive HasT (E : List Va) : Ex → Ty → Prop
  | mk {e : Ex} {t : Ty} (Ts : List Ty) (hl : Ts.length = e.kids.length) (hb : Ts.length ≤ 3) (hk : ∀ i (h : i < e.kids.length) (h' : i < Ts.length), HasT E e.kids[i] Ts[i]) (hf : FinT E e Ts t) : HasT E e t
/-- A variable is right. -/
def VaT (E : List Va) (v : Va) : Prop := (v.last = true → HasT [] v.first v.t) ∧ ∀ o ∈ v.clock, TyOf E o.var tyC ∧ o.ctor ∈ cols
def WyT (E : List Va) (l : List Tr) : Prop := ∀ t ∈ l, HasT E t.e tyB ∧ Stl t.e
/-- The nodes that can be called: what goes in, what comes out. -/
def NsT (ns : List No) : Prop := ns.length ≤ 3 ∧ ∀ k (h : k < ns.length), ns[k].name = nameS ⟨#[102]⟩ k ∧ ns[k].ins.map Va.t = [tyI, tyB] ∧ ns[k].outs.map Va.t = [tyI, tyC]
/-- An equation that is right, its blocks being so. -/
def TyQ (ns : List No) (PB : List Va → List Va → List Qu → Prop) (E : List Va) (q : Qu) : Prop :=
  (q.kind = 1 ∧ ∃ x r t, q.lhs = x :: r ∧ TyOf E x t ∧ HasT E q.e t) ∨
  (q.kind = 2 ∧ ∃ k x y a b, k < ns.length ∧ q.name = nameS ⟨#[102]⟩ k ∧ q.lhs = [x, y] ∧ q.args = [a, b] ∧ TyOf E x tyI ∧ TyOf E y tyC ∧ HasT E a tyI ∧ HasT E b tyB ∧ (q.has = true → HasT E q.e tyB)) ∨
  (q.kind = 5 ∧ (∃ a r, q.arms = a :: r ∧ PB E a.vars a.eqs) ∧ HasT E q.e tyB) ∨
  (q.kind = 3 ∧ (∃ t, ((t = tyC ∧ q.arms.map Am.name = [sBlue, sRed, sGreen]) ∨ (t = tyB ∧ q.arms.map Am.name = [sTrue, sFalse])) ∧ HasT E q.e t) ∧ ∀ a ∈ q.arms, PB E a.vars a.eqs) ∨
  (q.kind = 4 ∧ ∀ a ∈ q.arms, WyT E a.unl ∧ PB E a.vars a.eqs ∧ WyT (E ++ a.vars) a.til)
def TyB (ns : List No) : Nat → List Va → List Va → List Qu → Prop
  | 0, E, V, Q => E.length + V.length ≤ 2 ^ 29 ∧ (∀ v ∈ V, VaT (E ++ V) v) ∧ ∀ q ∈ Q, TyQ ns (fun _ _ _ => False) (E ++ V) q
  | d + 1, E, V, Q => E.length + V.length ≤ 2 ^ 29 ∧ (∀ v ∈ V, VaT (E ++ V) v) ∧ ∀ q ∈ Q, TyQ ns (TyB ns d) (E ++ V) q
end Go.Proofs.YticdboelpgalpaaDoor

/-
  What is made has its types.
-/
set_option linter.unusedVariables false
set_option linter.unusedSimpArgs false
set_option linter.unusedSectionVars false
namespace Go.Proofs.YticdboelpgalpaaDoor
open Go

theorem nd_mem {E : List Va} (hd : (E.map Va.name).Nodup) : ∀ {i j : Nat} (hi : i < E.length) (hj : j < E.length), E[i].name = E[j].name → i = j := fun {i j} hi hj h => by
  have hp := List.pairwise_iff_getElem.1 hd
  rcases Nat.lt_trichotomy i j with hij | hij | hij
  · exact absurd (by rw [List.getElem_map, List.getElem_map]; exact h) (hp i j (by simpa using hi) (by simpa using hj) hij)
  · exact hij
  · exact absurd (by rw [List.getElem_map, List.getElem_map]; exact h.symm) (hp j i (by simpa using hj) (by simpa using hi) hij)
theorem tyOf_mem {E : List Va} (hd : (E.map Va.name).Nodup) {v : Va} (hv : v ∈ E) : TyOf E v.name v.t := by
  rcases findVar_spec E v.name with ⟨_, h2⟩ | ⟨k, hk, h1, h2, _⟩
  · exact absurd rfl (h2 v hv)
  · obtain ⟨j, hj, rfl⟩ := List.getElem_of_mem hv
    have := nd_mem hd hk hj h2
    subst this
    exact ⟨k, hk, h1, rfl⟩
theorem isLess_sub : ∀ {a l : List Va}, isLess a l → ∀ v ∈ l, v ∈ a
  | [], l, h, v, hv => by cases h; exact hv
  | w :: r, l, h, v, hv => by
    rcases h with ⟨l', rfl, h⟩ | ⟨_, h⟩
    · rcases List.mem_cons.1 hv with rfl | hv
      · exact List.mem_cons_self ..
      · exact List.mem_cons_of_mem _ (isLess_sub h v hv)
    · exact List.mem_cons_of_mem _ (isLess_sub h v hv)
theorem addLasts_sub : ∀ {t l : List Va}, ∀ v ∈ addLasts l t, v ∈ l ∨ v ∈ t
  | [], l, v, hv => .inl hv
  | w :: t, l, v, hv => by
    rw [addLasts] at hv
    rcases addLasts_sub v hv with h | h
    · split at h
      · rcases List.mem_append.1 h with h | h
        · exact .inl h
        · rw [List.mem_singleton] at h; subst h; exact .inr (List.mem_cons_self ..)
      · exact .inl h
    · exact .inr (List.mem_cons_of_mem _ h)
structure ScT (E : List Va) (s : Sc) : Prop where
  ready : ∀ v ∈ s.ready, v ∈ E
  all : ∀ v ∈ s.all, v ∈ E
  lasts : ∀ v ∈ s.lasts, v ∈ E
theorem ScT.more {E : List Va} {s : Sc} {l : List Va} (h : ScT E s) (hl : ∀ v ∈ l, v ∈ E) : ScT E (s.more l) :=
  ⟨fun v hv => by rcases List.mem_append.1 hv with hv | hv; exact h.ready v hv; exact hl v hv, h.all, h.lasts⟩
theorem ScT.arm {E : List Va} {s : Sc} (h : ScT E s) : ScT E s.arm := ⟨h.ready, (fun v hv => by simp [Sc.arm] at hv), h.lasts⟩
theorem ScT.toAll {E : List Va} {s : Sc} (h : ScT E s) : ScT E s.toAll := ⟨h.all, h.all, h.lasts⟩
theorem ScT.ext {E F : List Va} {s : Sc} (h : ScT E s) : ScT (E ++ F) s := ⟨fun v hv => List.mem_append_left _ (h.ready v hv), fun v hv => List.mem_append_left _ (h.all v hv), fun v hv => List.mem_append_left _ (h.lasts v hv)⟩
section
variable {E : List Va}
theorem ht_sc {k o n : Int} {s : Str} {t : Ty} (h : FinT E (Ex.sc k o n s) [] t) : HasT E (Ex.sc k o n s) t := .mk [] rfl (by simp) (fun i hi => by simp [Ex.sc, Ex.kids] at hi) h
theorem ht_const {t : Ty} {e : Ex} (h : isConst t e) : HasT E e t := by
  rcases h with ⟨rfl, k, _, rfl⟩ | ⟨rfl, k, _, rfl⟩ | ⟨rfl, c, hc, rfl⟩
  · exact ht_sc (.inr (.inl ⟨rfl, rfl⟩))
  · exact ht_sc (.inl ⟨rfl, rfl⟩)
  · exact ht_sc (.inr (.inr (.inl ⟨rfl, hc, rfl⟩)))
theorem ht_rd (hd : (E.map Va.name).Nodup) {l : List Va} {t : Ty} {s : Str} {k : Int} (hk : k = 4 ∨ k = 5) (hl : ∀ v ∈ l, v ∈ E) (h : isVar l t s) : HasT E (Ex.sc k 0 0 s) t := by
  obtain ⟨v, hv, rfl, _, rfl⟩ := h
  exact ht_sc (.inr (.inr (.inr (.inl ⟨hk, tyOf_mem hd (hl v hv)⟩))))
theorem ht_vc (hd : (E.map Va.name).Nodup) {l : List Va} {t : Ty} {e : Ex} (hl : ∀ v ∈ l, v ∈ E) (h : isVC l t e) : HasT E e t := by
  rcases h with ⟨x, hx, rfl⟩ | h
  · exact ht_rd hd (.inl rfl) hl hx
  · exact ht_const h
theorem ht_two {k o n : Int} {s : Str} {ns : List Str} {a b : Ex} {x y t : Ty} {ln cl : Int} (ha : HasT E a x) (hb : HasT E b y) (h : FinT E (.mk k o n s ns [a, b] ln cl) [x, y] t) : HasT E (.mk k o n s ns [a, b] ln cl) t := .mk [x, y] rfl (by simp) (fun i hi hi' => by
  match i, hi, hi' with
  | 0, _, _ => exact ha
  | 1, _, _ => exact hb) h
theorem ht_one {k o n : Int} {s : Str} {ns : List Str} {a : Ex} {x t : Ty} {ln cl : Int} (ha : HasT E a x) (h : FinT E (.mk k o n s ns [a] ln cl) [x] t) : HasT E (.mk k o n s ns [a] ln cl) t := .mk [x] rfl (by simp) (fun i hi hi' => by
  match i, hi, hi' with
  | 0, _, _ => exact ha) h
theorem ht_three {k o n : Int} {s : Str} {ns : List Str} {a b c : Ex} {x y z t : Ty} {ln cl : Int} (ha : HasT E a x) (hb : HasT E b y) (hc : HasT E c z) (h : FinT E (.mk k o n s ns [a, b, c] ln cl) [x, y, z] t) : HasT E (.mk k o n s ns [a, b, c] ln cl) t := .mk [x, y, z] rfl (by simp) (fun i hi hi' => by
  match i, hi, hi' with
  | 0, _, _ => exact ha
  | 1, _, _ => exact hb
  | 2, _, _ => exact hc) h
theorem ht_op {k o n : Int} {s : Str} {ns : List Str} {ks : List Ex} {ln cl : Int} {Ts : List Ty} {i r : Int} {u t : Ty} (hk : k = 6 ∨ k = 7) (ho : opT o = some (i, r)) (hu : ∀ x ∈ Ts, x = u) (hi : i = 0 ∨ u.kind = i) (ht : t = ⟨r, sE⟩) : FinT E (.mk k o n s ns ks ln cl) Ts t :=
  .inr (.inr (.inr (.inr (.inl ⟨hk, i, r, u, ho, hu, hi, ht⟩))))
theorem ht_ex (hd : (E.map Va.name).Nodup) : ∀ (d : Nat) (s : Sc) (t : Ty) (st : Bool) (e : Ex), ScT E s → GEx d s t st e → HasT E e t
  | 0, s, t, st, e, hs, h => ht_vc hd hs.ready h
  | d + 1, s, t, st, e, hs, h => by
    have ih := ht_ex hd d
    rcases h with h | ⟨c, a, b, hc, ha, hb, rfl⟩ | ⟨_, c, b, hc, hb, rfl⟩ | ⟨_, a, b, ha, hb, rfl⟩ | ⟨x, hx, rfl⟩ | h
    · exact ht_vc hd hs.ready h
    · exact ht_three (ih _ _ _ _ hs hc) (ih _ _ _ _ hs ha) (ih _ _ _ _ hs hb) (.inr (.inr (.inr (.inr (.inr (.inl ⟨rfl, rfl⟩))))))
    · exact ht_two (ht_const hc) (ih _ _ _ _ hs.toAll hb) (.inr (.inr (.inr (.inr (.inr (.inr (.inl ⟨.inl rfl, rfl⟩)))))))
    · exact ht_two (ih _ _ _ _ hs ha) (ht_one (ih _ _ _ _ hs.toAll hb) (.inr (.inr (.inr (.inr (.inr (.inr (.inr (.inl ⟨rfl, rfl⟩))))))))) (.inr (.inr (.inr (.inr (.inr (.inr (.inl ⟨.inr rfl, rfl⟩)))))))
    · exact ht_rd hd (.inr rfl) hs.lasts hx
    · rcases h with ⟨rfl, a, ha, rfl⟩ | ⟨rfl, o, a, b, ho, ha, hb, rfl⟩ | ⟨rfl, a, ha, rfl⟩ | ⟨rfl, o, u, a, b, ho, ha, hb, rfl⟩ | h
      · exact ht_one (ih _ _ _ _ hs ha) (ht_op (i := 2) (r := 2) (u := tyI) (.inl rfl) rfl (fun x hx => by rw [List.mem_singleton] at hx; exact hx) (.inr rfl) rfl)
      · refine ht_two (ih _ _ _ _ hs ha) (ih _ _ _ _ hs hb) (ht_op (i := 2) (r := 2) (u := tyI) (.inr rfl) ?_ (fun x hx => by simp only [List.mem_cons, List.not_mem_nil, or_false] at hx; rcases hx with rfl | rfl <;> rfl) (.inr rfl) rfl)
        unfold opT
        rw [if_neg (by omega), if_pos (.inr ho)]
      · exact ht_one (ih _ _ _ _ hs ha) (ht_op (i := 1) (r := 1) (u := tyB) (.inl rfl) rfl (fun x hx => by rw [List.mem_singleton] at hx; exact hx) (.inr rfl) rfl)
      · have hu : ∀ x ∈ [u, u], x = u := fun x hx => by simp only [List.mem_cons, List.not_mem_nil, or_false] at hx; rcases hx with rfl | rfl <;> rfl
        rcases ho with ⟨ho, rfl⟩ | ⟨ho, rfl⟩ | ⟨ho, hu2⟩
        · refine ht_two (ih _ _ _ _ hs ha) (ih _ _ _ _ hs hb) (ht_op (i := 1) (r := 1) (u := tyB) (.inr rfl) ?_ hu (.inr rfl) rfl)
          rcases ho with rfl | rfl | rfl <;> rfl
        · refine ht_two (ih _ _ _ _ hs ha) (ih _ _ _ _ hs hb) (ht_op (i := 2) (r := 1) (u := tyI) (.inr rfl) ?_ hu (.inr rfl) rfl)
          rcases ho with rfl | rfl <;> rfl
        · subst ho
          exact ht_two (ih _ _ _ _ hs ha) (ih _ _ _ _ hs hb) (ht_op (i := 0) (r := 1) (u := u) (.inr rfl) rfl hu (.inl rfl) rfl)
      · exact ht_vc hd hs.ready h
end
theorem stl_mk {k o n : Int} {s : Str} {ns : List Str} {ks : List Ex} {ln cl : Int} (hk : k ≠ 9 ∧ k ≠ 10 ∧ k ≠ 11) (h : ∀ e ∈ ks, Stl e) : Stl (.mk k o n s ns ks ln cl) :=
  .mk hk fun i hi => h _ (List.getElem_mem hi)
theorem stl_const {t : Ty} {e : Ex} (h : isConst t e) : Stl e := by
  rcases h with ⟨_, k, _, rfl⟩ | ⟨_, k, _, rfl⟩ | ⟨_, c, _, rfl⟩ <;> exact stl_mk ⟨by omega, by omega, by omega⟩ (fun e he => by simp at he)
theorem stl_vc {l : List Va} {t : Ty} {e : Ex} (h : isVC l t e) : Stl e := by
  rcases h with ⟨x, _, rfl⟩ | h
  · exact stl_mk ⟨by omega, by omega, by omega⟩ (fun e he => by simp at he)
  · exact stl_const h
theorem stl_ex : ∀ (d : Nat) (s : Sc) (t : Ty) (e : Ex), GEx d s t false e → Stl e
  | 0, s, t, e, h => stl_vc h
  | d + 1, s, t, e, h => by
    have ih := stl_ex d
    rcases h with h | ⟨c, a, b, hc, ha, hb, rfl⟩ | ⟨hst, _⟩ | ⟨hst, _⟩ | ⟨x, hx, rfl⟩ | h
    · exact stl_vc h
    · refine stl_mk ⟨by omega, by omega, by omega⟩ (fun e he => ?_)
      simp only [List.mem_cons, List.not_mem_nil, or_false] at he
      rcases he with rfl | rfl | rfl
      · exact ih _ _ _ hc
      · exact ih _ _ _ ha
      · exact ih _ _ _ hb
    · cases hst
    · cases hst
    · exact stl_mk ⟨by omega, by omega, by omega⟩ (fun e he => by simp at he)
    · rcases h with ⟨_, a, ha, rfl⟩ | ⟨_, o, a, b, _, ha, hb, rfl⟩ | ⟨_, a, ha, rfl⟩ | ⟨_, o, u, a, b, _, ha, hb, rfl⟩ | h
      · exact stl_mk ⟨by omega, by omega, by omega⟩ (fun e he => by rw [List.mem_singleton] at he; subst he; exact ih _ _ _ ha)
      · refine stl_mk ⟨by omega, by omega, by omega⟩ (fun e he => ?_)
        simp only [List.mem_cons, List.not_mem_nil, or_false] at he
        rcases he with rfl | rfl
        · exact ih _ _ _ ha
        · exact ih _ _ _ hb
      · exact stl_mk ⟨by omega, by omega, by omega⟩ (fun e he => by rw [List.mem_singleton] at he; subst he; exact ih _ _ _ ha)
      · refine stl_mk ⟨by omega, by omega, by omega⟩ (fun e he => ?_)
        simp only [List.mem_cons, List.not_mem_nil, or_false] at he
        rcases he with rfl | rfl
        · exact ih _ _ _ ha
        · exact ih _ _ _ hb
      · exact stl_vc h
theorem wy_ways {E : List Va} (hd : (E.map Va.name).Nodup) {s : Sc} {nn : Int} {l : List Tr} (hs : ScT E s) (h : GWays s nn l) : WyT E l := fun t ht => by
  obtain ⟨e, k, b, he, _, rfl⟩ := h.2 t ht
  exact ⟨ht_ex hd _ ⟨s.ready, [], s.lasts⟩ _ _ _ ⟨hs.ready, (fun v hv => by cases hv), hs.lasts⟩ he, stl_ex _ _ _ _ he⟩
/-- No name between two counts is there but these. -/
def NoIn (E : List Va) (n n' : Nat) (vs : List Va) : Prop := ∀ x ∈ E, ∀ k, isNm x.name k → n < k → k ≤ n' → x ∈ vs
theorem nd_app {E V : List Va} {n n' : Nat} (hd : (E.map Va.name).Nodup) (hi : Inc n n' V) (hno : NoIn E n n' []) : ((E ++ V).map Va.name).Nodup := by
  rw [List.map_append, List.nodup_append]
  refine ⟨hd, hi.nd, fun a ha b hb e => ?_⟩
  obtain ⟨x, hx, rfl⟩ := List.mem_map.1 ha
  obtain ⟨v, hv, rfl⟩ := List.mem_map.1 hb
  obtain ⟨k, k1, k2, k3⟩ := hi.nm v hv
  have := hno x hx k (by rw [e]; exact k3) k1 k2
  simp at this
theorem chn_ty {R : Nat → Nat → Nat → Am → Prop} {Q : Am → Prop} (hR : ∀ j n n' a, R j n n' a → n ≤ n') {lo hi : Nat} (h : ∀ j n n' a, R j n n' a → lo ≤ n → n' ≤ hi → Q a) : ∀ (l : List Am) (j n n' : Nat), Chn R j n n' l → lo ≤ n → n' ≤ hi → ∀ a ∈ l, Q a
  | [], _, _, _, _, _, _, a, ha => by simp at ha
  | b :: l, j, n, n', ⟨n1, h1, h2⟩, hlo, hhi, a, ha => by
    have e1 := hR _ _ _ _ h1
    have e2 := chn_le hR h2
    rcases List.mem_cons.1 ha with rfl | ha
    · exact h _ _ _ _ h1 hlo (by omega)
    · exact chn_ty hR h l _ _ _ h2 (by omega) hhi a ha
/-- Of what is made for a block: it has no last value; it is sampled by a colour of the block, or not. -/
def VsT (vs : List Va) : Prop := ∀ v ∈ vs, v.last = false ∧ (v.clock = [] ∨ ∃ c ∈ vs, c.t = tyC ∧ v.clock = [⟨sRed, c.name⟩])
section
variable {RB : RBT} {PB : List Va → List Va → List Qu → Prop} {K : Nat} (ns : List No) (subs : Int) (hsub : subs ≤ ns.length)
  (hinc : ∀ n n' s outs b, RB n n' s outs b → Inc n n' b.vars)
  (hRB : ∀ n n' s outs b, RB n n' s outs b → n' ≤ 4000000 → ∀ (E : List Va), E.length ≤ K → (E.map Va.name).Nodup → ScT E s → (∀ v ∈ outs, v ∈ E) → NoIn E n n' [] → PB E b.vars b.eqs)
include hsub hinc hRB
theorem tyq_defs {E : List Va} (hd : (E.map Va.name).Nodup) {s : Sc} (hs : ScT E s) : ∀ (outs : List Va) (l : List Qu), (∀ v ∈ outs, v ∈ E) → GDefs s outs l → ∀ q ∈ l, TyQ ns PB E q
  | [], l, _, h, q, hq => by cases h; simp at hq
  | v :: r, l, ho, ⟨e, l', he, hl, h2⟩, q, hq => by
    subst hl
    rcases List.mem_cons.1 hq with rfl | hq
    · exact .inl ⟨rfl, v.name, [], v.t, rfl, tyOf_mem hd (ho v (List.mem_cons_self ..)), ht_ex hd _ _ _ _ _ hs he⟩
    · exact tyq_defs hd hs r l' (fun w hw => ho w (List.mem_cons_of_mem _ hw)) h2 q hq
theorem eqs_ty {n n' : Nat} {s : Sc} {outs : List Va} {l : List Qu} {vs : List Va} (h : GEqs RB subs n n' s outs l vs) : n' ≤ 4000000 → ∀ (E : List Va), E.length ≤ K → (E.map Va.name).Nodup → ScT E s → (∀ v ∈ outs, v ∈ E) → (∀ v ∈ vs, v ∈ E) → NoIn E n n' vs → ∀ q ∈ l, TyQ ns PB E q := by
  induction h with
  | defs h => intro _ E _ hd hs ho _ _; exact tyq_defs ns subs hsub hinc hRB hd hs _ _ ho h
  | @choice n n' s outs x h =>
    intro hn E hE hd hs ho hv hno q hq
    rw [List.mem_singleton] at hq
    subst hq
    obtain ⟨t, nms, e, ar, hns, he, har, hc, rfl⟩ := h
    refine .inr (.inr (.inr (.inl ⟨rfl, ⟨t, ?_, ht_ex hd _ _ _ _ _ hs he⟩, ?_⟩)))
    · rcases hns with ⟨rfl, rfl⟩ | ⟨rfl, rfl⟩
      · exact .inl ⟨rfl, har⟩
      · exact .inr ⟨rfl, har⟩
    · exact chn_ty (Q := fun a => PB E a.vars a.eqs) (lo := n) (hi := n') (fun j n n' a ⟨nm, l, b, _, _, hb, _⟩ => (hinc _ _ _ _ _ hb).le) (fun j n1 n2 a ⟨nm, l, b, hl1, hl2, hb, ha⟩ hlo hhi => by
        subst ha
        exact hRB _ _ _ _ _ hb (by omega) E hE hd hs.arm (fun v hv => ho v (isLess_sub hl1 v hv)) (fun x hx k hk k1 k2 => hno x hx k hk (by omega) (by omega))) _ _ _ _ hc (Nat.le_refl _) (Nat.le_refl _)
  | @auto n n' s outs x h =>
    intro hn E hE hd hs ho hv hno q hq
    rw [List.mem_singleton] at hq
    subst hq
    obtain ⟨nn, ar, _, _, hc, rfl⟩ := h
    refine .inr (.inr (.inr (.inr ⟨rfl, ?_⟩)))
    exact chn_ty (Q := fun a => WyT E a.unl ∧ PB E a.vars a.eqs ∧ WyT (E ++ a.vars) a.til) (lo := n) (hi := n') (fun j n n' a ⟨l, u, b, w, _, _, _, hb, _, _⟩ => (hinc _ _ _ _ _ hb).le) (fun j n1 n2 a ⟨l, u, b, w, hl1, hl2, hu, hb, hw, ha⟩ hlo hhi => by
      subst ha
      have hol1 : ∀ v ∈ l, v ∈ E := fun v hv => ho v (isLess_sub hl1 v hv)
      have hno1 : NoIn E n1 n2 [] := fun x hx k hk k1 k2 => hno x hx k hk (by omega) (by omega)
      exact ⟨wy_ways hd hs hu, hRB _ _ _ _ _ hb (by omega) E hE hd hs.arm hol1 hno1, wy_ways (nd_app hd (hinc _ _ _ _ _ hb) hno1) (hs.more hol1).ext hw⟩) _ _ _ _ hc (Nat.le_refl _) (Nat.le_refl _)
  | @reset n n' s outs x h =>
    intro hn E hE hd hs ho hv hno q hq
    rw [List.mem_singleton] at hq
    subst hq
    obtain ⟨e, b, he, hb, rfl⟩ := h
    exact .inr (.inr (.inl ⟨rfl, ⟨_, [], rfl, hRB _ _ _ _ _ hb hn E hE hd hs ho hno⟩, ht_ex hd _ _ _ _ _ hs he⟩))
  | @call n n' s outs x y z l vs h _ ih =>
    intro hn E hE hd hs ho hv hno q hq
    obtain ⟨k, a, b, hb, e, hk, rfl, rfl, ha, hbx, he, rfl⟩ := h
    have vx := hv _ (List.mem_cons_self ..)
    have vy := hv _ (List.mem_cons_of_mem _ (List.mem_cons_self ..))
    rcases List.mem_cons.1 hq with rfl | hq
    · refine .inr (.inl ⟨rfl, k, _, _, a, b, by omega, rfl, rfl, rfl, tyOf_mem hd vx, tyOf_mem hd vy, ht_ex hd _ _ _ _ _ hs ha, ht_ex hd _ _ _ _ _ hs hbx, fun hh => ?_⟩)
      rcases he with ⟨hz, _⟩ | ⟨_, he⟩
      · simp only [Qu.has] at hh; rw [hz] at hh; cases hh
      · exact ht_ex hd _ _ _ _ _ hs he
    · refine ih hn E hE hd (hs.more fun w hw => ?_) ho (fun w hw => hv w (List.mem_cons_of_mem _ (List.mem_cons_of_mem _ hw))) (fun w hw k hk k1 k2 => ?_) q hq
      · simp only [List.mem_cons, List.not_mem_nil, or_false] at hw
        rcases hw with rfl | rfl
        · exact vx
        · exact vy
      · have hv2 := hno w hw k hk (by omega) k2
        simp only [List.mem_cons] at hv2
        rcases hv2 with rfl | rfl | hv2
        · have := isNm_inj hk (isNm_of _ _); omega
        · have := isNm_inj hk (isNm_of _ _); omega
        · exact hv2
  | @samp n n' s outs c w z q1 q2 q3 l vs h _ ih =>
    intro hn E hE hd hs ho hv hno q hq
    obtain ⟨e1, e2, e3, k1, kp, rfl, rfl, rfl, g1, g2, g3, hk1, hkp, rfl, rfl, rfl⟩ := h
    have vc := hv _ (List.mem_cons_self ..)
    have vw := hv _ (List.mem_cons_of_mem _ (List.mem_cons_self ..))
    have vz := hv _ (List.mem_cons_of_mem _ (List.mem_cons_of_mem _ (List.mem_cons_self ..)))
    have tc := tyOf_mem hd vc
    have tw := tyOf_mem hd vw
    have tz := tyOf_mem hd vz
    have x1 := ht_ex hd _ _ _ _ _ hs g1
    have x2 := ht_ex hd _ _ _ _ _ hs g2
    have x3 := ht_ex hd _ _ _ _ _ hs g3
    have xw : HasT E (vaE (clVa (nameS ⟨#[119]⟩ (n + 2)) tyI [⟨sRed, nameS ⟨#[99]⟩ (n + 1)⟩])) tyI := .mk [] rfl (by simp) (fun i hi => by simp [vaE, Ex.kids] at hi) (.inr (.inr (.inr (.inl ⟨.inl rfl, tw⟩))))
    have wh : ∀ (nm : Str) (e : Ex), nm ∈ cols → HasT E e tyI → Stl e → HasT E (whE (mkVa (nameS ⟨#[99]⟩ (n + 1)) tyC) nm e) tyI := fun nm e hnm he hst =>
      ht_one he (.inr (.inr (.inr (.inr (.inr (.inr (.inr (.inr (.inl ⟨rfl, tc, ⟨nm, [], rfl, hnm⟩, ⟨e, [], rfl, hst⟩, [], rfl⟩)))))))))
    rcases List.mem_cons.1 hq with rfl | hq
    · exact .inl ⟨rfl, _, [], tyC, rfl, tc, x3⟩
    rcases List.mem_cons.1 hq with rfl | hq
    · refine .inl ⟨rfl, _, [], tyI, rfl, tw, ?_⟩
      rcases hkp with rfl | ⟨k2, hk2, rfl⟩
      · exact wh sRed e1 (by simp) x1 (stl_ex _ _ _ _ g1)
      · refine ht_two (ht_const hk2) (ht_two xw (wh sRed e1 (by simp) x1 (stl_ex _ _ _ _ g1)) (ht_op (i := 2) (r := 2) (u := tyI) (.inr rfl) rfl (fun x hx => by simp only [List.mem_cons, List.not_mem_nil, or_false] at hx; rcases hx with rfl | rfl <;> rfl) (.inr rfl) rfl)) (.inr (.inr (.inr (.inr (.inr (.inr (.inl ⟨.inl rfl, rfl⟩)))))))
    rcases List.mem_cons.1 hq with rfl | hq
    · exact .inl ⟨rfl, _, [], tyI, rfl, tz, ht_three (wh sGreen e2 (by simp) x2 (stl_ex _ _ _ _ g2)) xw (ht_const hk1) (.inr (.inr (.inr (.inr (.inr (.inr (.inr (.inr (.inr ⟨rfl, tc, rfl, rfl⟩)))))))))⟩
    · refine ih hn E hE hd (hs.more fun w hw => ?_) ho (fun w hw => hv w (List.mem_cons_of_mem _ (List.mem_cons_of_mem _ (List.mem_cons_of_mem _ hw)))) (fun w hw k hk k1 k2 => ?_) q hq
      · simp only [List.mem_cons, List.not_mem_nil, or_false] at hw
        rcases hw with rfl | rfl
        · exact vc
        · exact vz
      · have hv2 := hno w hw k hk (by omega) k2
        simp only [List.mem_cons] at hv2
        rcases hv2 with rfl | rfl | rfl | hv2
        · have := isNm_inj hk (isNm_of _ _); omega
        · have := isNm_inj hk (isNm_of _ _); omega
        · have := isNm_inj hk (isNm_of _ _); omega
        · exact hv2
theorem todo_ty {n n' : Nat} {s : Sc} {outs : List Va} {l : List Qu} {vs : List Va} (h : GTodo (GEqs RB subs) n n' s outs l vs) : n' ≤ 4000000 → ∀ (E : List Va), E.length ≤ K → (E.map Va.name).Nodup → ScT E s → (∀ v ∈ outs, v ∈ E) → (∀ v ∈ vs, v ∈ E) → NoIn E n n' vs → ∀ q ∈ l, TyQ ns PB E q := by
  have hle : ∀ n n' s outs b, RB n n' s outs b → n ≤ n' := fun n n' s outs b h => (hinc _ _ _ _ _ h).le
  induction h with
  | nil => intro _ E _ _ _ _ _ _ q hq; simp at hq
  | @step n n1 n' s a r l vs l' vs' ha1 ha h h2 ih =>
    intro hn E hE hd hs ho hv hno q hq
    have i1 := eqs_inc hle h
    have i2 := todo_inc hle h2
    have hle2 := i2.le
    have hle1 := i1.le
    have hoa : ∀ v ∈ a, v ∈ E := fun v hv => ho v (List.mem_append_left _ hv)
    rcases List.mem_append.1 hq with hq | hq
    · exact eqs_ty ns subs hsub hinc hRB h (by omega) E hE hd hs hoa (fun v hv2 => hv v (List.mem_append_left _ hv2)) (fun x hx k hk k1 k2 => by
        rcases List.mem_append.1 (hno x hx k hk k1 (by omega)) with hv2 | hv2
        · exact hv2
        · obtain ⟨j, j1, j2, j3⟩ := i2.nm x hv2
          have := isNm_inj hk j3
          omega) q hq
    · exact ih hn E hE hd (hs.more hoa) (fun v hv2 => ho v (List.mem_append_right _ hv2)) (fun v hv2 => hv v (List.mem_append_right _ hv2)) (fun x hx k hk k1 k2 => by
        rcases List.mem_append.1 (hno x hx k hk (by omega) k2) with hv2 | hv2
        · obtain ⟨j, j1, j2, j3⟩ := i1.nm x hv2
          have := isNm_inj hk j3
          omega
        · exact hv2) q hq
end
theorem eqs_vt {RB : RBT} {subs : Int} {n n' : Nat} {s : Sc} {outs : List Va} {l : List Qu} {vs : List Va} (h : GEqs RB subs n n' s outs l vs) : VsT vs := by
  induction h with
  | defs h => intro v hv; simp at hv
  | choice h => intro v hv; simp at hv
  | auto h => intro v hv; simp at hv
  | reset h => intro v hv; simp at hv
  | call h _ ih =>
    obtain ⟨k, a, b, hb, e, _, rfl, rfl, _⟩ := h
    intro v hv
    rcases List.mem_cons.1 hv with rfl | hv
    · exact ⟨rfl, .inl rfl⟩
    rcases List.mem_cons.1 hv with rfl | hv
    · exact ⟨rfl, .inl rfl⟩
    · obtain ⟨h0, h | ⟨c, hc, h1, h2⟩⟩ := ih v hv
      · exact ⟨h0, .inl h⟩
      · exact ⟨h0, .inr ⟨c, List.mem_cons_of_mem _ (List.mem_cons_of_mem _ hc), h1, h2⟩⟩
  | samp h _ ih =>
    obtain ⟨e1, e2, e3, k1, kp, rfl, rfl, rfl, _⟩ := h
    intro v hv
    rcases List.mem_cons.1 hv with rfl | hv
    · exact ⟨rfl, .inl rfl⟩
    rcases List.mem_cons.1 hv with rfl | hv
    · exact ⟨rfl, .inr ⟨_, List.mem_cons_self .., rfl, rfl⟩⟩
    rcases List.mem_cons.1 hv with rfl | hv
    · exact ⟨rfl, .inl rfl⟩
    · obtain ⟨h0, h | ⟨c, hc, h1, h2⟩⟩ := ih v hv
      · exact ⟨h0, .inl h⟩
      · exact ⟨h0, .inr ⟨c, List.mem_cons_of_mem _ (List.mem_cons_of_mem _ (List.mem_cons_of_mem _ hc)), h1, h2⟩⟩
theorem todo_vt {RB : RBT} {subs : Int} {n n' : Nat} {s : Sc} {outs : List Va} {l : List Qu} {vs : List Va} (h : GTodo (GEqs RB subs) n n' s outs l vs) : VsT vs := by
  induction h with
  | nil => intro v hv; simp at hv
  | step _ _ h _ ih =>
    intro v hv
    rcases List.mem_append.1 hv with hv | hv
    · obtain ⟨h0, h | ⟨c, hc, h1, h2⟩⟩ := eqs_vt h v hv
      · exact ⟨h0, .inl h⟩
      · exact ⟨h0, .inr ⟨c, List.mem_append_left _ hc, h1, h2⟩⟩
    · obtain ⟨h0, h | ⟨c, hc, h1, h2⟩⟩ := ih v hv
      · exact ⟨h0, .inl h⟩
      · exact ⟨h0, .inr ⟨c, List.mem_append_right _ hc, h1, h2⟩⟩
theorem own_vt (E : List Va) : ∀ {l : List Va} {n : Nat}, GOwn n l → ∀ v ∈ l, VaT E v
  | [], n, _, v, hv => by simp at hv
  | w :: l, n, ⟨h1, h2⟩, v, hv => by
    rcases List.mem_cons.1 hv with rfl | hv
    · obtain ⟨t, la, e, _, hl, rfl⟩ := h1
      refine ⟨fun hla => ?_, fun o ho => by simp at ho⟩
      rcases hl with ⟨rfl, _⟩ | ⟨_, hc⟩
      · cases hla
      · exact ht_const hc
    · exact own_vt E h2 v hv
section
variable {RB : RBT} {PB : List Va → List Va → List Qu → Prop} {K : Nat} (ns : List No) (subs : Int) (hsub : subs ≤ ns.length)
  (hinc : ∀ n n' s outs b, RB n n' s outs b → Inc n n' b.vars)
  (hRB : ∀ n n' s outs b, RB n n' s outs b → n' ≤ 4000000 → ∀ (E : List Va), E.length ≤ K → (E.map Va.name).Nodup → ScT E s → (∀ v ∈ outs, v ∈ E) → NoIn E n n' [] → PB E b.vars b.eqs)
include hsub hinc hRB
theorem blk_ty {n n' : Nat} {s : Sc} {outs : List Va} {b : Bk} (h : GBlk (GEqs RB subs) n n' s outs b) (hn : n' ≤ 4000000) (E : List Va) (hE : E.length + 4000000 ≤ K) (hK : K ≤ 2 ^ 29) (hd : (E.map Va.name).Nodup) (hs : ScT E s) (ho : ∀ v ∈ outs, v ∈ E) (hno : NoIn E n n' []) :
    E.length + b.vars.length ≤ 2 ^ 29 ∧ (∀ v ∈ b.vars, VaT (E ++ b.vars) v) ∧ ∀ q ∈ b.eqs, TyQ ns PB (E ++ b.vars) q := by
  have hle : ∀ n n' s outs b, RB n n' s outs b → n ≤ n' := fun n n' s outs b h => (hinc _ _ _ _ _ h).le
  have hic := blk_inc hle h
  obtain ⟨own, l, vs, hownl, hown, ht, rfl⟩ := h
  have hlen := hic.len
  simp only [] at hic hlen ⊢
  obtain ⟨V, hV⟩ : ∃ V, own ++ vs = V := ⟨_, rfl⟩
  rw [hV] at hic hlen ⊢
  have hdV := nd_app hd hic hno
  have hoV : ∀ v ∈ own, v ∈ E ++ V := fun v hv => List.mem_append_right _ (by rw [← hV]; exact List.mem_append_left _ hv)
  have hvV : ∀ v ∈ vs, v ∈ E ++ V := fun v hv => List.mem_append_right _ (by rw [← hV]; exact List.mem_append_right _ hv)
  have hout : ∀ v ∈ outs, v ∈ E ++ V := fun v hv => List.mem_append_left _ (ho v hv)
  have hoo : ∀ v ∈ own ++ outs, v ∈ E ++ V := fun v hv => (List.mem_append.1 hv).elim (hoV v) (hout v)
  have hs2 : ScT (E ++ V) ⟨s.ready, s.ready ++ own ++ outs, addLasts s.lasts (own ++ outs)⟩ := by
    refine ⟨fun v hv => List.mem_append_left _ (hs.ready v hv), fun v hv => ?_, fun v hv => ?_⟩
    · rw [List.append_assoc] at hv
      rcases List.mem_append.1 hv with hv | hv
      · exact List.mem_append_left _ (hs.ready v hv)
      · exact hoo v hv
    · rcases addLasts_sub v hv with hv | hv
      · exact List.mem_append_left _ (hs.lasts v hv)
      · exact hoo v hv
  have hio := Inc.own hown
  have hno2 : NoIn (E ++ V) (n + own.length) n' vs := fun x hx k hk k1 k2 => by
    rcases List.mem_append.1 hx with hx | hx
    · have := hno x hx k hk (by omega) k2
      simp at this
    · rw [← hV] at hx
      rcases List.mem_append.1 hx with hx | hx
      · obtain ⟨j, j1, j2, j3⟩ := hio.nm x hx
        have := isNm_inj hk j3
        omega
      · exact hx
  refine ⟨by omega, fun v hv => ?_, todo_ty ns subs hsub hinc hRB ht hn (E ++ V) (by rw [List.length_append]; omega) hdV hs2 hoo hvV hno2⟩
  rw [← hV] at hv
  rcases List.mem_append.1 hv with hv | hv
  · exact own_vt _ hown v hv
  · obtain ⟨h0, hc⟩ := todo_vt ht v hv
    refine ⟨(fun hl => by rw [h0] at hl; cases hl), fun o ho => ?_⟩
    rcases hc with hc | ⟨c, hcv, h1, h2⟩
    · rw [hc] at ho; simp at ho
    · rw [h2, List.mem_singleton] at ho
      subst ho
      have := tyOf_mem hdV (hvV c hcv)
      rw [h1] at this
      exact ⟨this, by simp⟩
end
theorem bk_ty (ns : List No) (subs : Int) (hsub : subs ≤ ns.length) : ∀ (d : Nat) (n n' : Nat) (s : Sc) (outs : List Va) (b : Bk), GBk d subs n n' s outs b → n' ≤ 4000000 → ∀ (E : List Va), E.length + (d + 1) * 4000000 ≤ 2 ^ 29 → (E.map Va.name).Nodup → ScT E s → (∀ v ∈ outs, v ∈ E) → NoIn E n n' [] → TyB ns d E b.vars b.eqs
  | 0, n, n', s, outs, b, h, hn, E, hE, hd, hs, ho, hno =>
    blk_ty (RB := fun _ _ _ _ _ => False) (PB := fun _ _ _ => False) (K := 2 ^ 29) ns subs hsub (fun _ _ _ _ _ h => h.elim) (fun _ _ _ _ _ h => h.elim) h hn E (by omega) (Nat.le_refl _) hd hs ho hno
  | d + 1, n, n', s, outs, b, h, hn, E, hE, hd, hs, ho, hno =>
    blk_ty (RB := GBk d subs) (PB := TyB ns d) (K := 2 ^ 29 - (d + 1) * 4000000) ns subs hsub (fun n n' s outs b h => bk_inc d subs n n' s outs b h) (fun n n' s outs b h hn E hE hd hs ho hno => bk_ty ns subs hsub d n n' s outs b h hn E (by omega) hd hs ho hno) h hn E (by omega) (by omega) hd hs ho hno
end Go.Proofs.YticdboelpgalpaaDoor
