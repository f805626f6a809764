/-
  What is made has a value at first: expressions, equations, blocks.
-/
import Derived.Test.YtfemdelaciccmaaMkH
import Derived.Test.YtfemdelaciccmaaInA
set_option linter.unusedVariables false
set_option linter.unusedSimpArgs false
set_option linter.unusedSectionVars false
namespace Go.Proofs.Ytfemdelaciccmaa
open Go

def FL : Str → Bool := fun _ => false
mutual
/-- What must have a value within an expression has one. -/
def Ex.okI : Ex → Prop
  | .mk k _ _ _ _ ks _ _ => (k = 9 → ∃ a b r, ks = a :: b :: r ∧ mayB FL b = false) ∧ ((k = 10 ∨ k = 11) → ∃ a r, ks = a :: r ∧ mayB FL a = false) ∧ Ex.okIs ks
def Ex.okIs : List Ex → Prop
  | [] => True
  | e :: l => e.okI ∧ Ex.okIs l
end
theorem Ex.okIs_at : ∀ {l : List Ex}, Ex.okIs l → ∀ k (hk : k < l.length), l[k].okI
  | [], _, k, hk => absurd hk (Nat.not_lt_zero k)
  | a :: l, h, 0, hk => h.1
  | a :: l, h, k + 1, hk => Ex.okIs_at (l := l) h.2 k (by simpa using hk)
theorem Ex.okIs_of : ∀ {l : List Ex}, (∀ e ∈ l, e.okI) → Ex.okIs l
  | [], _ => trivial
  | a :: l, h => ⟨h a (List.mem_cons_self ..), Ex.okIs_of fun e he => h e (List.mem_cons_of_mem _ he)⟩
theorem Ex.okI_x {e : Ex} (h : e.okI) : (e.kind = 9 → ∃ a b r, e.kids = a :: b :: r ∧ mayB FL b = false) ∧ ((e.kind = 10 ∨ e.kind = 11) → ∃ a r, e.kids = a :: r ∧ mayB FL a = false) ∧ ∀ k (hk : k < e.kids.length), e.kids[k].okI := by
  cases e
  exact ⟨h.1, h.2.1, Ex.okIs_at h.2.2⟩
theorem Ex.feds_of : ∀ {l : List Ex}, (∀ k (hk : k < l.length), l[k].fed) → Ex.feds l
  | [], _ => trivial
  | a :: l, h => ⟨h 0 (by simp), Ex.feds_of fun k hk => h (k + 1) (by simpa using hk)⟩
theorem Ex.okI_fed {e : Ex} : e.okI → e.fed := by
  refine Ex.ind (motive := fun e => e.okI → e.fed) (fun e ih h => ?_) e
  obtain ⟨h1, h2, h3⟩ := Ex.okI_x h
  have hk := fun k hk => ih k hk (h3 k hk)
  cases e
  refine ⟨fun hq hn => ?_, Ex.feds_of hk⟩
  rcases hq with hq | hq
  · obtain ⟨a, b, r, h, _⟩ := h1 hq
    simp only [Ex.kids] at h
    rw [hn] at h
    cases h
  · obtain ⟨a, r, h, _⟩ := h2 (.inr hq)
    simp only [Ex.kids] at h
    rw [hn] at h
    cases h
/-- An expression has a value. -/
def Ex.sure (e : Ex) : Prop := e.okI ∧ mayB FL e = false
theorem mayH_FL {a : Ex} {l : List Ex} : mayH FL (a :: l) = mayB FL a := by rw [mayH]
/-- Of kinds that but look on. -/
theorem sure_mk {k o n : Int} {s : Str} {ns : List Str} {ks : List Ex} {ln cl : Int} (hk : k ≠ 9 ∧ k ≠ 10 ∧ k ≠ 11) (h : ∀ e ∈ ks, e.sure) : (Ex.mk k o n s ns ks ln cl).sure := by
  refine ⟨⟨fun q => absurd q hk.1, fun q => ?_, Ex.okIs_of fun e he => (h e he).1⟩, ?_⟩
  · rcases q with q | q
    · exact absurd q hk.2.1
    · exact absurd q hk.2.2
  · rw [mayB_eq]
    show (if k = 4 then FL s else if k = 10 then true else if k = 9 ∨ k = 11 then mayH FL ks else ks.any (mayB FL)) = false
    split
    · rfl
    rw [if_neg hk.2.1, if_neg (by rintro (q | q); exact hk.1 q; exact hk.2.2 q)]
    rw [List.any_eq_false]
    intro e he
    rw [(h e he).2]
    simp
theorem sure_sc {k o n : Int} {s : Str} (hk : k ≠ 9 ∧ k ≠ 10 ∧ k ≠ 11) : (Ex.sc k o n s).sure := sure_mk hk (fun e he => by simp at he)
theorem sure_const {t : Ty} {e : Ex} (h : isConst t e) : e.sure := by
  rcases h with ⟨_, k, _, rfl⟩ | ⟨_, k, _, rfl⟩ | ⟨_, c, _, rfl⟩ <;> exact sure_sc ⟨by omega, by omega, by omega⟩
theorem sure_vc {l : List Va} {t : Ty} {e : Ex} (h : isVC l t e) : e.sure := by
  rcases h with ⟨x, _, rfl⟩ | h
  · exact sure_sc ⟨by omega, by omega, by omega⟩
  · exact sure_const h
theorem sure_two {k o : Int} {a b : Ex} (hk : k ≠ 9 ∧ k ≠ 10 ∧ k ≠ 11) (ha : a.sure) (hb : b.sure) : (Ex.two k o a b).sure := sure_mk hk (fun e he => by
  simp only [List.mem_cons, List.not_mem_nil, or_false] at he
  rcases he with rfl | rfl
  · exact ha
  · exact hb)
theorem sure_un {k o : Int} {l : List Ex} (hk : k ≠ 9 ∧ k ≠ 10 ∧ k ≠ 11) (h : ∀ e ∈ l, e.sure) : (Ex.un k o l).sure := sure_mk hk h
theorem sure_fby {o : Int} {a b : Ex} (ha : a.sure) (hb : b.sure) : (Ex.two 9 o a b).sure := by
  refine ⟨⟨fun _ => ⟨a, b, [], rfl, hb.2⟩, fun q => by omega, ⟨ha.1, hb.1, trivial⟩⟩, ?_⟩
  rw [mayB_eq]
  show mayH FL [a, b] = false
  rw [mayH_FL]; exact ha.2
theorem sure_arrow {a b : Ex} (ha : a.sure) (hb : b.sure) : (Ex.two 11 0 a (Ex.un 10 0 [b])).sure := by
  refine ⟨⟨fun q => by omega, fun _ => ⟨a, [_], rfl, ha.2⟩, ⟨ha.1, ⟨fun q => by omega, fun _ => ⟨b, [], rfl, hb.2⟩, ⟨hb.1, trivial⟩⟩, trivial⟩⟩, ?_⟩
  rw [mayB_eq]
  show mayH FL [a, Ex.un 10 0 [b]] = false
  rw [mayH_FL]; exact ha.2
theorem sure_ex : ∀ (d : Nat) (s : Sc) (t : Ty) (st : Bool) (e : Ex), GEx d s t st e → e.sure
  | 0, s, t, st, e, h => sure_vc h
  | d + 1, s, t, st, e, h => by
    have ih := sure_ex d
    rcases h with h | ⟨c, a, b, hc, ha, hb, rfl⟩ | ⟨_, c, b, hc, hb, rfl⟩ | ⟨_, a, b, ha, hb, rfl⟩ | ⟨x, _, rfl⟩ | h
    · exact sure_vc h
    · refine sure_un ⟨by omega, by omega, by omega⟩ (fun e he => ?_)
      simp only [List.mem_cons, List.not_mem_nil, or_false] at he
      rcases he with rfl | rfl | rfl
      · exact ih _ _ _ _ hc
      · exact ih _ _ _ _ ha
      · exact ih _ _ _ _ hb
    · exact sure_fby (sure_const hc) (ih _ _ _ _ hb)
    · exact sure_arrow (ih _ _ _ _ ha) (ih _ _ _ _ hb)
    · exact sure_sc ⟨by omega, by omega, by omega⟩
    · rcases h with ⟨_, a, ha, rfl⟩ | ⟨_, o, a, b, _, ha, hb, rfl⟩ | ⟨_, a, ha, rfl⟩ | ⟨_, o, u, a, b, _, ha, hb, rfl⟩ | h
      · exact sure_un ⟨by omega, by omega, by omega⟩ (fun e he => by rw [List.mem_singleton] at he; subst he; exact ih _ _ _ _ ha)
      · exact sure_two ⟨by omega, by omega, by omega⟩ (ih _ _ _ _ ha) (ih _ _ _ _ hb)
      · exact sure_un ⟨by omega, by omega, by omega⟩ (fun e he => by rw [List.mem_singleton] at he; subst he; exact ih _ _ _ _ ha)
      · exact sure_two ⟨by omega, by omega, by omega⟩ (ih _ _ _ _ ha) (ih _ _ _ _ hb)
      · exact sure_vc h
theorem sure_wh {c : Va} {nm : Str} {e : Ex} (h : e.sure) : (whE c nm e).sure := sure_mk ⟨by omega, by omega, by omega⟩ (fun x hx => by rw [List.mem_singleton] at hx; subst hx; exact h)
theorem sure_va {w : Va} : (vaE w).sure := sure_mk ⟨by omega, by omega, by omega⟩ (fun x hx => by simp at hx)
theorem sure_zE : zE.sure := sure_mk ⟨by omega, by omega, by omega⟩ (fun x hx => by simp at hx)

/-- An equation that is right, its blocks being so. -/
def OkQ (PB : List Va → List Qu → Prop) (q : Qu) : Prop :=
  (q.kind = 1 ∧ q.lhs ≠ [] ∧ q.e.sure) ∨
  (q.kind = 2 ∧ (∀ e ∈ q.args, e.sure) ∧ (q.has = true → q.e.sure)) ∨
  (q.kind = 5 ∧ (∃ a r, q.arms = a :: r ∧ PB a.vars a.eqs) ∧ q.e.sure) ∨
  (q.kind = 3 ∧ q.e.sure ∧ ∀ a ∈ q.arms, PB a.vars a.eqs) ∨
  (q.kind = 4 ∧ ∀ a ∈ q.arms, (∀ t ∈ a.unl, t.e.sure) ∧ PB a.vars a.eqs ∧ (∀ t ∈ a.til, t.e.sure))
def OkB : Nat → List Va → List Qu → Prop
  | 0, _, Q => ∀ q ∈ Q, OkQ (fun _ _ => False) q
  | d + 1, _, Q => ∀ q ∈ Q, OkQ (OkB d) q
section
variable {RB : RBT} {PB : List Va → List Qu → Prop} (hRB : ∀ n n' s outs b, RB n n' s outs b → PB b.vars b.eqs)
include hRB
theorem chn_ok {R : Nat → Nat → Nat → Am → Prop} {Q : Am → Prop} (h : ∀ j n n' a, R j n n' a → Q a) : ∀ (l : List Am) (j n n' : Nat), Chn R j n n' l → ∀ a ∈ l, Q a
  | [], _, _, _, _, a, ha => by simp at ha
  | b :: l, j, n, n', ⟨n1, h1, h2⟩, a, ha => by
    rcases List.mem_cons.1 ha with rfl | ha
    · exact h _ _ _ _ h1
    · exact chn_ok h l _ _ _ h2 a ha
theorem okq_def {v : Va} {e : Ex} (h : e.sure) : OkQ PB (defQ v e) := .inl ⟨rfl, by simp [defQ, Qu.lhs], h⟩
theorem okq_defs {s : Sc} : ∀ (outs : List Va) (l : List Qu), GDefs s outs l → ∀ q ∈ l, OkQ PB q
  | [], l, h, q, hq => by cases h; simp at hq
  | v :: r, l, ⟨e, l', he, hl, h2⟩, q, hq => by
    subst hl
    rcases List.mem_cons.1 hq with rfl | hq
    · exact okq_def hRB (sure_ex _ _ _ _ _ he)
    · exact okq_defs r l' h2 q hq
theorem okq_ways {s : Sc} {nn : Int} {l : List Tr} (h : GWays s nn l) : ∀ t ∈ l, t.e.sure := fun t ht => by
  obtain ⟨e, k, b, he, _, rfl⟩ := h.2 t ht
  exact sure_ex _ _ _ _ _ he
theorem okq_eqs {subs : Int} {n n' : Nat} {s : Sc} {outs : List Va} {l : List Qu} {vs : List Va} (h : GEqs RB subs n n' s outs l vs) : ∀ q ∈ l, OkQ PB q := by
  induction h with
  | defs h => exact okq_defs hRB _ _ h
  | choice h =>
    intro q hq
    rw [List.mem_singleton] at hq
    subst hq
    obtain ⟨t, ns, e, ar, _, he, _, hc, rfl⟩ := h
    refine .inr (.inr (.inr (.inl ⟨rfl, sure_ex _ _ _ _ _ he, ?_⟩)))
    exact chn_ok hRB (Q := fun a => PB a.vars a.eqs) (fun j n n' a ⟨nm, l, b, _, _, hb, ha⟩ => by subst ha; exact hRB _ _ _ _ _ hb) _ _ _ _ hc
  | auto h =>
    intro q hq
    rw [List.mem_singleton] at hq
    subst hq
    obtain ⟨nn, ar, _, _, hc, rfl⟩ := h
    refine .inr (.inr (.inr (.inr ⟨rfl, ?_⟩)))
    exact chn_ok hRB (Q := fun a => (∀ t ∈ a.unl, t.e.sure) ∧ PB a.vars a.eqs ∧ (∀ t ∈ a.til, t.e.sure)) (fun j n n' a ⟨l, u, b, w, _, _, hu, hb, hw, ha⟩ => by subst ha; exact ⟨okq_ways hRB hu, hRB _ _ _ _ _ hb, okq_ways hRB hw⟩) _ _ _ _ hc
  | reset h =>
    intro q hq
    rw [List.mem_singleton] at hq
    subst hq
    obtain ⟨e, b, he, hb, rfl⟩ := h
    exact .inr (.inr (.inl ⟨rfl, ⟨_, [], rfl, hRB _ _ _ _ _ hb⟩, sure_ex _ _ _ _ _ he⟩))
  | call h _ ih =>
    intro q hq
    rcases List.mem_cons.1 hq with rfl | hq
    · obtain ⟨k, a, b, hs, e, _, _, _, ha, hb, he, rfl⟩ := h
      refine .inr (.inl ⟨rfl, fun x hx => ?_, fun hh => ?_⟩)
      · simp only [Qu.args, List.mem_cons, List.not_mem_nil, or_false] at hx
        rcases hx with rfl | rfl
        · exact sure_ex _ _ _ _ _ ha
        · exact sure_ex _ _ _ _ _ hb
      · rcases he with ⟨h0, _⟩ | ⟨_, he⟩
        · simp only [Qu.has] at hh; rw [h0] at hh; cases hh
        · exact sure_ex _ _ _ _ _ he
    · exact ih q hq
  | samp h _ ih =>
    intro q hq
    obtain ⟨e1, e2, e3, k1, kp, _, _, _, h1, h2, h3, hk1, hkp, rfl, rfl, rfl⟩ := h
    have s1 := sure_ex _ _ _ _ _ h1
    have s2 := sure_ex _ _ _ _ _ h2
    rcases List.mem_cons.1 hq with rfl | hq
    · exact okq_def hRB (sure_ex _ _ _ _ _ h3)
    rcases List.mem_cons.1 hq with rfl | hq
    · refine okq_def hRB ?_
      rcases hkp with rfl | ⟨k2, hk2, rfl⟩
      · exact sure_wh s1
      · exact sure_fby (sure_const hk2) (sure_two ⟨by omega, by omega, by omega⟩ sure_va (sure_wh s1))
    rcases List.mem_cons.1 hq with rfl | hq
    · refine okq_def hRB (sure_mk ⟨by omega, by omega, by omega⟩ (fun e he => ?_))
      simp only [List.mem_cons, List.not_mem_nil, or_false] at he
      rcases he with rfl | rfl | rfl
      · exact sure_wh s2
      · exact sure_va
      · exact sure_const hk1
    · exact ih q hq
theorem okq_todo {subs : Int} {n n' : Nat} {s : Sc} {outs : List Va} {l : List Qu} {vs : List Va} (h : GTodo (GEqs RB subs) n n' s outs l vs) : ∀ q ∈ l, OkQ PB q := by
  induction h with
  | nil => intro q hq; simp at hq
  | step _ _ h _ ih =>
    intro q hq
    rcases List.mem_append.1 hq with hq | hq
    · exact okq_eqs hRB h q hq
    · exact ih q hq
end
theorem okb_made : ∀ (d : Nat) (subs : Int) (n n' : Nat) (s : Sc) (outs : List Va) (b : Bk), GBk d subs n n' s outs b → OkB d b.vars b.eqs
  | 0, subs, n, n', s, outs, b, ⟨own, l, vs, _, _, h, hb⟩ => by
    subst hb
    exact okq_todo (RB := fun _ _ _ _ _ => False) (fun _ _ _ _ _ h => h.elim) h
  | d + 1, subs, n, n', s, outs, b, ⟨own, l, vs, _, _, h, hb⟩ => by
    subst hb
    exact okq_todo (RB := GBk d subs) (fun n n' s outs b h => okb_made d subs n n' s outs b h) h
theorem okb_def1 {d : Nat} {V : List Va} {Q : List Qu} (h : OkB d V Q) : ∀ q ∈ Q, q.kind = 1 → q.lhs ≠ [] ∧ q.e.sure := by
  intro q hq hk
  have : ∃ PB, OkQ PB q := by
    cases d with
    | zero => exact ⟨_, h q hq⟩
    | succ d => exact ⟨_, h q hq⟩
  obtain ⟨PB, h⟩ := this
  rcases h with h | h | h | h | h
  · exact h.2
  all_goals (have := h.1; omega)
end Go.Proofs.Ytfemdelaciccmaa
