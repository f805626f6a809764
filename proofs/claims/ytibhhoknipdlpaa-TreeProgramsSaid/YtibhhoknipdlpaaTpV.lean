/-
 What is made: its lists are short, its blocks weigh so much.
-/
-- halved
import Derived.Test.YtibhhoknipdlpaaOU
import Derived.Test.YtibhhoknipdlpaaMkH
set_option linter.unusedVariables false
set_option linter.unusedSimpArgs false
set_option linter.unusedSectionVars false
namespace Go.Proofs.Ytibhhoknipdlpaa
open Go

/-- An expression that is narrow, and no greater than n. -/
def Ex.o2 (n : Nat) (e : Ex) : Prop := e.nar ∧ e.size ≤ n
theorem Ex.o2.ok1 {n : Nat} {e : Ex} (h : e.o2 n) (hn : n ≤ 1000) : e.ok1 := ⟨h.1, Nat.le_trans h.2 hn⟩
theorem o2_sc (k : Int) (op n : Int) (s : Str) (l : List Str) (a b : Int) : (Ex.mk k op n s l [] a b).o2 1 := ⟨⟨by simp, trivial⟩, Nat.le_refl _⟩
theorem o2_const {t : Ty} {e : Ex} (h : isConst t e) : e.o2 1 := by
 rcases h with ⟨_, k, _, rfl⟩ | ⟨_, k, _, rfl⟩ | ⟨_, c, _, rfl⟩ <;> exact o2_sc ..
theorem o2_vc {l : List Va} {t : Ty} {e : Ex} (h : isVC l t e) : e.o2 1 := by
 rcases h with ⟨s, _, rfl⟩ | h
 ·exact o2_sc ..
 ·exact o2_const h
theorem o2_1 {n : Nat} {k op v : Int} {s : Str} {l : List Str} {a b : Int} {x : Ex} (h : x.o2 n) : (Ex.mk k op v s l [x] a b).o2 (1 + n) :=
 ⟨⟨by simp, h.1, trivial⟩, by have := h.2; simp only [Ex.size, Ex.sizes]; omega⟩
theorem o2_2 {n n2 : Nat} {k op v : Int} {s : Str} {l : List Str} {a b : Int} {x y : Ex} (h : x.o2 n) (h2 : y.o2 n2) : (Ex.mk k op v s l [x, y] a b).o2 (1 + n + n2) :=
 ⟨⟨by simp, h.1, h2.1, trivial⟩, by have := h.2; have := h2.2; simp only [Ex.size, Ex.sizes]; omega⟩
theorem o2_3 {n n2 n3 : Nat} {k op v : Int} {s : Str} {l : List Str} {a b : Int} {x y z : Ex} (h : x.o2 n) (h2 : y.o2 n2) (h3 : z.o2 n3) : (Ex.mk k op v s l [x, y, z] a b).o2 (1 + n + n2 + n3) :=
 ⟨⟨by simp, h.1, h2.1, h3.1, trivial⟩, by have := h.2; have := h2.2; have := h3.2; simp only [Ex.size, Ex.sizes]; omega⟩
theorem Ex.o2.le {n k : Nat} {e : Ex} (h : e.o2 n) (hk : n ≤ k) : e.o2 k := ⟨h.1, Nat.le_trans h.2 hk⟩
theorem o2_gex : ∀ (d : Nat) {s : Sc} {t : Ty} {st : Bool} {e : Ex}, GEx d s t st e → e.o2 (4 ^ d)
 | 0, s, t, st, e, h => o2_vc h
 | d + 1, s, t, st, e, h => by
  have hp : 1 ≤ 4 ^ d := Nat.one_le_pow _ _ (by decide)
  have hpow : 4 ^ (d + 1) = 4 * 4 ^ d := by rw [Nat.pow_succ]; omega
  rcases h with h | ⟨c, a, b, h1, h2, h3, rfl⟩ | ⟨_, c, b, h1, h2, rfl⟩ | ⟨_, a, b, h1, h2, rfl⟩ | ⟨x, h1, rfl⟩ | ⟨_, a, h1, rfl⟩ | ⟨_, o, a, b, _, h1, h2, rfl⟩ | ⟨_, a, h1, rfl⟩ | ⟨_, o, u, a, b, _, h1, h2, rfl⟩ | h
  ·exact (o2_vc h).le (by omega)
  ·exact (o2_3 (o2_gex d h1) (o2_gex d h2) (o2_gex d h3)).le (by omega)
  ·exact (o2_2 (o2_const h1) (o2_gex d h2)).le (by omega)
  ·exact (o2_2 (o2_gex d h1) (o2_1 (o2_gex d h2))).le (by omega)
  ·exact (o2_sc ..).le (by omega)
  ·exact (o2_1 (o2_gex d h1)).le (by omega)
  ·exact (o2_2 (o2_gex d h1) (o2_gex d h2)).le (by omega)
  ·exact (o2_1 (o2_gex d h1)).le (by omega)
  ·exact (o2_2 (o2_gex d h1) (o2_gex d h2)).le (by omega)
  ·exact (o2_vc h).le (by omega)
theorem ok_gex {d : Nat} (hd : d ≤ 3) {s : Sc} {t : Ty} {st : Bool} {e : Ex} (h : GEx d s t st e) : e.o2 64 := by
 have : 4 ^ d ≤ 4 ^ 3 := Nat.pow_le_pow_right (by decide) hd
 exact (o2_gex d h).le (by omega)
theorem ok_zE : zE.ok1 := (o2_sc ..).ok1 (by decide)
theorem ok_vaE (v : Va) : (vaE v).o2 1 := o2_sc ..

theorem chn_w {R : Nat → Nat → Nat → Am → Prop} {Q : Am → Prop} {c : Am → Nat} {hi X K : Nat} (hR : ∀ j n n' a, R j n n' a → n ≤ n') (h : ∀ j n n' a, R j n n' a → n' ≤ hi → Q a ∧ c a + n * X ≤ n' * X + K) : ∀ (l : List Am) (j n n' : Nat), Chn R j n n' l → n' ≤ hi → (∀ a ∈ l, Q a) ∧ (l.map c).sum + n * X ≤ n' * X + l.length * K
 | [], _, n, n', hc, _ => by
  have : n' = n := hc
  subst this; exact ⟨(fun a ha => by cases ha), by simp⟩
 | b :: l, j, n, n', ⟨n1, h1, h2⟩, hhi => by
  have e2 := chn_le hR h2
  obtain ⟨p1, p2⟩ := h _ _ _ _ h1 (by omega)
  obtain ⟨q1, q2⟩ := chn_w hR h l _ _ _ h2 hhi
  refine ⟨fun a ha => ?_, by rw [List.map_cons, List.sum_cons, List.length_cons, Nat.add_mul]; omega⟩
  rcases List.mem_cons.1 ha with rfl | ha
  ·exact p1
  ·exact q1 a ha
/-- What is so of a block that is made. -/
structure BkW (PB : List Va → List Qu → Prop) (wb : WbT) (K n n' : Nat) (V : List Va) (Q : List Qu) : Prop where
 good : PB V Q
 wt : wb V Q + n * 8 ≤ n' * 8 + K
/-- A block whose lists are short; of its arms so much is so. -/
def NwS (PB : List Va → List Qu → Prop) (V : List Va) (Q : List Qu) : Prop := V.length ≤ 100000000 ∧ (∀ v ∈ V, v.first.ok1) ∧ Q.length ≤ 100000000 ∧ ∀ q ∈ Q, q.nw ∧ ∀ x ∈ q.arms, PB x.vars x.eqs
theorem own_ok : ∀ {l : List Va} {n : Nat}, GOwn n l → ∀ v ∈ l, v.first.ok1
 | [], n, _, v, hv => by simp at hv
 | w :: l, n, ⟨h1, h2⟩, v, hv => by
  rcases List.mem_cons.1 hv with rfl | hv
  ·obtain ⟨t, la, e, _, he, rfl⟩ := h1
   rcases he with ⟨_, rfl⟩ | ⟨_, he⟩
   ·exact ok_zE
   ·exact (o2_const he).ok1 (by decide)
  ·exact own_ok h2 v hv
theorem defQ_nw {v : Va} {e : Ex} (h : e.o2 200) : (defQ v e).nw := ⟨h.ok1 (by decide), ⟨by simp [defQ, Qu.args], trivial, fun e he => by cases he⟩, ⟨by simp [defQ, Qu.arms], fun x hx => by cases hx⟩⟩
section
variable {RB : RBT} {PB : List Va → List Qu → Prop} {wb : WbT} {K : Nat}
 (hle : ∀ n n' s outs b, RB n n' s outs b → n ≤ n')
 (hB : ∀ n n' s outs b, RB n n' s outs b → n' ≤ 4000000 → outs.length ≤ 3 → BkW PB wb K n n' b.vars b.eqs)
theorem defs_w {s : Sc} : ∀ {outs : List Va} {l : List Qu}, GDefs s outs l → (∀ q ∈ l, q.nw ∧ ∀ x ∈ q.arms, PB x.vars x.eqs) ∧ (l.map (wtQ wb)).sum = outs.length * 2
 | [], l, h => by cases h; exact ⟨(fun q hq => by cases hq), rfl⟩
 | v :: r, l, ⟨e, l', he, hl, h2⟩ => by
  subst hl
  obtain ⟨h3, h4⟩ := defs_w h2
  refine ⟨fun q hq => ?_, ?_⟩
  ·rcases List.mem_cons.1 hq with rfl | hq
   ·exact ⟨defQ_nw ((ok_gex (by decide) he).le (by decide)), fun x hx => by cases hx⟩
   ·exact h3 q hq
  ·rw [List.map_cons, List.sum_cons, h4, List.length_cons, Nat.add_mul]
   show 1 + 1 + 0 + 0 + _ = _
   omega
include hle hB
theorem eqs_w {subs : Int} {n n' : Nat} {s : Sc} {outs : List Va} {l : List Qu} {vs : List Va} (h : GEqs RB subs n n' s outs l vs) : n' ≤ 4000000 → outs.length ≤ 3 → (∀ q ∈ l, q.nw ∧ ∀ x ∈ q.arms, PB x.vars x.eqs) ∧ (∀ v ∈ vs, v.first.ok1) ∧ vs.length + (l.map (wtQ wb)).sum + n * 8 ≤ n' * 8 + (25 + 3 * K) := by
 induction h with
 | defs h =>
  intro _ hol
  obtain ⟨h1, h2⟩ := defs_w (PB := PB) (wb := wb) h
  exact ⟨h1, (fun v hv => by cases hv), by rw [h2]; simp only [List.length_nil]; omega⟩
 | @choice n n' s outs x h =>
  intro hn hol
  obtain ⟨t, ns, e, ar, hns, he, hnm, hc, rfl⟩ := h
  have hal3 : ar.length ≤ 3 := by
   have := congrArg List.length hnm
   rw [List.length_map] at this
   rcases hns with ⟨_, rfl⟩ | ⟨_, rfl⟩ <;> simp at this <;> omega
  obtain ⟨p1, p2⟩ := chn_w (Q := fun a => PB a.vars a.eqs ∧ a.unl = [] ∧ a.til = []) (c := wtA wb) (hi := n') (X := 8) (K := 7 + K) (fun j n n' a ⟨nm, l, b, _, _, hb, _⟩ => hle _ _ _ _ _ hb) (fun j n1 n2 a ⟨nm, l, b, hl1, hl2, hb, ha⟩ hhi => by
   subst ha
   have hlen := isLess_len hl1
   have hP := hB _ _ _ _ _ hb (by omega) (by omega)
   have := hP.wt
   exact ⟨⟨hP.good, rfl, rfl⟩, by show 1 + 0 + 0 + wb b.vars b.eqs + _ ≤ _; omega⟩) _ _ _ _ hc (Nat.le_refl _)
  refine ⟨fun q hq => ?_, (fun v hv => by cases hv), ?_⟩
  ·rw [List.mem_singleton] at hq
   subst hq
   refine ⟨⟨((ok_gex (by decide) he).ok1 (by decide)), ⟨Nat.zero_le _, trivial, (fun e he => by cases he)⟩, ⟨Nat.le_trans hal3 (by decide), fun x hx => ?_⟩⟩, fun x hx => (p1 x hx).1⟩
   obtain ⟨_, h1, h2⟩ := p1 x hx
   rw [h1, h2]
   exact ⟨⟨Nat.zero_le _, fun t ht => by cases ht⟩, ⟨Nat.zero_le _, fun t ht => by cases ht⟩⟩
  ·have h3 : ar.length * (7 + K) ≤ 3 * (7 + K) := Nat.mul_le_mul_right _ hal3
   show 0 + (1 + 0 + 0 + (ar.map (wtA wb)).sum + 0) + _ ≤ _
   omega
 | @auto n n' s outs x h =>
  intro hn hol
  obtain ⟨nn, ar, hnn, hal, hc, rfl⟩ := h
  have hal3 : ar.length ≤ 3 := by omega
  have hway : ∀ {s : Sc} {nn : Int} {u : List Tr}, GWays s nn u → u.length ≤ 100000000 ∧ ∀ t ∈ u, t.e.ok1 := fun {s nn u} hu => ⟨by have := hu.1; omega, fun t ht => by
   obtain ⟨e, k, b, h1, _, rfl⟩ := hu.2 t ht
   exact (ok_gex (by decide) h1).ok1 (by decide)⟩
  obtain ⟨p1, p2⟩ := chn_w (Q := fun a => PB a.vars a.eqs ∧ (a.unl.length ≤ 100000000 ∧ ∀ t ∈ a.unl, t.e.ok1) ∧ (a.til.length ≤ 100000000 ∧ ∀ t ∈ a.til, t.e.ok1)) (c := wtA wb) (hi := n') (X := 8) (K := 7 + K) (fun j n n' a ⟨l, u, b, w, _, _, _, hb, _, _⟩ => hle _ _ _ _ _ hb) (fun j n1 n2 a ⟨l, u, b, w, hl1, hl2, hu, hb, hw, ha⟩ hhi => by
   subst ha
   have hlen := isLess_len hl1
   have hP := hB _ _ _ _ _ hb (by omega) (by omega)
   have := hP.wt
   have := hu.1
   have := hw.1
   exact ⟨⟨hP.good, hway hu, hway hw⟩, by show 1 + u.length + w.length + wb b.vars b.eqs + _ ≤ _; omega⟩) _ _ _ _ hc (Nat.le_refl _)
  refine ⟨fun q hq => ?_, (fun v hv => by cases hv), ?_⟩
  ·rw [List.mem_singleton] at hq
   subst hq
   exact ⟨⟨ok_zE, ⟨Nat.zero_le _, trivial, (fun e he => by cases he)⟩, ⟨Nat.le_trans hal3 (by decide), fun x hx => (p1 x hx).2⟩⟩, fun x hx => (p1 x hx).1⟩
  ·have h3 : ar.length * (7 + K) ≤ 3 * (7 + K) := Nat.mul_le_mul_right _ hal3
   show 0 + (1 + 0 + 0 + (ar.map (wtA wb)).sum + 0) + _ ≤ _
   omega
 | @reset n n' s outs x h =>
  intro hn hol
  obtain ⟨e, b, he, hb, rfl⟩ := h
  have hP := hB _ _ _ _ _ hb hn hol
  have hpc := hP.wt
  refine ⟨fun q hq => ?_, (fun v hv => by cases hv), by show 0 + (1 + 0 + 0 + (1 + 0 + 0 + wb b.vars b.eqs + 0) + 0) + _ ≤ _; omega⟩
  rw [List.mem_singleton] at hq
  subst hq
  refine ⟨⟨((ok_gex (by decide) he).ok1 (by decide)), ⟨Nat.zero_le _, trivial, (fun e he => by cases he)⟩, ⟨by simp [Qu.arms], fun x hx => ?_⟩⟩, fun x hx => ?_⟩
  ·simp only [Qu.arms, List.mem_singleton] at hx
   subst hx
   exact ⟨⟨Nat.zero_le _, fun t ht => by cases ht⟩, ⟨Nat.zero_le _, fun t ht => by cases ht⟩⟩
  ·simp only [Qu.arms, List.mem_singleton] at hx
   subst hx
   exact hP.good
 | @call n n' s outs x y z l vs h h2 ih =>
  intro hn hol
  obtain ⟨k, a, b, hb, e, _, rfl, rfl, ha, hbx, he, rfl⟩ := h
  obtain ⟨i1, i2, i3⟩ := ih hn hol
  have ga := ok_gex (by decide) ha
  have gb := ok_gex (by decide) hbx
  refine ⟨fun q hq => ?_, fun v hv => ?_, by show vs.length + 1 + 1 + (1 + 2 + 2 + 0 + (l.map (wtQ wb)).sum) + _ ≤ _; omega⟩
  ·rcases List.mem_cons.1 hq with rfl | hq
   ·refine ⟨⟨?_, ⟨by simp [Qu.args], ⟨ga.1, gb.1, trivial⟩, fun e he => ?_⟩, ⟨Nat.zero_le _, fun x hx => by cases hx⟩⟩, fun x hx => by cases hx⟩
    ·rcases he with ⟨_, rfl⟩ | ⟨_, he⟩
     ·exact ok_zE
     ·exact (ok_gex (by decide) he).ok1 (by decide)
    ·simp only [Qu.args, List.mem_cons, List.not_mem_nil, or_false] at he
     rcases he with rfl | rfl
     ·have := ga.2; omega
     ·have := gb.2; omega
   ·exact i1 q hq
  ·rcases List.mem_cons.1 hv with rfl | hv
   ·exact ok_zE
   rcases List.mem_cons.1 hv with rfl | hv
   ·exact ok_zE
   ·exact i2 v hv
 | @samp n n' s outs c w z q1 q2 q3 l vs h h2 ih =>
  intro hn hol
  obtain ⟨e1, e2, e3, k1, kp, rfl, rfl, rfl, g1, g2, g3, hk1, hkp, rfl, rfl, rfl⟩ := h
  obtain ⟨i1, i2, i3⟩ := ih hn hol
  have x1 := ok_gex (by decide) g1
  have x2 := ok_gex (by decide) g2
  have x3 := ok_gex (by decide) g3
  have hkx : kp.o2 200 := by
   rcases hkp with rfl | ⟨k2, hk2, rfl⟩
   ·exact (o2_1 x1).le (by decide)
   ·exact (o2_2 (o2_const hk2) (o2_2 (ok_vaE _) (o2_1 x1))).le (by decide)
  refine ⟨fun q hq => ?_, fun v hv => ?_, by show vs.length + 1 + 1 + 1 + (1 + 1 + 0 + 0 + (1 + 1 + 0 + 0 + (1 + 1 + 0 + 0 + (l.map (wtQ wb)).sum))) + _ ≤ _; omega⟩
  ·rcases List.mem_cons.1 hq with rfl | hq
   ·exact ⟨defQ_nw (x3.le (by decide)), fun x hx => by cases hx⟩
   rcases List.mem_cons.1 hq with rfl | hq
   ·exact ⟨defQ_nw hkx, fun x hx => by cases hx⟩
   rcases List.mem_cons.1 hq with rfl | hq
   ·refine ⟨defQ_nw ?_, fun x hx => by cases hx⟩
    exact (o2_3 (o2_1 x2) (ok_vaE _) (o2_const hk1)).le (by decide)
   ·exact i1 q hq
  ·rcases List.mem_cons.1 hv with rfl | hv
   ·exact ok_zE
   rcases List.mem_cons.1 hv with rfl | hv
   ·exact ok_zE
   rcases List.mem_cons.1 hv with rfl | hv
   ·exact ok_zE
   ·exact i2 v hv
theorem todo_w {subs : Int} {n n' : Nat} {s : Sc} {outs : List Va} {l : List Qu} {vs : List Va} (h : GTodo (GEqs RB subs) n n' s outs l vs) : n' ≤ 4000000 → (∀ q ∈ l, q.nw ∧ ∀ x ∈ q.arms, PB x.vars x.eqs) ∧ (∀ v ∈ vs, v.first.ok1) ∧ vs.length + (l.map (wtQ wb)).sum + n * 8 ≤ n' * 8 + outs.length * (25 + 3 * K) := by
 induction h with
 | nil => exact fun _ => ⟨(fun q hq => by cases hq), (fun v hv => by cases hv), by simp⟩
 | @step n n1 n' s a r l vs l' vs' ha1 ha3 h1 h2 ih =>
  intro hn
  have k2 := (todo_inc hle h2).le
  obtain ⟨p1, p2, p3⟩ := eqs_w hle hB h1 (by omega) ha3
  obtain ⟨i1, i2, i3⟩ := ih hn
  refine ⟨fun q hq => ?_, fun v hv => ?_, ?_⟩
  ·rcases List.mem_append.1 hq with hq | hq
   ·exact p1 q hq
   ·exact i1 q hq
  ·rcases List.mem_append.1 hv with hv | hv
   ·exact p2 v hv
   ·exact i2 v hv
  ·rw [List.length_append, List.map_append, List.sum_append, List.length_append, Nat.add_mul a.length]
   have h3 : 1 * (25 + 3 * K) ≤ a.length * (25 + 3 * K) := Nat.mul_le_mul_right _ ha1
   omega
theorem blk_w {subs : Int} {n n' : Nat} {s : Sc} {outs : List Va} {b : Bk} (hK : K ≤ 3000000) (h : GBlk (GEqs RB subs) n n' s outs b) (hn : n' ≤ 4000000) (hol : outs.length ≤ 3) :
    BkW (NwS PB) (wtB wb) (6 * (25 + 3 * K)) n n' b.vars b.eqs := by
 obtain ⟨own, l, vs, hownl, hown, ht, rfl⟩ := h
 obtain ⟨p1, p2, p3⟩ := todo_w hle hB ht hn
 have h3 : (own ++ outs).length * (25 + 3 * K) ≤ 6 * (25 + 3 * K) := Nat.mul_le_mul_right _ (by rw [List.length_append]; omega)
 have hw : wtB wb (own ++ vs) l + n * 8 ≤ n' * 8 + 6 * (25 + 3 * K) := by
  show (own ++ vs).length + (l.map (wtQ wb)).sum + n * 8 ≤ _
  rw [List.length_append]
  omega
 have hl := wt_eqs wb (own ++ vs) l
 refine ⟨⟨by show (own ++ vs).length ≤ _; omega, fun v hv => ?_, by show l.length ≤ _; omega, p1⟩, hw⟩
 rcases List.mem_append.1 hv with hv | hv
 ·exact own_ok hown v hv
 ·exact p2 v hv
end
def kW : Nat → Nat
 | 0 => 6 * (25 + 3 * 0)
 | d + 1 => 6 * (25 + 3 * kW d)
def PbW (d : Nat) (V : List Va) (Q : List Qu) : Prop := NwB d V Q ∧ DpB d Q
theorem bk_w : ∀ (d : Nat) (hd : d ≤ 3) (subs : Int) (n n' : Nat) (s : Sc) (outs : List Va) (b : Bk), GBk d subs n n' s outs b → n' ≤ 4000000 → outs.length ≤ 3 → BkW (PbW d) (wtF d) (kW d) n n' b.vars b.eqs
 | 0, hd, subs, n, n', s, outs, b, h, hn, hol => by
  have := blk_w (RB := fun _ _ _ _ _ => False) (PB := fun _ _ => False) (wb := fun _ _ => 0) (K := 0) (fun _ _ _ _ _ h => h.elim) (fun _ _ _ _ _ h => h.elim) (by decide) h hn hol
  obtain ⟨⟨h1, h2, h3, h4⟩, h5⟩ := this
  have h6 : ∀ q ∈ b.eqs, q.arms = [] := fun q hq => List.eq_nil_iff_forall_not_mem.2 (fun x hx => (h4 q hq).2 x hx)
  exact ⟨⟨⟨h1, h2, h3, fun q hq => ⟨(h4 q hq).1, h6 q hq⟩⟩, h6⟩, h5⟩
 | d + 1, hd, subs, n, n', s, outs, b, h, hn, hol => by
  have hk : kW d ≤ 3000000 := by
   have : d = 0 ∨ d = 1 ∨ d = 2 := by omega
   rcases this with rfl | rfl | rfl <;> decide
  have := blk_w (RB := GBk d subs) (PB := PbW d) (wb := wtF d) (K := kW d) (fun n n' s outs b h => bk_le d subs n n' s outs b h) (fun n n' s outs b h hn hol => bk_w d (by omega) subs n n' s outs b h hn hol) hk h hn hol
  obtain ⟨⟨h1, h2, h3, h4⟩, h5⟩ := this
  exact ⟨⟨⟨h1, h2, h3, fun q hq => ⟨(h4 q hq).1, fun x hx => ((h4 q hq).2 x hx).1⟩⟩, fun q hq x hx => ((h4 q hq).2 x hx).2⟩, h5⟩
/-- A node that is made has short lists, and weighs so much. -/
theorem made_w {ns : List No} (h : GNodes ns) : ∀ n ∈ ns, n.nw 3 ∧ DpB 3 n.b.eqs ∧ wtF 3 n.b.vars n.b.eqs ≤ 40000000 := fun n hn => by
 obtain ⟨k, hk, rfl⟩ := List.getElem_of_mem hn
 obtain ⟨l, e, b, n', hle, hn', hb, he⟩ := h k hk
 rw [he]
 have hP := bk_w 3 (Nat.le_refl _) _ _ _ _ _ b hb (by omega) (by simp [nOuts])
 have hw := hP.wt
 have hk : kW 3 ≤ 3000000 := by decide
 have hw2 : wtF 3 b.vars b.eqs ≤ 40000000 := by omega
 refine ⟨⟨⟨by simp [nIns], fun v hv => ?_⟩, ⟨by simp [nOuts], fun v hv => ?_⟩, hP.good.1, Nat.le_trans hw2 (by decide)⟩, hP.good.2, hw2⟩
 ·simp only [nIns, List.mem_cons, List.not_mem_nil, or_false] at hv
  rcases hv with rfl | rfl <;> exact ok_zE
 ·simp only [nOuts, List.mem_cons, List.not_mem_nil, or_false] at hv
  rcases hv with rfl | rfl
  ·rcases hle with ⟨_, rfl⟩ | ⟨_, he⟩
   ·exact ok_zE
   ·exact (o2_const he).ok1 (by decide)
  ·exact ok_zE
end Go.Proofs.Ytibhhoknipdlpaa
