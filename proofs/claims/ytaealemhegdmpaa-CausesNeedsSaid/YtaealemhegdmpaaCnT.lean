/-
 causes: blocks that are made are right; how many needs they tell of.
-/
-- halved
import Derived.Test.YtaealemhegdmpaaCgE
import Derived.Test.YtaealemhegdmpaaMkH
set_option linter.unusedVariables false
set_option linter.unusedSimpArgs false
set_option linter.unusedSectionVars false
namespace Go.Proofs.Ytaealemhegdmpaa
open Go

theorem const_shp {t : Ty} {e : Ex} (h : isConst t e) : e.shp = true ∧ e.size = 1 := by
 rcases h with ⟨_, k, _, rfl⟩ | ⟨_, k, _, rfl⟩ | ⟨_, c, _, rfl⟩ <;> exact ⟨rfl, rfl⟩
theorem vc_shp {l : List Va} {t : Ty} {e : Ex} (h : isVC l t e) : e.shp = true ∧ e.size = 1 := by
 rcases h with ⟨s, _, rfl⟩ | h
 ·exact ⟨rfl, rfl⟩
 ·exact const_shp h
theorem gex_shp : ∀ (d : Nat) {s : Sc} {t : Ty} {st : Bool} {e : Ex}, GEx d s t st e → e.shp = true ∧ e.size ≤ 4 ^ d
 | 0, s, t, st, e, h => by
  obtain ⟨h1, h2⟩ := vc_shp h
  exact ⟨h1, by rw [h2]; exact Nat.le_refl _⟩
 | d + 1, s, t, st, e, h => by
  have hp : 1 ≤ 4 ^ d := Nat.one_le_pow _ _ (by decide)
  have hpow : 4 ^ (d + 1) = 4 * 4 ^ d := by rw [Nat.pow_succ]; omega
  have one : ∀ {e : Ex}, e.shp = true ∧ e.size = 1 → e.shp = true ∧ e.size ≤ 4 ^ (d + 1) := fun h => ⟨h.1, by rw [h.2]; omega⟩
  rcases h with h | ⟨c, a, b, h1, h2, h3, rfl⟩ | ⟨_, c, b, h1, h2, rfl⟩ | ⟨_, a, b, h1, h2, rfl⟩ | ⟨x, h1, rfl⟩ | ⟨_, a, h1, rfl⟩ | ⟨_, o, a, b, _, h1, h2, rfl⟩ | ⟨_, a, h1, rfl⟩ | ⟨_, o, u, a, b, _, h1, h2, rfl⟩ | h
  ·exact one (vc_shp h)
  ·obtain ⟨p1, q1⟩ := gex_shp d h1
   obtain ⟨p2, q2⟩ := gex_shp d h2
   obtain ⟨p3, q3⟩ := gex_shp d h3
   exact ⟨by simp [Ex.un, Ex.shp, Ex.shps, p1, p2, p3], by simp only [Ex.un, Ex.size, Ex.sizes]; omega⟩
  ·obtain ⟨p1, q1⟩ := const_shp h1
   obtain ⟨p2, q2⟩ := gex_shp d h2
   exact ⟨by simp [Ex.two, Ex.shp, Ex.shps, p1, p2], by simp only [Ex.two, Ex.size, Ex.sizes]; omega⟩
  ·obtain ⟨p1, q1⟩ := gex_shp d h1
   obtain ⟨p2, q2⟩ := gex_shp d h2
   exact ⟨by simp [Ex.two, Ex.un, Ex.shp, Ex.shps, p1, p2], by simp only [Ex.two, Ex.un, Ex.size, Ex.sizes]; omega⟩
  ·exact one ⟨rfl, rfl⟩
  ·obtain ⟨p1, q1⟩ := gex_shp d h1
   exact ⟨by simp [Ex.un, Ex.shp, Ex.shps, p1], by simp only [Ex.un, Ex.size, Ex.sizes]; omega⟩
  ·obtain ⟨p1, q1⟩ := gex_shp d h1
   obtain ⟨p2, q2⟩ := gex_shp d h2
   exact ⟨by simp [Ex.two, Ex.shp, Ex.shps, p1, p2], by simp only [Ex.two, Ex.size, Ex.sizes]; omega⟩
  ·obtain ⟨p1, q1⟩ := gex_shp d h1
   exact ⟨by simp [Ex.un, Ex.shp, Ex.shps, p1], by simp only [Ex.un, Ex.size, Ex.sizes]; omega⟩
  ·obtain ⟨p1, q1⟩ := gex_shp d h1
   obtain ⟨p2, q2⟩ := gex_shp d h2
   exact ⟨by simp [Ex.two, Ex.shp, Ex.shps, p1, p2], by simp only [Ex.two, Ex.size, Ex.sizes]; omega⟩
  ·exact one (vc_shp h)
theorem gex_csx {d : Nat} (hd : d ≤ 3) {s : Sc} {t : Ty} {st : Bool} {e : Ex} (h : GEx d s t st e) : e.shp = true ∧ e.size ≤ 64 := by
 obtain ⟨h1, h2⟩ := gex_shp d h
 have : 4 ^ d ≤ 4 ^ 3 := Nat.pow_le_pow_right (by decide) hd
 exact ⟨h1, by omega⟩
theorem csx_of {e : Ex} (h : e.shp = true ∧ e.size ≤ 64) : CsX e := ⟨h.1, by omega⟩

theorem isLess_sub : ∀ {a l : List Va}, isLess a l → ∀ v ∈ l, v ∈ a
 | [], l, h, v, hv => by cases h; exact hv
 | w :: r, l, h, v, hv => by
  rcases h with ⟨l', rfl, h⟩ | ⟨_, h⟩
  ·rcases List.mem_cons.1 hv with rfl | hv
   ·exact List.mem_cons_self ..
   ·exact List.mem_cons_of_mem _ (isLess_sub h v hv)
  ·exact List.mem_cons_of_mem _ (isLess_sub h v hv)
theorem own_ck : ∀ {l : List Va} {n : Nat}, GOwn n l → ∀ v ∈ l, v.clock = []
 | [], n, _, v, hv => by simp at hv
 | w :: l, n, ⟨h1, h2⟩, v, hv => by
  rcases List.mem_cons.1 hv with rfl | hv
  ·obtain ⟨t, la, e, _, _, rfl⟩ := h1; rfl
  ·exact own_ck h2 v hv
theorem defs_mem {s : Sc} : ∀ {outs : List Va} {l : List Qu}, GDefs s outs l → ∀ q ∈ l, ∃ v ∈ outs, ∃ e, GEx 3 s v.t true e ∧ q = defQ v e
 | [], l, h, q, hq => by cases h; cases hq
 | v :: r, l, ⟨e, l', he, hl, h2⟩, q, hq => by
  subst hl
  rcases List.mem_cons.1 hq with rfl | hq
  ·exact ⟨v, List.mem_cons_self .., e, he, rfl⟩
  ·obtain ⟨w, hw, h3⟩ := defs_mem h2 q hq
   exact ⟨w, List.mem_cons_of_mem _ hw, h3⟩
theorem chn_all {R : Nat → Nat → Nat → Am → Prop} {Q : Am → Prop} {c : Am → Nat} {hi : Nat} (hR : ∀ j n n' a, R j n n' a → n ≤ n') (h : ∀ j n n' a, R j n n' a → n' ≤ hi → Q a ∧ c a ≤ n' - n) : ∀ (l : List Am) (j n n' : Nat), Chn R j n n' l → n' ≤ hi → (∀ a ∈ l, Q a) ∧ (l.map c).sum ≤ n' - n
 | [], _, _, _, hc, _ => ⟨(fun a ha => by cases ha), Nat.zero_le _⟩
 | b :: l, j, n, n', ⟨n1, h1, h2⟩, hhi => by
  have e1 := hR _ _ _ _ h1
  have e2 := chn_le hR h2
  obtain ⟨p1, p2⟩ := h _ _ _ _ h1 (by omega)
  obtain ⟨q1, q2⟩ := chn_all hR h l _ _ _ h2 hhi
  refine ⟨fun a ha => ?_, by rw [List.map_cons, List.sum_cons]; omega⟩
  rcases List.mem_cons.1 ha with rfl | ha
  ·exact p1
  ·exact q1 a ha

def pcQ (pb : List Va → List Qu → Nat) (q : Qu) : Nat := (if q.arms.isEmpty = true then q.lhs.length else 200) * 60000 + (q.arms.map fun a => pb a.vars a.eqs).sum
def pcBl (pb : List Va → List Qu → Nat) (V : List Va) (Q : List Qu) : Nat := 10 * V.length + (Q.map (pcQ pb)).sum
def pcF : Nat → List Va → List Qu → Nat
 | 0 => pcBl (fun _ _ => 0)
 | d + 1 => pcBl (pcF d)
theorem chn_pc {R : Nat → Nat → Nat → Am → Prop} {c : Am → Nat} {hi X K : Nat} (hR : ∀ j n n' a, R j n n' a → n ≤ n') (h : ∀ j n n' a, R j n n' a → n' ≤ hi → c a + n * X ≤ n' * X + K) : ∀ (l : List Am) (j n n' : Nat), Chn R j n n' l → n' ≤ hi → (l.map c).sum + n * X ≤ n' * X + l.length * K
 | [], _, n, n', hc, _ => by
  have : n' = n := hc
  subst this; simp
 | b :: l, j, n, n', ⟨n1, h1, h2⟩, hhi => by
  have e2 := chn_le hR h2
  have p1 := h _ _ _ _ h1 (by omega)
  have p2 := chn_pc hR h l _ _ _ h2 hhi
  rw [List.map_cons, List.sum_cons, List.length_cons, Nat.add_mul]
  omega
theorem defs_pc {pb : List Va → List Qu → Nat} {s : Sc} : ∀ {outs : List Va} {l : List Qu}, GDefs s outs l → (l.map (pcQ pb)).sum = outs.length * 60000
 | [], l, h => by cases h; rfl
 | v :: r, l, ⟨e, l', he, hl, h2⟩ => by
  subst hl
  have := defs_pc (pb := pb) h2
  rw [List.map_cons, List.sum_cons, this, List.length_cons, Nat.add_mul]
  show 1 * 60000 + 0 + _ = _
  omega
structure BkG (PB : List Str → List Va → List Qu → Prop) (PD : List Va → List Qu → List Str → Prop) (cb pb : List Va → List Qu → Nat) (X K n n' : Nat) (outs : List Va) (V : List Va) (Q : List Qu) : Prop where
 good : ∀ S, (∀ x ∈ outs.map Va.name, x ∈ S) → PB S V Q
 dfb : PD V Q (outs.map Va.name)
 cnt : cb V Q ≤ n' - n
 pc : pb V Q + n * X ≤ n' * X + K
theorem dfA_sub {df : DfT} {T : List Str} : ∀ (ar : List Am) (l : List Str), (∀ x ∈ l, x ∈ T) → (∀ a ∈ ar, ∀ x ∈ df a.vars a.eqs, x ∈ T) → ∀ x ∈ dfA df l ar, x ∈ T
 | [], l, h, _, x, hx => h x hx
 | a :: ar, l, h, ha, x, hx => dfA_sub ar (addL l (df a.vars a.eqs)) (fun y hy => by
     have := (Grow.addL (L := l) (T := T) (r := df a.vars a.eqs) (.nil l T) (ha a (List.mem_cons_self ..))).mem h
     exact this y hy) (fun b hb => ha b (List.mem_cons_of_mem _ hb)) x hx
theorem sum_z {α : Type} (f : α → Nat) : ∀ (l : List α), (∀ x ∈ l, f x = 0) → (l.map f).sum = 0
 | [], _ => rfl
 | a :: l, h => by
  rw [List.map_cons, List.sum_cons, h a (List.mem_cons_self ..), sum_z f l (fun x hx => h x (List.mem_cons_of_mem _ hx))]
section
variable {RB : RBT} {PB : List Str → List Va → List Qu → Prop} {PD : List Va → List Qu → List Str → Prop} {df : DfT} {cb pb : List Va → List Qu → Nat} {X K : Nat} (hX : 60000 ≤ X)
 (hdf : ∀ V Q T, PD V Q T → T.length ≤ 100 → ∀ x ∈ df V Q, x ∈ T)
 (hPm : ∀ V Q T T', PD V Q T → (∀ x ∈ T, x ∈ T') → PD V Q T')
 (hle : ∀ n n' s outs b, RB n n' s outs b → n ≤ n')
 (hB : ∀ n n' s outs b, RB n n' s outs b → n' ≤ 4000000 → outs.length ≤ 3 → BkG PB PD cb pb X K n n' outs b.vars b.eqs)
include hX hdf hPm hle hB
theorem dfQ_sub {q : Qu} {T : List Str} (hT : T.length ≤ 100) (h : DfQ PD q T) : ∀ x ∈ dfQ df q, x ∈ T :=
 dfA_sub q.arms q.lhs h.2.1 (fun a ha => hdf _ _ _ (h.2.2 a ha) hT)
def EqG (df : DfT) (PB : List Str → List Va → List Qu → Prop) (PD : List Va → List Qu → List Str → Prop) (outs vs : List Va) (q : Qu) : Prop :=
 (∃ Tq : List Str, Tq.length ≤ 100 ∧ (∀ x ∈ Tq, x ∈ outs.map Va.name ∨ x ∈ vs.map Va.name) ∧ DfQ PD q Tq) ∧ ∀ S : List Str, (∀ x, (x ∈ outs.map Va.name ∨ x ∈ vs.map Va.name) → x ∈ S) → CsQ df PB PD S q
theorem eqg_of {outs vs : List Va} {q : Qu} (Tq : List Str) (h1 : Tq.length ≤ 100) (h2 : ∀ x ∈ Tq, x ∈ outs.map Va.name ∨ x ∈ vs.map Va.name) (h3 : DfQ PD q Tq) (h4 : q.arms.length ≤ 3) (h5 : ∀ S : List Str, (∀ x ∈ outs.map Va.name, x ∈ S) → ∀ a ∈ q.arms, PB S a.vars a.eqs)
    (h6 : (q.kind = 1 ∧ (∃ x, q.lhs = [x]) ∧ q.args = [] ∧ q.arms = [] ∧ CsX q.e) ∨ (q.kind = 2 ∧ q.arms = [] ∧ q.args.length ≤ 3 ∧ (∀ e ∈ q.args, CsX e) ∧ (q.has = true → CsX q.e)) ∨ ((q.kind = 3 ∨ q.kind = 5) ∧ q.args = [] ∧ CsX q.e) ∨ (q.kind = 4 ∧ q.args = [] ∧ ∀ a ∈ q.arms, a.unl.length ≤ 3 ∧ ∀ t ∈ a.unl, CsX t.e)) : EqG df PB PD outs vs q :=
 ⟨⟨Tq, h1, h2, h3⟩, fun S hS => ⟨fun x hx => hS x (h2 x (dfQ_sub hX hdf hPm hle hB h1 h3 x hx)), ⟨Tq, h1, h3⟩, h4, h5 S (fun x hx => hS x (.inl hx)), h6⟩⟩
theorem eqg_def {outs vs : List Va} {v : Va} {e : Ex} (hv : v.name ∈ outs.map Va.name ∨ v.name ∈ vs.map Va.name) (he : e.shp = true ∧ e.size ≤ 1000) : EqG df PB PD outs vs (defQ v e) :=
 eqg_of hX hdf hPm hle hB [v.name] (by simp) (fun x hx => by rw [List.mem_singleton] at hx; subst hx; exact hv) ⟨by simp [defQ, Qu.lhs], by simp [defQ, Qu.lhs], fun a ha => by cases ha⟩ (Nat.zero_le _) (fun S _ a ha => by cases ha) (.inl ⟨rfl, ⟨_, rfl⟩, rfl, rfl, he⟩)
theorem EqG.more {outs vs ws : List Va} {q : Qu} (h : EqG df PB PD outs vs q) (hw : ∀ x ∈ vs.map Va.name, x ∈ ws.map Va.name) : EqG df PB PD outs ws q := by
 obtain ⟨⟨T, h1, h2, h3⟩, h4⟩ := h
 exact ⟨⟨T, h1, fun x hx => (h2 x hx).imp id (hw x), h3⟩, fun S hS => h4 S (fun x hx => hS x (hx.imp id (hw x)))⟩
theorem eqs_good {subs : Int} {n n' : Nat} {s : Sc} {outs : List Va} {l : List Qu} {vs : List Va} (h : GEqs RB subs n n' s outs l vs) : n' ≤ 4000000 → outs.length ≤ 3 → (∀ q ∈ l, EqG df PB PD outs vs q) ∧ vs.length + (l.map (cntQ cb)).sum ≤ n' - n ∧ (∀ v ∈ vs, v.clock.length ≤ 10) ∧ (l.map (pcQ pb)).sum + n * X ≤ n' * X + (12180000 + 3 * K) := by
 induction h with
 | defs h =>
  intro _ hol
  refine ⟨fun q hq => ?_, ?_, (fun v hv => by cases hv), by rw [defs_pc h]; omega⟩
  ·obtain ⟨v, hv, e, he, rfl⟩ := defs_mem h q hq
   exact eqg_def hX hdf hPm hle hB (.inl (List.mem_map.2 ⟨v, hv, rfl⟩)) (csx_of (gex_csx (by decide) he))
  ·rw [sum_z _ _ (fun q hq => by obtain ⟨v, hv, e, he, rfl⟩ := defs_mem h q hq; rfl)]
   simp
 | @choice n n' s outs x h =>
  intro hn hol
  obtain ⟨t, ns, e, ar, hns, he, hnm, hc, rfl⟩ := h
  have hal3 : ar.length ≤ 3 := by
   have := congrArg List.length hnm
   rw [List.length_map] at this
   rcases hns with ⟨_, rfl⟩ | ⟨_, rfl⟩ <;> simp at this <;> omega
  obtain ⟨p1, p2⟩ := chn_all (Q := fun a => (∀ S : List Str, (∀ x ∈ outs.map Va.name, x ∈ S) → PB S a.vars a.eqs) ∧ PD a.vars a.eqs (outs.map Va.name)) (c := fun a => cb a.vars a.eqs) (hi := n') (fun j n n' a ⟨nm, l, b, _, _, hb, _⟩ => hle _ _ _ _ _ hb) (fun j n1 n2 a ⟨nm, l, b, hl1, hl2, hb, ha⟩ hhi => by
   subst ha
   have hlen := isLess_len hl1
   have hP := hB _ _ _ _ _ hb (by omega) (by omega)
   have hsub : ∀ x ∈ l.map Va.name, x ∈ outs.map Va.name := fun x hx => by
    obtain ⟨v, hv, rfl⟩ := List.mem_map.1 hx
    exact List.mem_map.2 ⟨v, isLess_sub hl1 v hv, rfl⟩
   exact ⟨⟨fun S hS => hP.good S (fun x hx => hS x (hsub x hx)), hPm _ _ _ _ hP.dfb hsub⟩, hP.cnt⟩) _ _ _ _ hc (Nat.le_refl _)
  have hal := hal3
  have p3 := chn_pc (c := fun a => pb a.vars a.eqs) (hi := n') (X := X) (K := K) (fun j n n' a ⟨nm, l, b, _, _, hb, _⟩ => hle _ _ _ _ _ hb) (fun j n1 n2 a ⟨nm, l, b, hl1, hl2, hb, ha⟩ hhi => by
   subst ha
   have hlen := isLess_len hl1
   exact (hB _ _ _ _ _ hb (by omega) (by omega)).pc) _ _ _ _ hc (Nat.le_refl _)
  refine ⟨fun q hq => ?_, by simpa [cntQ, Qu.arms] using p2, (fun v hv => by cases hv), by
   have h3 : ar.length * K ≤ 3 * K := Nat.mul_le_mul_right _ hal3
   have h4 : (if ar.isEmpty = true then 0 else 200) ≤ 200 := by split <;> omega
   show (if ar.isEmpty = true then 0 else 200) * 60000 + (ar.map fun a => pb a.vars a.eqs).sum + 0 + _ ≤ _
   omega⟩
  rw [List.mem_singleton] at hq
  subst hq
  exact eqg_of hX hdf hPm hle hB (outs.map Va.name) (by simp; omega) (fun x hx => .inl hx) ⟨by simp [Qu.lhs], by simp [Qu.lhs], fun a ha => (p1 a ha).2⟩ hal (fun S hS a ha => (p1 a ha).1 S hS) (.inr (.inr (.inl ⟨.inl rfl, rfl, csx_of (gex_csx (by decide) he)⟩)))
 | @auto n n' s outs x h =>
  intro hn hol
  obtain ⟨nn, ar, hnn, hal, hc, rfl⟩ := h
  obtain ⟨p1, p2⟩ := chn_all (Q := fun a => ((∀ S : List Str, (∀ x ∈ outs.map Va.name, x ∈ S) → PB S a.vars a.eqs) ∧ PD a.vars a.eqs (outs.map Va.name)) ∧ a.unl.length ≤ 3 ∧ ∀ t ∈ a.unl, CsX t.e) (c := fun a => cb a.vars a.eqs) (hi := n') (fun j n n' a ⟨l, u, b, w, _, _, _, hb, _, _⟩ => hle _ _ _ _ _ hb) (fun j n1 n2 a ⟨l, u, b, w, hl1, hl2, hu, hb, hw, ha⟩ hhi => by
   subst ha
   have hlen := isLess_len hl1
   have hP := hB _ _ _ _ _ hb (by omega) (by omega)
   have hsub : ∀ x ∈ l.map Va.name, x ∈ outs.map Va.name := fun x hx => by
    obtain ⟨v, hv, rfl⟩ := List.mem_map.1 hx
    exact List.mem_map.2 ⟨v, isLess_sub hl1 v hv, rfl⟩
   refine ⟨⟨⟨fun S hS => hP.good S (fun x hx => hS x (hsub x hx)), hPm _ _ _ _ hP.dfb hsub⟩, ?_, fun t ht => ?_⟩, hP.cnt⟩
   ·have := hu.1
    show u.length ≤ 3
    omega
   ·obtain ⟨e, k, b, h1, _, rfl⟩ := hu.2 t ht
    exact csx_of (gex_csx (by decide) h1)) _ _ _ _ hc (Nat.le_refl _)
  have hal3 : ar.length ≤ 3 := by omega
  have p3 := chn_pc (c := fun a => pb a.vars a.eqs) (hi := n') (X := X) (K := K) (fun j n n' a ⟨l, u, b, w, _, _, _, hb, _, _⟩ => hle _ _ _ _ _ hb) (fun j n1 n2 a ⟨l, u, b, w, hl1, hl2, hu, hb, hw, ha⟩ hhi => by
   subst ha
   have hlen := isLess_len hl1
   exact (hB _ _ _ _ _ hb (by omega) (by omega)).pc) _ _ _ _ hc (Nat.le_refl _)
  refine ⟨fun q hq => ?_, by simpa [cntQ, Qu.arms] using p2, (fun v hv => by cases hv), by
   have h3 : ar.length * K ≤ 3 * K := Nat.mul_le_mul_right _ hal3
   have h4 : (if ar.isEmpty = true then 0 else 200) ≤ 200 := by split <;> omega
   show (if ar.isEmpty = true then 0 else 200) * 60000 + (ar.map fun a => pb a.vars a.eqs).sum + 0 + _ ≤ _
   omega⟩
  rw [List.mem_singleton] at hq
  subst hq
  exact eqg_of hX hdf hPm hle hB (outs.map Va.name) (by simp; omega) (fun x hx => .inl hx) ⟨by simp [Qu.lhs], by simp [Qu.lhs], fun a ha => (p1 a ha).1.2⟩ (by show ar.length ≤ 3; omega) (fun S hS a ha => (p1 a ha).1.1 S hS) (.inr (.inr (.inr ⟨rfl, rfl, fun a ha => (p1 a ha).2⟩)))
 | @reset n n' s outs x h =>
  intro hn hol
  obtain ⟨e, b, he, hb, rfl⟩ := h
  have hP := hB _ _ _ _ _ hb hn hol
  have hpc := hP.pc
  refine ⟨fun q hq => ?_, ?_, (fun v hv => by cases hv), by show 200 * 60000 + (pb b.vars b.eqs + 0) + 0 + _ ≤ _; omega⟩
  ·rw [List.mem_singleton] at hq
   subst hq
   refine eqg_of hX hdf hPm hle hB (outs.map Va.name) (by simp; omega) (fun x hx => .inl hx) ⟨by simp [Qu.lhs], by simp [Qu.lhs], fun a ha => ?_⟩ (by simp [Qu.arms]) (fun S hS a ha => ?_) (.inr (.inr (.inl ⟨.inr rfl, rfl, csx_of (gex_csx (by decide) he)⟩)))
   ·simp only [Qu.arms, List.mem_singleton] at ha
    subst ha
    exact hP.dfb
   ·simp only [Qu.arms, List.mem_singleton] at ha
    subst ha
    exact hP.good S hS
  ·show 0 + (cb b.vars b.eqs + 0 + 0) ≤ n' - n
   have := hP.cnt
   omega
 | @call n n' s outs x y z l vs h h2 ih =>
  intro hn hol
  have hle2 := (eqs_inc hle h2).le
  obtain ⟨k, a, b, hb, e, _, rfl, rfl, ha, hbx, he, rfl⟩ := h
  obtain ⟨i1, i2, i3, i4⟩ := ih hn hol
  rw [Nat.add_mul] at i4
  refine ⟨fun q hq => ?_, ?_, (fun v hv => ?_), by show 2 * 60000 + 0 + (l.map (pcQ pb)).sum + _ ≤ _; omega⟩
  ·rcases List.mem_cons.1 hq with rfl | hq
   ·refine eqg_of hX hdf hPm hle hB [nameS ⟨#[117]⟩ (n + 1), nameS ⟨#[117]⟩ (n + 2)] (by simp) (fun x hx => ?_) ⟨by simp [Qu.lhs], fun x hx => hx, fun a ha => by cases ha⟩ (Nat.zero_le _) (fun S _ a ha => by cases ha) (.inr (.inl ⟨rfl, rfl, by simp [Qu.args], fun e' he' => ?_, fun hh => ?_⟩))
    ·simp only [List.mem_cons, List.not_mem_nil, or_false] at hx
     rcases hx with rfl | rfl
     ·exact .inr (List.mem_map.2 ⟨_, List.mem_cons_self .., rfl⟩)
     ·exact .inr (List.mem_map.2 ⟨_, List.mem_cons_of_mem _ (List.mem_cons_self ..), rfl⟩)
    ·simp only [Qu.args, List.mem_cons, List.not_mem_nil, or_false] at he'
     rcases he' with rfl | rfl
     ·exact csx_of (gex_csx (by decide) ha)
     ·exact csx_of (gex_csx (by decide) hbx)
    ·rcases he with ⟨hz, _⟩ | ⟨_, he⟩
     ·simp only [Qu.has] at hh; rw [hz] at hh; cases hh
     ·exact csx_of (gex_csx (by decide) he)
   ·exact (i1 q hq).more hX hdf hPm hle hB (fun x hx => List.mem_cons_of_mem _ (List.mem_cons_of_mem _ hx))
  ·simp only [List.map_cons, List.sum_cons, List.length_cons]
   have : cntQ cb (Qu.mk 2 [(mkVa (nameS ⟨#[117]⟩ (n + 1)) tyI).name, (mkVa (nameS ⟨#[117]⟩ (n + 2)) tyC).name] (nameS ⟨#[102]⟩ k) [a, b] hb e [] 0 0) = 0 := rfl
   omega
  ·rcases List.mem_cons.1 hv with rfl | hv
   ·exact Nat.zero_le _
   rcases List.mem_cons.1 hv with rfl | hv
   ·exact Nat.zero_le _
   ·exact i3 v hv
 | @samp n n' s outs c w z q1 q2 q3 l vs h h2 ih =>
  intro hn hol
  have hle2 := (eqs_inc hle h2).le
  obtain ⟨e1, e2, e3, k1, kp, rfl, rfl, rfl, g1, g2, g3, hk1, hkp, rfl, rfl, rfl⟩ := h
  obtain ⟨i1, i2, i3, i4⟩ := ih hn hol
  rw [Nat.add_mul] at i4
  obtain ⟨x1, y1⟩ := gex_csx (by decide) g1
  obtain ⟨x2, y2⟩ := gex_csx (by decide) g2
  have x3 := csx_of (gex_csx (by decide) g3)
  obtain ⟨xk, yk⟩ := const_shp hk1
  have hkx : kp.shp = true ∧ kp.size ≤ 1000 := by
   rcases hkp with rfl | ⟨k2, hk2, rfl⟩
   ·exact ⟨by simp [whE, Ex.shp, Ex.shps, x1], by simp only [whE, Ex.size, Ex.sizes]; omega⟩
   ·obtain ⟨xk2, yk2⟩ := const_shp hk2
    exact ⟨by simp [whE, vaE, Ex.two, Ex.shp, Ex.shps, x1, xk2], by simp only [whE, vaE, Ex.two, Ex.size, Ex.sizes]; omega⟩
  refine ⟨fun q hq => ?_, ?_, (fun v hv => ?_), by show 1 * 60000 + 0 + (1 * 60000 + 0 + (1 * 60000 + 0 + (l.map (pcQ pb)).sum)) + _ ≤ _; omega⟩
  ·rcases List.mem_cons.1 hq with rfl | hq
   ·exact eqg_def hX hdf hPm hle hB (.inr (List.mem_map.2 ⟨_, List.mem_cons_self .., rfl⟩)) x3
   rcases List.mem_cons.1 hq with rfl | hq
   ·exact eqg_def hX hdf hPm hle hB (.inr (List.mem_map.2 ⟨_, List.mem_cons_of_mem _ (List.mem_cons_self ..), rfl⟩)) hkx
   rcases List.mem_cons.1 hq with rfl | hq
   ·exact eqg_def hX hdf hPm hle hB (.inr (List.mem_map.2 ⟨_, List.mem_cons_of_mem _ (List.mem_cons_of_mem _ (List.mem_cons_self ..)), rfl⟩)) ⟨by simp [mgE, whE, vaE, Ex.shp, Ex.shps, x2, xk], by simp only [mgE, whE, vaE, Ex.size, Ex.sizes]; omega⟩
   ·exact (i1 q hq).more hX hdf hPm hle hB (fun x hx => List.mem_cons_of_mem _ (List.mem_cons_of_mem _ (List.mem_cons_of_mem _ hx)))
  ·simp only [List.map_cons, List.sum_cons, List.length_cons]
   have : ∀ v e, cntQ cb (defQ v e) = 0 := fun v e => rfl
   rw [this, this, this]
   omega
  ·rcases List.mem_cons.1 hv with rfl | hv
   ·exact Nat.zero_le _
   rcases List.mem_cons.1 hv with rfl | hv
   ·show 1 ≤ 10; omega
   rcases List.mem_cons.1 hv with rfl | hv
   ·exact Nat.zero_le _
   ·exact i3 v hv
theorem todo_good {subs : Int} {n n' : Nat} {s : Sc} {outs : List Va} {l : List Qu} {vs : List Va} (h : GTodo (GEqs RB subs) n n' s outs l vs) : n' ≤ 4000000 → (∀ q ∈ l, EqG df PB PD outs vs q) ∧ vs.length + (l.map (cntQ cb)).sum ≤ n' - n ∧ (∀ v ∈ vs, v.clock.length ≤ 10) ∧ (l.map (pcQ pb)).sum + n * X ≤ n' * X + outs.length * (12180000 + 3 * K) := by
 induction h with
 | nil => exact fun _ => ⟨(fun q hq => by cases hq), Nat.zero_le _, (fun v hv => by cases hv), by simp⟩
 | @step n n1 n' s a r l vs l' vs' ha1 ha3 h1 h2 ih =>
  intro hn
  have k1 := (eqs_inc hle h1).le
  have k2 := (todo_inc hle h2).le
  obtain ⟨p1, p2, p3, p4⟩ := eqs_good hX hdf hPm hle hB h1 (by omega) ha3
  obtain ⟨i1, i2, i3, i4⟩ := ih hn
  refine ⟨fun q hq => ?_, ?_, (fun v hv => ?_), ?_⟩
  ·rcases List.mem_append.1 hq with hq | hq
   ·obtain ⟨⟨T, t1, t2, t3⟩, t4⟩ := p1 q hq
    have hs : ∀ x, (x ∈ a.map Va.name ∨ x ∈ vs.map Va.name) → x ∈ (a ++ r).map Va.name ∨ x ∈ (vs ++ vs').map Va.name := fun x hx => by
     rw [List.map_append, List.map_append]
     exact hx.imp (List.mem_append_left _) (List.mem_append_left _)
    exact ⟨⟨T, t1, fun x hx => hs x (t2 x hx), t3⟩, fun S hS => t4 S (fun x hx => hS x (hs x hx))⟩
   ·obtain ⟨⟨T, t1, t2, t3⟩, t4⟩ := i1 q hq
    have hs : ∀ x, (x ∈ r.map Va.name ∨ x ∈ vs'.map Va.name) → x ∈ (a ++ r).map Va.name ∨ x ∈ (vs ++ vs').map Va.name := fun x hx => by
     rw [List.map_append, List.map_append]
     exact hx.imp (List.mem_append_right _) (List.mem_append_right _)
    exact ⟨⟨T, t1, fun x hx => hs x (t2 x hx), t3⟩, fun S hS => t4 S (fun x hx => hS x (hs x hx))⟩
  ·rw [List.length_append, List.map_append, List.sum_append]; omega
  ·rcases List.mem_append.1 hv with hv | hv
   ·exact p3 v hv
   ·exact i3 v hv
  ·rw [List.map_append, List.sum_append, List.length_append, Nat.add_mul]
   have h3 : 1 * (12180000 + 3 * K) ≤ a.length * (12180000 + 3 * K) := Nat.mul_le_mul_right _ ha1
   omega
theorem blk_g {subs : Int} {n n' : Nat} {s : Sc} {outs : List Va} {b : Bk} (h : GBlk (GEqs RB subs) n n' s outs b) (hn : n' ≤ 4000000) (hol : outs.length ≤ 3) :
    BkG (CsBs df PB PD) (fun V Q T => ∀ q ∈ Q, ∃ Tq : List Str, Tq.length ≤ 100 ∧ (∀ x ∈ Tq, x ∈ T ∨ x ∈ V.map Va.name) ∧ DfQ PD q Tq) (cntBl cb) (pcBl pb) (X + 10) (6 * (12180000 + 3 * K)) n n' outs b.vars b.eqs := by
 obtain ⟨own, l, vs, hownl, hown, ht, rfl⟩ := h
 have hownc := own_ck hown
 have k2 := (todo_inc hle ht).le
 obtain ⟨p1, p2, p3, p4⟩ := todo_good hX hdf hPm hle hB ht hn
 have hs : ∀ x, (x ∈ (own ++ outs).map Va.name ∨ x ∈ vs.map Va.name) → x ∈ outs.map Va.name ∨ x ∈ (own ++ vs).map Va.name := fun x hx => by
  rw [List.map_append] at hx ⊢
  rcases hx with hx | hx
  ·rcases List.mem_append.1 hx with hx | hx
   ·exact .inr (List.mem_append_left _ hx)
   ·exact .inl hx
  ·exact .inr (List.mem_append_right _ hx)
 refine ⟨fun S hS => ⟨fun v hv => ?_, fun q hq => ?_⟩, fun q hq => ?_, ?_, ?_⟩
 ·rcases List.mem_append.1 hv with hv | hv
  ·rw [hownc v hv]; exact Nat.zero_le _
  ·exact p3 v hv
 ·refine (p1 q hq).2 _ (fun x hx => ?_)
  rcases hs x hx with hx | hx
  ·exact List.mem_append_left _ (hS x hx)
  ·exact List.mem_append_right _ hx
 ·obtain ⟨⟨T, t1, t2, t3⟩, _⟩ := p1 q hq
  exact ⟨T, t1, fun x hx => hs x (t2 x hx), t3⟩
 ·show (own ++ vs).length + (l.map (cntQ cb)).sum ≤ n' - n
  rw [List.length_append]
  omega
 ·show 10 * (own ++ vs).length + (l.map (pcQ pb)).sum + n * (X + 10) ≤ n' * (X + 10) + _
  have h3 : (own ++ outs).length * (12180000 + 3 * K) ≤ 6 * (12180000 + 3 * K) := Nat.mul_le_mul_right _ (by rw [List.length_append]; omega)
  rw [Nat.add_mul] at p4
  rw [Nat.mul_add, Nat.mul_add, List.length_append]
  have h5 : n * X ≤ (n + own.length) * X := Nat.mul_le_mul_right _ (by omega)
  rw [Nat.add_mul] at h5
  omega
end
theorem DfB_mono : ∀ (d : Nat) {V : List Va} {Q : List Qu} {T T' : List Str}, DfB d V Q T → (∀ x ∈ T, x ∈ T') → DfB d V Q T'
 | 0, V, Q, T, T', h, hs => fun q hq => by
  obtain ⟨Tq, h1, h2, h3⟩ := h q hq
  exact ⟨Tq, h1, fun x hx => (h2 x hx).imp (hs x) id, h3⟩
 | d + 1, V, Q, T, T', h, hs => fun q hq => by
  obtain ⟨Tq, h1, h2, h3⟩ := h q hq
  exact ⟨Tq, h1, fun x hx => (h2 x hx).imp (hs x) id, h3⟩
theorem dfF_sub : ∀ (d : Nat) (V : List Va) (Q : List Qu) (T : List Str), DfB d V Q T → T.length ≤ 100 → ∀ x ∈ dfF d V Q, x ∈ T := fun d V Q T h hT x hx => (bdefines_any d V Q T h hT).1.1 x hx
def kB : Nat → Nat
 | 0 => 6 * (12180000 + 3 * 0)
 | d + 1 => 6 * (12180000 + 3 * kB d)
def xB : Nat → Nat
 | 0 => 60000 + 10
 | d + 1 => xB d + 10
theorem xB_le : ∀ d, 60000 ≤ xB d
 | 0 => by unfold xB; omega
 | d + 1 => by have := xB_le d; unfold xB; omega
theorem bk_g : ∀ (d : Nat) (subs : Int) (n n' : Nat) (s : Sc) (outs : List Va) (b : Bk), GBk d subs n n' s outs b → n' ≤ 4000000 → outs.length ≤ 3 → BkG (CsB d) (DfB d) (cntF d) (pcF d) (xB d) (kB d) n n' outs b.vars b.eqs
 | 0, subs, n, n', s, outs, b, h, hn, hol => blk_g (RB := fun _ _ _ _ _ => False) (PB := fun _ _ _ => False) (PD := fun _ _ _ => False) (df := fun _ _ => []) (cb := fun _ _ => 0) (pb := fun _ _ => 0) (X := 60000) (K := 0) (Nat.le_refl _) (fun _ _ _ h => h.elim) (fun _ _ _ _ h => h.elim) (fun _ _ _ _ _ h => h.elim) (fun _ _ _ _ _ h => h.elim) h hn hol
 | d + 1, subs, n, n', s, outs, b, h, hn, hol => blk_g (RB := GBk d subs) (PB := CsB d) (PD := DfB d) (df := dfF d) (cb := cntF d) (pb := pcF d) (X := xB d) (K := kB d) (xB_le d) (dfF_sub d) (fun _ _ _ _ h hs => DfB_mono d h hs) (fun n n' s outs b h => bk_le d subs n n' s outs b h) (fun n n' s outs b h hn hol => bk_g d subs n n' s outs b h hn hol) h hn hol
/-- A node that is made is right, and tells of so many needs. -/
theorem made_g {ns : List No} (h : GNodes ns) : ∀ n ∈ ns, (CsN 3 n ∧ n.ins.length ≤ 100 ∧ n.outs.length ≤ 100) ∧ pcF 3 n.b.vars n.b.eqs ≤ 1000000000000 := fun n hn => by
 obtain ⟨k, hk, rfl⟩ := List.getElem_of_mem hn
 obtain ⟨l, e, b, n', _, hn', hb, he⟩ := h k hk
 rw [he]
 have hP := bk_g 3 _ _ _ _ _ b hb (by omega) (by simp [nOuts])
 refine ⟨⟨⟨hP.good _ (fun x hx => by rw [List.map_append]; exact List.mem_append_right _ hx), ?_, by omega, by simp [nIns, nOuts]⟩, by simp [nIns], by simp [nOuts]⟩, ?_⟩
 ·have := hP.cnt
  simp only [nIns, nOuts, List.length_append, List.length_cons, List.length_nil]
  omega
 ·have := hP.pc
  have hx : xB 3 = 60040 := rfl
  have hk : kB 3 = 451266720000 ∨ kB 3 ≤ 700000000000 := .inr (by decide)
  rw [hx] at this
  show pcF 3 b.vars b.eqs ≤ _
  omega
end Go.Proofs.Ytaealemhegdmpaa
