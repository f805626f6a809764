/-
 Texts that belong together: CsP, CsS, CsT.
-/
-- halved
import Derived.Test.YtaealemhegdmpaaCgE
import Derived.Test.YtaealemhegdmpaaMkH
/-
 causes: where names are ranked, no vertex needs itself.
-/
set_option linter.unusedVariables false
set_option linter.unusedSimpArgs false
namespace Go.Proofs.Ytaealemhegdmpaa
open Go
def rdN (es : List Ex) : List Str := es.flatMap fun e => e.reads true []
theorem rdL_eq (ns : List Str) (see : List Nat) (es : List Ex) : rdL ns see es = (rdN es).map (fndN ns see) := by
 unfold rdL rdN; rw [List.map_flatMap]
def nmAt (g : Gs) (i : Nat) : Str := (nmG g).getD i ⟨#[]⟩
theorem nmAt_ext {g g' : Gs} {ms : List Vx} (e : g'.vs = g.vs ++ ms) {i : Nat} (hi : i < g.vs.length) : nmAt g' i = nmAt g i := by
 unfold nmAt nmG
 rw [e, List.map_append]
 simp [List.getD, List.getElem?_append_left, hi]
structure GD (rk : Str → Nat) (g : Gs) : Prop where
 dec : ∀ a b, g.E a b → rk (nmAt g b) < rk (nmAt g a)
 inn : ∀ a b, g.E a b → a < g.vs.length ∧ b < g.vs.length
def OIn (g : Gs) (O : Int → Prop) (ON : Str → Prop) : Prop := ∀ b : Nat, O (b : Int) → b < g.vs.length ∧ ON (nmAt g b)
def SIn (g : Gs) (see : List Nat) : Prop := ∀ i ∈ see, i < g.vs.length
theorem OIn.ext {g g' : Gs} {O : Int → Prop} {ON : Str → Prop} (h : OIn g O ON) {ms : List Vx} (e : g'.vs = g.vs ++ ms) : OIn g' O ON := fun b hb => by
 obtain ⟨h1, h2⟩ := h b hb
 exact ⟨by rw [e, List.length_append]; omega, by rw [nmAt_ext e h1]; exact h2⟩
theorem SIn.ext {g g' : Gs} {see : List Nat} (h : SIn g see) {ms : List Vx} (e : g'.vs = g.vs ++ ms) : SIn g' see := fun i hi => by
 have := h i hi
 rw [e, List.length_append]; omega
theorem GD.ext {rk : Str → Nat} {g g' : Gs} (h : GD rk g) {ms : List Vx} (e : g'.vs = g.vs ++ ms) (hE : g'.E = g.E) : GD rk g' := by
 refine ⟨fun a b hab => ?_, fun a b hab => ?_⟩
 ·rw [hE] at hab
  obtain ⟨h1, h2⟩ := h.inn a b hab
  rw [nmAt_ext e h1, nmAt_ext e h2]
  exact h.dec a b hab
 ·rw [hE] at hab
  obtain ⟨h1, h2⟩ := h.inn a b hab
  rw [e, List.length_append]; omega
theorem fnd_at {g : Gs} {see : List Nat} (hs : SIn g see) {x : Str} {a : Nat} (h : (a : Int) = fndN (nmG g) see x) : a < g.vs.length ∧ nmAt g a = x := by
 rcases fndN_at (nmG g) x see with ⟨h1, _⟩ | ⟨i, hi, h1, h2⟩
 ·omega
 ·obtain rfl : a = i := by omega
  exact ⟨hs _ hi, h2⟩
theorem GD.need {rk : Str → Nat} {g : Gs} (h : GD rk g) {i : Int} {O : Int → Prop} {ON : Str → Prop} (hO : OIn g O ON) (hi : ∀ a : Nat, (a : Int) = i → a < g.vs.length ∧ ∀ y, ON y → rk y < rk (nmAt g a)) : GD rk (g.need i O) := by
 refine ⟨fun a b hab => ?_, fun a b hab => ?_⟩
 ·rcases hab with hab | ⟨h1, h2⟩
  ·exact h.dec a b hab
  ·exact (hi a h1).2 _ (hO b h2).2
 ·rcases hab with hab | ⟨h1, h2⟩
  ·exact h.inn a b hab
  ·exact ⟨(hi a h1).1, (hO b h2).1⟩
theorem gDef_dec {rk : Str → Nat} {see : List Nat} {O : Int → Prop} {ON : Str → Prop} : ∀ (l : List Str) (g : Gs), (∀ x ∈ l, ∀ y, ON y → rk y < rk x) → GD rk g → SIn g see → OIn g O ON → GD rk (gDef see O g l)
 | [], g, _, h, _, _ => h
 | x :: l, g, hl, h, hs, hO => by
  refine gDef_dec l (g.need (fndN (nmG g) see x) O) (fun z hz => hl z (List.mem_cons_of_mem _ hz)) (h.need hO fun a ha => ?_) hs hO
  obtain ⟨h1, h2⟩ := fnd_at hs ha
  exact ⟨h1, by rw [h2]; exact hl x (List.mem_cons_self ..)⟩
theorem gCk1_dec {rk : Str → Nat} {see : List Nat} {v : Va} : ∀ (l : List On) (g : Gs), (∀ o ∈ l, rk o.var < rk v.name) → GD rk g → SIn g see → GD rk (gCk1 see v g l)
 | [], g, _, h, _ => h
 | o :: l, g, hl, h, hs => by
  refine gCk1_dec l (g.need (fndN (nmG g) see v.name) (fun x => x = fndN (nmG g) see o.var)) (fun z hz => hl z (List.mem_cons_of_mem _ hz)) (h.need (ON := fun y => y = o.var) (fun b hb => fnd_at hs hb) fun a ha => ?_) hs
  obtain ⟨h1, h2⟩ := fnd_at hs ha
  exact ⟨h1, by rw [h2]; rintro y rfl; exact hl o (List.mem_cons_self ..)⟩
theorem gCk_dec {rk : Str → Nat} {see : List Nat} : ∀ (V : List Va) (g : Gs), (∀ v ∈ V, ∀ o ∈ v.clock, rk o.var < rk v.name) → GD rk g → SIn g see → GD rk (gCk see g V)
 | [], g, _, h, _ => h
 | v :: V, g, hl, h, hs => by
  refine gCk_dec V (gCk1 see v g v.clock) (fun z hz => hl z (List.mem_cons_of_mem _ hz)) (gCk1_dec _ _ (hl v (List.mem_cons_self ..)) h hs) ?_
  intro i hi
  rw [gCk1_vs]; exact hs i hi
def DcQ (df : DfT) (PB : (Str → Prop) → List Va → List Qu → Prop) (rk : Str → Nat) (ON : Str → Prop) (q : Qu) : Prop :=
 (∀ x ∈ dfQ df q, ∀ y, (ON y ∨ y ∈ rdN (exQ q)) → rk y < rk x) ∧ ∀ a ∈ q.arms, PB (fun y => ON y ∨ y ∈ rdN (exQ q)) a.vars a.eqs
def DcBs (df : DfT) (PB : (Str → Prop) → List Va → List Qu → Prop) (rk : Str → Nat) (ON : Str → Prop) (V : List Va) (Q : List Qu) : Prop :=
 (∀ v ∈ V, ∀ o ∈ v.clock, rk o.var < rk v.name) ∧ ∀ q ∈ Q, DcQ df PB rk ON q
def DcB (rk : Str → Nat) : Nat → (Str → Prop) → List Va → List Qu → Prop
 | 0 => DcBs (fun _ _ => []) (fun _ _ _ => True) rk
 | d + 1 => DcBs (dfF d) (DcB rk d) rk
section
variable {rk : Str → Nat} {df : DfT} {bl : BlT} {cb : List Va → List Qu → Nat} {PB : (Str → Prop) → List Va → List Qu → Prop} (hv : BlV bl cb)
 (hb : ∀ ON V Q, PB ON V Q → ∀ g see O, SIn g see → GD rk g → OIn g O ON → GD rk (bl g see V Q O))
include hv hb
theorem gArms_dec {see : List Nat} {O : Int → Prop} {ON : Str → Prop} : ∀ (ar : List Am) (g : Gs), (∀ a ∈ ar, PB ON a.vars a.eqs) → SIn g see → GD rk g → OIn g O ON → GD rk (gArms bl see O g ar)
 | [], g, _, _, h, _ => h
 | a :: ar, g, hp, hs, h, hO => by
  obtain ⟨ms, e, _⟩ := hv g see a.vars a.eqs O
  exact gArms_dec ar (bl g see a.vars a.eqs O) (fun b hb => hp b (List.mem_cons_of_mem _ hb)) (hs.ext e) (hb _ _ _ (hp a (List.mem_cons_self ..)) _ _ _ hs h hO) (hO.ext e)
theorem gEq_dec {see : List Nat} {O : Int → Prop} {ON : Str → Prop} (g : Gs) (q : Qu) (hq : DcQ df PB rk ON q) (hs : SIn g see) (h : GD rk g) (hO : OIn g O ON) : GD rk (gEq df bl see O g q) := by
 have hO2 : OIn g (fun x => O x ∨ x ∈ rdL (nmG g) see (exQ q)) (fun y => ON y ∨ y ∈ rdN (exQ q)) := fun b hbO => by
  rcases hbO with hbO | hbO
  ·exact ⟨(hO b hbO).1, .inl (hO b hbO).2⟩
  ·rw [rdL_eq] at hbO
   obtain ⟨y, hy, he⟩ := List.mem_map.1 hbO
   obtain ⟨h1, h2⟩ := fnd_at hs he.symm
   exact ⟨h1, .inr (by rw [h2]; exact hy)⟩
 unfold gEq
 have hd := gDef_dec (dfQ df q) g hq.1 h hs hO2
 have hvs := gDef_vs see (fun x => O x ∨ x ∈ rdL (nmG g) see (exQ q)) (dfQ df q) g
 exact gArms_dec hv hb q.arms _ hq.2 (hs.ext (ms := []) (by rw [hvs, List.append_nil])) hd (hO2.ext (ms := []) (by rw [hvs, List.append_nil]))
theorem gEqs_dec {see : List Nat} {O : Int → Prop} {ON : Str → Prop} : ∀ (Q : List Qu) (g : Gs), (∀ q ∈ Q, DcQ df PB rk ON q) → SIn g see → GD rk g → OIn g O ON → GD rk (Q.foldl (gEq df bl see O) g)
 | [], g, _, _, h, _ => h
 | q :: Q, g, hp, hs, h, hO => by
  obtain ⟨ms, e, _⟩ := gEq_vs (df := df) hv see O g q
  exact gEqs_dec Q _ (fun b hb => hp b (List.mem_cons_of_mem _ hb)) (hs.ext e) (gEq_dec hv hb g q (hp q (List.mem_cons_self ..)) hs h hO) (hO.ext e)
theorem gBlk_dec (ON : Str → Prop) (V : List Va) (Q : List Qu) (hp : DcBs df PB rk ON V Q) (g : Gs) (see : List Nat) (O : Int → Prop) (hs : SIn g see) (h : GD rk g) (hO : OIn g O ON) : GD rk (gBlk df bl g see V Q O) := by
 obtain ⟨h1, h2, h3⟩ := gVars_eq V g see
 have hs2 : SIn (gVars (g, see) V).1 (gVars (g, see) V).2 := fun i hi => by
  rw [h3] at hi
  rw [h1, List.length_append, List.length_map]
  rcases List.mem_append.1 hi with hi | hi
  ·have := hs i hi; omega
  ·obtain ⟨j, hj, rfl⟩ := List.mem_map.1 hi
   rw [List.mem_range] at hj; omega
 have hck := gCk_dec V (gVars (g, see) V).1 hp.1 (h.ext h1 h2) hs2
 have hvs := gCk_vs (gVars (g, see) V).2 V (gVars (g, see) V).1
 unfold gBlk
 exact gEqs_dec hv hb Q _ hp.2 (hs2.ext (ms := []) (by rw [hvs, List.append_nil])) hck ((hO.ext h1).ext (ms := []) (by rw [hvs, List.append_nil]))
end
theorem gBk_dec (rk : Str → Nat) : ∀ (d : Nat) (ON : Str → Prop) (V : List Va) (Q : List Qu), DcB rk d ON V Q → ∀ (g : Gs) (see : List Nat) (O : Int → Prop), SIn g see → GD rk g → OIn g O ON → GD rk (gBk d g see V Q O)
 | 0, ON, V, Q, h, g, see, O, hs, hg, hO => gBlk_dec (bl := fun g _ _ _ _ => g) (cb := fun _ _ => 0) (fun g see V Q O => ⟨[], by simp, rfl⟩) (fun _ _ _ _ g see O _ hg _ => hg) ON V Q h g see O hs hg hO
 | d + 1, ON, V, Q, h, g, see, O, hs, hg, hO => gBlk_dec (gBk_vs d) (gBk_dec rk d) ON V Q h g see O hs hg hO
theorem GD.acyclic {rk : Str → Nat} {g : Gs} (h : GD rk g) (i : Nat) : ¬ Bad g i := fun ⟨_, hb⟩ => by
 have key : ∀ {a b : Nat}, TG g.E a b → rk (nmAt g b) < rk (nmAt g a) := fun {a b} hab => by
  induction hab with
  | single h1 => exact h.dec _ _ h1
  | tail _ h2 ih => exact Nat.lt_trans (h.dec _ _ h2) ih
 exact Nat.lt_irrefl _ (key hb)
theorem node_dec {d : Nat} {n : No} {rk : Str → Nat} (h : DcB rk d (fun _ => False) n.b.vars n.b.eqs) (i : Nat) : ¬ Bad (gOf d n) i := by
 obtain ⟨h1, h2, h3⟩ := gVars_eq (n.ins ++ n.outs) ⟨[], fun _ _ => False⟩ []
 refine GD.acyclic (gBk_dec rk d _ _ _ h _ _ _ (fun i hi => ?_) ⟨fun a b hab => ?_, fun a b hab => ?_⟩ (fun b hb => hb.elim)) i
 ·rw [h3] at hi
  rw [h1]; simp at hi ⊢; exact hi
 ·rw [h2] at hab; exact hab.elim
 ·rw [h2] at hab; exact hab.elim
end Go.Proofs.Ytaealemhegdmpaa
/-
 causes: names of what is made can be ranked.
-/
set_option linter.unusedVariables false
set_option linter.unusedSimpArgs false
set_option linter.unusedSectionVars false
namespace Go.Proofs.Ytaealemhegdmpaa
open Go
theorem const_shp {t : Ty} {e : Ex} (h : isConst t e) : e.shp = true ∧ e.size = 1 := by
 rcases h with ⟨_, k, _, rfl⟩ | ⟨_, k, _, rfl⟩ | ⟨_, c, _, rfl⟩ <;> exact ⟨rfl, rfl⟩
theorem vc_shp {l : List Va} {t : Ty} {e : Ex} (h : isVC l t e) : e.shp = true ∧ e.size = 1 := by
 rcases h with ⟨s, _, rfl⟩ | h
 ·exact ⟨rfl, rfl⟩
 ·exact const_shp h
theorem gex_shp : ∀ (d : Nat) {s : Sc} {t : Ty} {st : Bool} {e : Ex}, GEx d s t st e → e.shp = true ∧ e.size ≤ 4 ^ d
 | 0, s, t, st, e, h => by
  obtain ⟨h1, h2⟩ := vc_shp h
  exact ⟨h1, by rw [h2]; exact Nat.le_refl _⟩
 | d + 1, s, t, st, e, h => by
  have hp : 1 ≤ 4 ^ d := Nat.one_le_pow _ _ (by decide)
  have hpow : 4 ^ (d + 1) = 4 * 4 ^ d := by rw [Nat.pow_succ]; omega
  have one : ∀ {e : Ex}, e.shp = true ∧ e.size = 1 → e.shp = true ∧ e.size ≤ 4 ^ (d + 1) := fun h => ⟨h.1, by rw [h.2]; omega⟩
  rcases h with h | ⟨c, a, b, h1, h2, h3, rfl⟩ | ⟨_, c, b, h1, h2, rfl⟩ | ⟨_, a, b, h1, h2, rfl⟩ | ⟨x, h1, rfl⟩ | ⟨_, a, h1, rfl⟩ | ⟨_, o, a, b, _, h1, h2, rfl⟩ | ⟨_, a, h1, rfl⟩ | ⟨_, o, u, a, b, _, h1, h2, rfl⟩ | h
  ·exact one (vc_shp h)
  ·obtain ⟨p1, q1⟩ := gex_shp d h1
   obtain ⟨p2, q2⟩ := gex_shp d h2
   obtain ⟨p3, q3⟩ := gex_shp d h3
   exact ⟨by simp [Ex.un, Ex.shp, Ex.shps, p1, p2, p3], by simp only [Ex.un, Ex.size, Ex.sizes]; omega⟩
  ·obtain ⟨p1, q1⟩ := const_shp h1
   obtain ⟨p2, q2⟩ := gex_shp d h2
   exact ⟨by simp [Ex.two, Ex.shp, Ex.shps, p1, p2], by simp only [Ex.two, Ex.size, Ex.sizes]; omega⟩
  ·obtain ⟨p1, q1⟩ := gex_shp d h1
   obtain ⟨p2, q2⟩ := gex_shp d h2
   exact ⟨by simp [Ex.two, Ex.un, Ex.shp, Ex.shps, p1, p2], by simp only [Ex.two, Ex.un, Ex.size, Ex.sizes]; omega⟩
  ·exact one ⟨rfl, rfl⟩
  ·obtain ⟨p1, q1⟩ := gex_shp d h1
   exact ⟨by simp [Ex.un, Ex.shp, Ex.shps, p1], by simp only [Ex.un, Ex.size, Ex.sizes]; omega⟩
  ·obtain ⟨p1, q1⟩ := gex_shp d h1
   obtain ⟨p2, q2⟩ := gex_shp d h2
   exact ⟨by simp [Ex.two, Ex.shp, Ex.shps, p1, p2], by simp only [Ex.two, Ex.size, Ex.sizes]; omega⟩
  ·obtain ⟨p1, q1⟩ := gex_shp d h1
   exact ⟨by simp [Ex.un, Ex.shp, Ex.shps, p1], by simp only [Ex.un, Ex.size, Ex.sizes]; omega⟩
  ·obtain ⟨p1, q1⟩ := gex_shp d h1
   obtain ⟨p2, q2⟩ := gex_shp d h2
   exact ⟨by simp [Ex.two, Ex.shp, Ex.shps, p1, p2], by simp only [Ex.two, Ex.size, Ex.sizes]; omega⟩
  ·exact one (vc_shp h)
theorem gex_csx {d : Nat} (hd : d ≤ 3) {s : Sc} {t : Ty} {st : Bool} {e : Ex} (h : GEx d s t st e) : e.shp = true ∧ e.size ≤ 64 := by
 obtain ⟨h1, h2⟩ := gex_shp d h
 have : 4 ^ d ≤ 4 ^ 3 := Nat.pow_le_pow_right (by decide) hd
 exact ⟨h1, by omega⟩
theorem csx_of {e : Ex} (h : e.shp = true ∧ e.size ≤ 64) : CsX e := ⟨h.1, by omega⟩
def RI (P : Str → Prop) (e : Ex) : Prop := ∀ out : List Str, (∀ y ∈ out, P y) → ∀ y ∈ e.reads true out, P y
section
variable {P : Str → Prop}
theorem addS_in {out : List Str} {s : Str} (h : ∀ y ∈ out, P y) (hs : P s) : ∀ y ∈ addS out s, P y := fun y hy => by
 unfold addS at hy
 split at hy
 ·exact h y hy
 ·rcases List.mem_append.1 hy with hy | hy
  ·exact h y hy
  ·rw [List.mem_singleton] at hy; subst hy; exact hs
theorem RIL : ∀ (l : List Ex), (∀ e ∈ l, RI P e) → ∀ out : List Str, (∀ y ∈ out, P y) → ∀ y ∈ Ex.readsL true out l, P y
 | [], _, out, h, y, hy => h y hy
 | e :: l, hl, out, h, y, hy => RIL l (fun e he => hl e (List.mem_cons_of_mem _ he)) _ (hl e (List.mem_cons_self ..) out h) y hy
theorem RI.kids {e : Ex} (hk : e.kind ≠ 4 ∧ e.kind ≠ 13 ∧ e.kind ≠ 12 ∧ e.kind ≠ 10 ∧ e.kind ≠ 9) (h : ∀ x ∈ e.kids, RI P x) : RI P e := fun out ho y hy => by
 rw [Ex.reads_eq] at hy
 simp only [hk, beq_iff_eq, Bool.or_eq_true, Bool.and_eq_true, or_self, if_false, false_and] at hy
 exact RIL _ h out ho y hy
theorem RI.var {s : Str} (h : P s) : RI P (Ex.sc 4 0 0 s) := fun out ho y hy => addS_in ho h y hy
theorem RI.const {t : Ty} {e : Ex} (h : isConst t e) : RI P e := by
 rcases h with ⟨_, k, _, rfl⟩ | ⟨_, k, _, rfl⟩ | ⟨_, c, _, rfl⟩ <;> exact RI.kids (by simp [Ex.sc, Ex.kind]) (fun x hx => by cases hx)
theorem RI.vc {l : List Va} {t : Ty} {e : Ex} (h : isVC l t e) (hl : ∀ v ∈ l, P v.name) : RI P e := by
 rcases h with ⟨s, ⟨v, hv, _, _, rfl⟩, rfl⟩ | h
 ·exact RI.var (hl v hv)
 ·exact RI.const h
theorem RI.two {k o : Int} {a b : Ex} (hk : k ≠ 4 ∧ k ≠ 13 ∧ k ≠ 12 ∧ k ≠ 10 ∧ k ≠ 9) (ha : RI P a) (hb : RI P b) : RI P (Ex.two k o a b) := RI.kids hk (fun x hx => by
 simp only [Ex.two, Ex.kids, List.mem_cons, List.not_mem_nil, or_false] at hx
 rcases hx with rfl | rfl
 ·exact ha
 ·exact hb)
theorem RI.fby {o : Int} {a b : Ex} (ha : RI P a) : RI P (Ex.two 9 o a b) := fun out ho y hy => ha out ho y hy
theorem RI.pre {o : Int} {l : List Ex} : RI P (Ex.un 10 o l) := fun out ho y hy => ho y hy
theorem RI.un {k o : Int} {l : List Ex} (hk : k ≠ 4 ∧ k ≠ 13 ∧ k ≠ 12 ∧ k ≠ 10 ∧ k ≠ 9) (h : ∀ x ∈ l, RI P x) : RI P (Ex.un k o l) := RI.kids hk h
theorem RI.wh {c : Va} {nm : Str} {e : Ex} (hc : P c.name) (h : RI P e) : RI P (whE c nm e) := fun out ho y hy => addS_in (h out ho) hc y hy
theorem RI.mg {c w : Va} {e2 k1 : Ex} (hc : P c.name) (hw : P w.name) (h : RI P e2) (hk : RI P k1) : RI P (mgE c w e2 k1) := fun out ho y hy => by
 refine RIL [whE c sGreen e2, vaE w, k1] (fun x hx => ?_) _ (addS_in ho hc) y hy
 simp only [List.mem_cons, List.not_mem_nil, or_false] at hx
 rcases hx with rfl | rfl | rfl
 ·exact RI.wh hc h
 ·exact RI.var hw
 ·exact hk
theorem gex_ri : ∀ (d : Nat) {s : Sc} {t : Ty} {st : Bool} {e : Ex}, GEx d s t st e → (∀ v ∈ s.ready, P v.name) → RI P e
 | 0, s, t, st, e, h, hr => RI.vc h hr
 | d + 1, s, t, st, e, h, hr => by
  rcases h with h | ⟨c, a, b, h1, h2, h3, rfl⟩ | ⟨_, c, b, h1, h2, rfl⟩ | ⟨_, a, b, h1, h2, rfl⟩ | ⟨x, h1, rfl⟩ | ⟨_, a, h1, rfl⟩ | ⟨_, o, a, b, _, h1, h2, rfl⟩ | ⟨_, a, h1, rfl⟩ | ⟨_, o, u, a, b, _, h1, h2, rfl⟩ | h
  ·exact RI.vc h hr
  ·refine RI.un (by decide) (fun x hx => ?_)
   simp only [List.mem_cons, List.not_mem_nil, or_false] at hx
   rcases hx with rfl | rfl | rfl
   ·exact gex_ri d h1 hr
   ·exact gex_ri d h2 hr
   ·exact gex_ri d h3 hr
  ·exact RI.fby (RI.const h1)
  ·exact RI.two (by decide) (gex_ri d h1 hr) RI.pre
  ·exact RI.kids (by simp [Ex.sc, Ex.kind]) (fun x hx => by cases hx)
  ·exact RI.un (by decide) (fun x hx => by rw [List.mem_singleton] at hx; subst hx; exact gex_ri d h1 hr)
  ·exact RI.two (by decide) (gex_ri d h1 hr) (gex_ri d h2 hr)
  ·exact RI.un (by decide) (fun x hx => by rw [List.mem_singleton] at hx; subst hx; exact gex_ri d h1 hr)
  ·exact RI.two (by decide) (gex_ri d h1 hr) (gex_ri d h2 hr)
  ·exact RI.vc h hr
theorem rdN_in {es : List Ex} (h : ∀ e ∈ es, RI P e) : ∀ y ∈ rdN es, P y := fun y hy => by
 obtain ⟨e, he, hy⟩ := List.mem_flatMap.1 hy
 exact h e he [] (fun _ h => by cases h) y hy
end
def Gt (n : Nat) (x : Str) : Prop := ∃ k, n < k ∧ isNm x k
def InC (n n' : Nat) (x : Str) : Prop := ∃ k, n < k ∧ k ≤ n' ∧ isNm x k
def Ag (P : Str → Prop) (a b : Str → Nat) : Prop := ∀ x, ¬ P x → b x = a x
theorem InC.gt {n n' : Nat} {x : Str} (h : InC n n' x) : Gt n x := by obtain ⟨k, h1, _, h3⟩ := h; exact ⟨k, h1, h3⟩
theorem InC.mono {n n' m m' : Nat} {x : Str} (h : InC n n' x) (h1 : m ≤ n) (h2 : n' ≤ m') : InC m m' x := by obtain ⟨k, k1, k2, k3⟩ := h; exact ⟨k, by omega, by omega, k3⟩
theorem Gt.mono {n m : Nat} {x : Str} (h : Gt n x) (h1 : m ≤ n) : Gt m x := by obtain ⟨k, k1, k2⟩ := h; exact ⟨k, by omega, k2⟩
theorem in_of {c : UInt8} {k n n' : Nat} (h1 : n < k) (h2 : k ≤ n') : InC n n' (nameS ⟨#[c]⟩ k) := ⟨k, h1, h2, isNm_of _ _⟩
theorem not_gt {c : UInt8} {k n : Nat} (h : k ≤ n) : ¬ Gt n (nameS ⟨#[c]⟩ k) := fun ⟨j, h1, h2⟩ => by have := isNm_inj h2 (isNm_of c k); omega
theorem Ag.refl {P : Str → Prop} {a : Str → Nat} : Ag P a a := fun _ _ => rfl
theorem Ag.tail {n n1 n' : Nat} {a b c : Str → Nat} (h1 : Ag (InC n n1) a b) (h2 : Ag (InC n1 n') b c) (k1 : n ≤ n1) (k2 : n1 ≤ n') : Ag (InC n n') a c := fun x hx => by
 rw [h2 x (fun h => hx (h.mono k1 (Nat.le_refl _))), h1 x (fun h => hx (h.mono (Nat.le_refl _) k2))]
theorem Ag.out {n1 n' : Nat} {b c d : Str → Nat} (h1 : Ag (InC n1 n') b c) (h2 : Ag (Gt n') c d) (k : n1 ≤ n') : Ag (Gt n1) b d := fun x hx => by
 rw [h2 x (fun h => hx (h.mono k)), h1 x (fun h => hx h.gt)]
theorem Ag.gt {n n' : Nat} {a b : Str → Nat} (h : Ag (InC n n') a b) : Ag (Gt n) a b := fun x hx => h x (fun q => hx q.gt)
theorem Ag.gtt {n n' : Nat} {a b c : Str → Nat} (h : Ag (Gt n) a b) (h2 : Ag (Gt n') b c) (k : n ≤ n') : Ag (Gt n) a c := fun x hx => by
 rw [h2 x (fun q => hx (q.mono k)), h x hx]
def Gap (g : Nat) (rk : Str → Nat) : Nat → List Va → Prop
 | _, [] => True
 | lo, v :: r => lo + g ≤ rk v.name ∧ Gap g rk (rk v.name) r
theorem Gap.mono {g : Nat} {rk : Str → Nat} {lo lo' : Nat} : ∀ {l : List Va}, Gap g rk lo l → lo' ≤ lo → Gap g rk lo' l
 | [], _, _ => trivial
 | v :: r, ⟨h1, h2⟩, h => ⟨by omega, h2⟩
theorem Gap.weak {g k K : Nat} {rk : Str → Nat} (hk : k ≤ K) : ∀ {l : List Va} {lo : Nat}, Gap (K + g) rk lo l → Gap g rk (lo + k) l
 | [], _, _ => trivial
 | v :: r, lo, ⟨h1, h2⟩ => ⟨by omega, (Gap.weak (k := 0) (Nat.zero_le _) h2).mono (Nat.le_add_right _ _)⟩
theorem Gap.sub {g : Nat} {rk : Str → Nat} : ∀ {a l : List Va} {lo : Nat}, isLess a l → Gap g rk lo a → Gap g rk lo l
 | [], l, lo, h, _ => by cases h; trivial
 | w :: r, l, lo, h, ⟨h1, h2⟩ => by
  rcases h with ⟨l', rfl, h⟩ | ⟨_, h⟩
  ·exact ⟨h1, Gap.sub h h2⟩
  ·exact (Gap.sub h h2).mono (by omega)
theorem Gap.gt {g : Nat} (hg : 1 ≤ g) {rk : Str → Nat} : ∀ {l : List Va} {lo : Nat}, Gap g rk lo l → ∀ v ∈ l, lo < rk v.name
 | w :: r, lo, ⟨h1, h2⟩, v, hv => by
  rcases List.mem_cons.1 hv with rfl | hv
  ·omega
  ·have := Gap.gt hg h2 v hv; omega
theorem Gap.cong {g : Nat} {rk rk' : Str → Nat} : ∀ {l : List Va} {lo : Nat}, Gap g rk lo l → (∀ v ∈ l, rk' v.name = rk v.name) → Gap g rk' lo l
 | [], _, _, _ => trivial
 | w :: r, lo, ⟨h1, h2⟩, h => by
  have e := h w (List.mem_cons_self ..)
  exact ⟨by rw [e]; exact h1, by rw [e]; exact Gap.cong h2 (fun v hv => h v (List.mem_cons_of_mem _ hv))⟩
def lastR (rk : Str → Nat) : Nat → List Va → Nat
 | lo, [] => lo
 | _, v :: r => lastR rk (rk v.name) r
theorem Gap.app {g : Nat} {rk : Str → Nat} : ∀ {a r : List Va} {lo : Nat}, Gap g rk lo (a ++ r) → Gap g rk lo a ∧ Gap g rk (lastR rk lo a) r
 | [], r, lo, h => ⟨trivial, h⟩
 | v :: a, r, lo, ⟨h1, h2⟩ => by
  obtain ⟨p, q⟩ := Gap.app (a := a) h2
  exact ⟨⟨h1, p⟩, q⟩
theorem lastR_ge {g : Nat} {rk : Str → Nat} : ∀ {a : List Va} {lo : Nat}, Gap g rk lo a → lo ≤ lastR rk lo a ∧ ∀ v ∈ a, rk v.name ≤ lastR rk lo a
 | [], lo, _ => ⟨Nat.le_refl _, fun v hv => by cases hv⟩
 | w :: a, lo, ⟨h1, h2⟩ => by
  obtain ⟨p, q⟩ := lastR_ge h2
  refine ⟨by show lo ≤ lastR rk (rk w.name) a; omega, fun v hv => ?_⟩
  rcases List.mem_cons.1 hv with rfl | hv
  ·exact p
  ·exact q v hv
def updR (rk : Str → Nat) (x : Str) (v : Nat) : Str → Nat := fun t => if eqS t x then v else rk t
theorem updR_self (rk : Str → Nat) (x : Str) (v : Nat) : updR rk x v x = v := by unfold updR; rw [if_pos (eqS_iff.2 rfl)]
theorem updR_ne (rk : Str → Nat) {x t : Str} (v : Nat) (h : t ≠ x) : updR rk x v t = rk t := by unfold updR; rw [if_neg (fun e => h (eqS_iff.1 e))]
def RdH (n : Nat) (rk : Str → Nat) (lo : Nat) (s : Sc) : Prop := ∀ v ∈ s.ready, rk v.name ≤ lo ∧ ¬ Gt n v.name
theorem isLess_sub : ∀ {a l : List Va}, isLess a l → ∀ v ∈ l, v ∈ a
 | [], l, h, v, hv => by cases h; exact hv
 | w :: r, l, h, v, hv => by
  rcases h with ⟨l', rfl, h⟩ | ⟨_, h⟩
  ·rcases List.mem_cons.1 hv with rfl | hv
   ·exact List.mem_cons_self ..
   ·exact List.mem_cons_of_mem _ (isLess_sub h v hv)
  ·exact List.mem_cons_of_mem _ (isLess_sub h v hv)
theorem own_ck : ∀ {l : List Va} {n : Nat}, GOwn n l → ∀ v ∈ l, v.clock = []
 | [], n, _, v, hv => by simp at hv
 | w :: l, n, ⟨h1, h2⟩, v, hv => by
  rcases List.mem_cons.1 hv with rfl | hv
  ·obtain ⟨t, la, e, _, _, rfl⟩ := h1; rfl
  ·exact own_ck h2 v hv
theorem dcq_of {df : DfT} {PB : (Str → Prop) → List Va → List Qu → Prop} {rk : Str → Nat} {ON : Str → Prop} {q : Qu} (lo : Nat) (h1 : ∀ x ∈ dfQ df q, lo < rk x) (h2 : ∀ y, ON y → rk y ≤ lo) (h3 : ∀ e ∈ exQ q, RI (fun y => rk y ≤ lo) e) (h4 : ∀ a ∈ q.arms, ∀ ON' : Str → Prop, (∀ y, ON' y → rk y ≤ lo) → PB ON' a.vars a.eqs) : DcQ df PB rk ON q := by
 have hb : ∀ y, (ON y ∨ y ∈ rdN (exQ q)) → rk y ≤ lo := fun y hy => hy.elim (h2 y) (rdN_in h3 y)
 exact ⟨fun x hx y hy => Nat.lt_of_le_of_lt (hb y hy) (h1 x hx), fun a ha => h4 a ha _ hb⟩
theorem defs_mem {s : Sc} : ∀ {outs : List Va} {l : List Qu}, GDefs s outs l → ∀ q ∈ l, ∃ v ∈ outs, ∃ e, GEx 3 s v.t true e ∧ q = defQ v e
 | [], l, h, q, hq => by cases h; cases hq
 | v :: r, l, ⟨e, l', he, hl, h2⟩, q, hq => by
  subst hl
  rcases List.mem_cons.1 hq with rfl | hq
  ·exact ⟨v, List.mem_cons_self .., e, he, rfl⟩
  ·obtain ⟨w, hw, h3⟩ := defs_mem h2 q hq
   exact ⟨w, List.mem_cons_of_mem _ hw, h3⟩
theorem chn_all {R : Nat → Nat → Nat → Am → Prop} {Q : Am → Prop} {c : Am → Nat} {hi : Nat} (hR : ∀ j n n' a, R j n n' a → n ≤ n') (h : ∀ j n n' a, R j n n' a → n' ≤ hi → Q a ∧ c a ≤ n' - n) : ∀ (l : List Am) (j n n' : Nat), Chn R j n n' l → n' ≤ hi → (∀ a ∈ l, Q a) ∧ (l.map c).sum ≤ n' - n
 | [], _, _, _, hc, _ => ⟨(fun a ha => by cases ha), Nat.zero_le _⟩
 | b :: l, j, n, n', ⟨n1, h1, h2⟩, hhi => by
  have e1 := hR _ _ _ _ h1
  have e2 := chn_le hR h2
  obtain ⟨p1, p2⟩ := h _ _ _ _ h1 (by omega)
  obtain ⟨q1, q2⟩ := chn_all hR h l _ _ _ h2 hhi
  refine ⟨fun a ha => ?_, by rw [List.map_cons, List.sum_cons]; omega⟩
  rcases List.mem_cons.1 ha with rfl | ha
  ·exact p1
  ·exact q1 a ha
theorem chn_rk {R : Nat → Nat → Nat → Am → Prop} {PA : (Str → Nat) → Am → Prop} {lo hi : Nat} {rk0 : Str → Nat} (hR : ∀ j n n' a, R j n n' a → n ≤ n')
    (h : ∀ j n1 n2 a, R j n1 n2 a → lo ≤ n1 → n2 ≤ hi → ∀ rk, Ag (Gt lo) rk0 rk → ∃ rk', Ag (InC n1 n2) rk rk' ∧ ∀ rk'', Ag (Gt n2) rk' rk'' → PA rk'' a) :
    ∀ (l : List Am) (j n1 n2 : Nat), Chn R j n1 n2 l → lo ≤ n1 → n2 ≤ hi → ∀ rk, Ag (Gt lo) rk0 rk → ∃ rk', Ag (InC n1 n2) rk rk' ∧ ∀ rk'', Ag (Gt n2) rk' rk'' → ∀ a ∈ l, PA rk'' a
 | [], _, _, _, hc, _, _, rk, _ => ⟨rk, Ag.refl, fun _ _ a ha => by cases ha⟩
 | b :: l, j, n1, n2, ⟨n3, h1, h2⟩, hlo, hhi, rk, hA => by
  have e1 := hR _ _ _ _ h1
  have e2 := chn_le hR h2
  obtain ⟨rk1, p1, p2⟩ := h _ _ _ _ h1 hlo (by omega) rk hA
  obtain ⟨rk2, q1, q2⟩ := chn_rk hR h l _ _ _ h2 (by omega) hhi rk1 (hA.gtt p1.gt hlo)
  refine ⟨rk2, p1.tail q1 e1 e2, fun rk'' hA2 a ha => ?_⟩
  rcases List.mem_cons.1 ha with rfl | ha
  ·exact p2 rk'' (q1.out hA2 e2)
  ·exact q2 rk'' hA2 a ha
end Go.Proofs.Ytaealemhegdmpaa
/-
 causes: blocks that are made: they are right, and their names can be ranked.
-/
set_option linter.unusedVariables false
set_option linter.unusedSimpArgs false
set_option linter.unusedSectionVars false
namespace Go.Proofs.Ytaealemhegdmpaa
open Go
structure BkP (PB : List Str → List Va → List Qu → Prop) (PD : List Va → List Qu → List Str → Prop) (cb : List Va → List Qu → Nat) (PR : (Str → Nat) → (Str → Prop) → List Va → List Qu → Prop) (g n n' : Nat) (s : Sc) (outs : List Va) (V : List Va) (Q : List Qu) : Prop where
 good : ∀ S, (∀ x ∈ outs.map Va.name, x ∈ S) → PB S V Q
 dfb : PD V Q (outs.map Va.name)
 cnt : cb V Q ≤ n' - n
 rk : ∀ (rk : Str → Nat) (lo : Nat), RdH n rk lo s → (∀ v ∈ outs, ¬ Gt n v.name) → Gap g rk lo outs → ∃ rk', Ag (InC n n') rk rk' ∧ ∀ rk'', Ag (Gt n') rk' rk'' → ∀ ON : Str → Prop, (∀ y, ON y → rk'' y ≤ lo) → PR rk'' ON V Q
theorem dfA_sub {df : DfT} {T : List Str} : ∀ (ar : List Am) (l : List Str), (∀ x ∈ l, x ∈ T) → (∀ a ∈ ar, ∀ x ∈ df a.vars a.eqs, x ∈ T) → ∀ x ∈ dfA df l ar, x ∈ T
 | [], l, h, _, x, hx => h x hx
 | a :: ar, l, h, ha, x, hx => dfA_sub ar (addL l (df a.vars a.eqs)) (fun y hy => by
     have := (Grow.addL (L := l) (T := T) (r := df a.vars a.eqs) (.nil l T) (ha a (List.mem_cons_self ..))).mem h
     exact this y hy) (fun b hb => ha b (List.mem_cons_of_mem _ hb)) x hx
theorem sum_z {α : Type} (f : α → Nat) : ∀ (l : List α), (∀ x ∈ l, f x = 0) → (l.map f).sum = 0
 | [], _ => rfl
 | a :: l, h => by
  rw [List.map_cons, List.sum_cons, h a (List.mem_cons_self ..), sum_z f l (fun x hx => h x (List.mem_cons_of_mem _ hx))]
theorem exq_e {q : Qu} (h4 : q.kind ≠ 4) (h2 : q.kind ≠ 2) (ha : q.args = []) : ∀ e ∈ exQ q, e = q.e := fun e he => by
 unfold exQ at he
 rw [if_neg h4, if_pos (.inl h2), ha, List.append_nil, List.mem_singleton] at he
 exact he
section
variable {RB : RBT} {PB : List Str → List Va → List Qu → Prop} {PD : List Va → List Qu → List Str → Prop} {df : DfT} {cb : List Va → List Qu → Nat} {PR : (Str → Nat) → (Str → Prop) → List Va → List Qu → Prop} {g : Nat} (hg : 1 ≤ g)
 (hdf : ∀ V Q T, PD V Q T → T.length ≤ 100 → ∀ x ∈ df V Q, x ∈ T)
 (hPm : ∀ V Q T T', PD V Q T → (∀ x ∈ T, x ∈ T') → PD V Q T')
 (hle : ∀ n n' s outs b, RB n n' s outs b → n ≤ n')
 (hB : ∀ n n' s outs b, RB n n' s outs b → n' ≤ 4000000 → outs.length ≤ 3 → BkP PB PD cb PR g n n' s outs b.vars b.eqs)
include hg hdf hPm hle hB
theorem dfQ_sub {q : Qu} {T : List Str} (hT : T.length ≤ 100) (h : DfQ PD q T) : ∀ x ∈ dfQ df q, x ∈ T :=
 dfA_sub q.arms q.lhs h.2.1 (fun a ha => hdf _ _ _ (h.2.2 a ha) hT)
def EqG (df : DfT) (PB : List Str → List Va → List Qu → Prop) (PD : List Va → List Qu → List Str → Prop) (outs vs : List Va) (q : Qu) : Prop :=
 (∃ Tq : List Str, Tq.length ≤ 100 ∧ (∀ x ∈ Tq, x ∈ outs.map Va.name ∨ x ∈ vs.map Va.name) ∧ DfQ PD q Tq) ∧ ∀ S : List Str, (∀ x, (x ∈ outs.map Va.name ∨ x ∈ vs.map Va.name) → x ∈ S) → CsQ df PB PD S q
theorem eqg_of {outs vs : List Va} {q : Qu} (Tq : List Str) (h1 : Tq.length ≤ 100) (h2 : ∀ x ∈ Tq, x ∈ outs.map Va.name ∨ x ∈ vs.map Va.name) (h3 : DfQ PD q Tq) (h4 : q.arms.length ≤ 3) (h5 : ∀ S : List Str, (∀ x ∈ outs.map Va.name, x ∈ S) → ∀ a ∈ q.arms, PB S a.vars a.eqs)
    (h6 : (q.kind = 1 ∧ (∃ x, q.lhs = [x]) ∧ q.args = [] ∧ q.arms = [] ∧ CsX q.e) ∨ (q.kind = 2 ∧ q.arms = [] ∧ q.args.length ≤ 3 ∧ (∀ e ∈ q.args, CsX e) ∧ (q.has = true → CsX q.e)) ∨ ((q.kind = 3 ∨ q.kind = 5) ∧ q.args = [] ∧ CsX q.e) ∨ (q.kind = 4 ∧ q.args = [] ∧ ∀ a ∈ q.arms, a.unl.length ≤ 3 ∧ ∀ t ∈ a.unl, CsX t.e)) : EqG df PB PD outs vs q :=
 ⟨⟨Tq, h1, h2, h3⟩, fun S hS => ⟨fun x hx => hS x (h2 x (dfQ_sub hg hdf hPm hle hB h1 h3 x hx)), ⟨Tq, h1, h3⟩, h4, h5 S (fun x hx => hS x (.inl hx)), h6⟩⟩
theorem eqg_def {outs vs : List Va} {v : Va} {e : Ex} (hv : v.name ∈ outs.map Va.name ∨ v.name ∈ vs.map Va.name) (he : e.shp = true ∧ e.size ≤ 1000) : EqG df PB PD outs vs (defQ v e) :=
 eqg_of hg hdf hPm hle hB [v.name] (by simp) (fun x hx => by rw [List.mem_singleton] at hx; subst hx; exact hv) ⟨by simp [defQ, Qu.lhs], by simp [defQ, Qu.lhs], fun a ha => by cases ha⟩ (Nat.zero_le _) (fun S _ a ha => by cases ha) (.inl ⟨rfl, ⟨_, rfl⟩, rfl, rfl, he⟩)
theorem EqG.more {outs vs ws : List Va} {q : Qu} (h : EqG df PB PD outs vs q) (hw : ∀ x ∈ vs.map Va.name, x ∈ ws.map Va.name) : EqG df PB PD outs ws q := by
 obtain ⟨⟨T, h1, h2, h3⟩, h4⟩ := h
 exact ⟨⟨T, h1, fun x hx => (h2 x hx).imp id (hw x), h3⟩, fun S hS => h4 S (fun x hx => hS x (hx.imp id (hw x)))⟩
theorem eqs_good {subs : Int} {n n' : Nat} {s : Sc} {outs : List Va} {l : List Qu} {vs : List Va} (h : GEqs RB subs n n' s outs l vs) : n' ≤ 4000000 → outs.length ≤ 3 → (∀ q ∈ l, EqG df PB PD outs vs q) ∧ vs.length + (l.map (cntQ cb)).sum ≤ n' - n ∧ ∀ v ∈ vs, v.clock.length ≤ 10 := by
 induction h with
 | defs h =>
  intro _ _
  refine ⟨fun q hq => ?_, ?_, fun v hv => by cases hv⟩
  ·obtain ⟨v, hv, e, he, rfl⟩ := defs_mem h q hq
   exact eqg_def hg hdf hPm hle hB (.inl (List.mem_map.2 ⟨v, hv, rfl⟩)) (csx_of (gex_csx (by decide) he))
  ·rw [sum_z _ _ (fun q hq => by obtain ⟨v, hv, e, he, rfl⟩ := defs_mem h q hq; rfl)]
   simp
 | @choice n n' s outs x h =>
  intro hn hol
  obtain ⟨t, ns, e, ar, hns, he, hnm, hc, rfl⟩ := h
  have hal : ar.length ≤ 3 := by
   have := congrArg List.length hnm
   rw [List.length_map] at this
   rcases hns with ⟨_, rfl⟩ | ⟨_, rfl⟩ <;> simp at this <;> omega
  obtain ⟨p1, p2⟩ := chn_all (Q := fun a => (∀ S : List Str, (∀ x ∈ outs.map Va.name, x ∈ S) → PB S a.vars a.eqs) ∧ PD a.vars a.eqs (outs.map Va.name)) (c := fun a => cb a.vars a.eqs) (hi := n') (fun j n n' a ⟨nm, l, b, _, _, hb, _⟩ => hle _ _ _ _ _ hb) (fun j n1 n2 a ⟨nm, l, b, hl1, hl2, hb, ha⟩ hhi => by
   subst ha
   have hlen := isLess_len hl1
   have hP := hB _ _ _ _ _ hb (by omega) (by omega)
   have hsub : ∀ x ∈ l.map Va.name, x ∈ outs.map Va.name := fun x hx => by
    obtain ⟨v, hv, rfl⟩ := List.mem_map.1 hx
    exact List.mem_map.2 ⟨v, isLess_sub hl1 v hv, rfl⟩
   exact ⟨⟨fun S hS => hP.good S (fun x hx => hS x (hsub x hx)), hPm _ _ _ _ hP.dfb hsub⟩, hP.cnt⟩) _ _ _ _ hc (Nat.le_refl _)
  refine ⟨fun q hq => ?_, by simpa [cntQ, Qu.arms] using p2, fun v hv => by cases hv⟩
  rw [List.mem_singleton] at hq
  subst hq
  exact eqg_of hg hdf hPm hle hB (outs.map Va.name) (by simp; omega) (fun x hx => .inl hx) ⟨by simp [Qu.lhs], by simp [Qu.lhs], fun a ha => (p1 a ha).2⟩ hal (fun S hS a ha => (p1 a ha).1 S hS) (.inr (.inr (.inl ⟨.inl rfl, rfl, csx_of (gex_csx (by decide) he)⟩)))
 | @auto n n' s outs x h =>
  intro hn hol
  obtain ⟨nn, ar, hnn, hal, hc, rfl⟩ := h
  obtain ⟨p1, p2⟩ := chn_all (Q := fun a => ((∀ S : List Str, (∀ x ∈ outs.map Va.name, x ∈ S) → PB S a.vars a.eqs) ∧ PD a.vars a.eqs (outs.map Va.name)) ∧ a.unl.length ≤ 3 ∧ ∀ t ∈ a.unl, CsX t.e) (c := fun a => cb a.vars a.eqs) (hi := n') (fun j n n' a ⟨l, u, b, w, _, _, _, hb, _, _⟩ => hle _ _ _ _ _ hb) (fun j n1 n2 a ⟨l, u, b, w, hl1, hl2, hu, hb, hw, ha⟩ hhi => by
   subst ha
   have hlen := isLess_len hl1
   have hP := hB _ _ _ _ _ hb (by omega) (by omega)
   have hsub : ∀ x ∈ l.map Va.name, x ∈ outs.map Va.name := fun x hx => by
    obtain ⟨v, hv, rfl⟩ := List.mem_map.1 hx
    exact List.mem_map.2 ⟨v, isLess_sub hl1 v hv, rfl⟩
   refine ⟨⟨⟨fun S hS => hP.good S (fun x hx => hS x (hsub x hx)), hPm _ _ _ _ hP.dfb hsub⟩, ?_, fun t ht => ?_⟩, hP.cnt⟩
   ·have := hu.1
    show u.length ≤ 3
    omega
   ·obtain ⟨e, k, b, h1, _, rfl⟩ := hu.2 t ht
    exact csx_of (gex_csx (by decide) h1)) _ _ _ _ hc (Nat.le_refl _)
  refine ⟨fun q hq => ?_, by simpa [cntQ, Qu.arms] using p2, fun v hv => by cases hv⟩
  rw [List.mem_singleton] at hq
  subst hq
  exact eqg_of hg hdf hPm hle hB (outs.map Va.name) (by simp; omega) (fun x hx => .inl hx) ⟨by simp [Qu.lhs], by simp [Qu.lhs], fun a ha => (p1 a ha).1.2⟩ (by show ar.length ≤ 3; omega) (fun S hS a ha => (p1 a ha).1.1 S hS) (.inr (.inr (.inr ⟨rfl, rfl, fun a ha => (p1 a ha).2⟩)))
 | @reset n n' s outs x h =>
  intro hn hol
  obtain ⟨e, b, he, hb, rfl⟩ := h
  have hP := hB _ _ _ _ _ hb hn hol
  refine ⟨fun q hq => ?_, ?_, fun v hv => by cases hv⟩
  ·rw [List.mem_singleton] at hq
   subst hq
   refine eqg_of hg hdf hPm hle hB (outs.map Va.name) (by simp; omega) (fun x hx => .inl hx) ⟨by simp [Qu.lhs], by simp [Qu.lhs], fun a ha => ?_⟩ (by simp [Qu.arms]) (fun S hS a ha => ?_) (.inr (.inr (.inl ⟨.inr rfl, rfl, csx_of (gex_csx (by decide) he)⟩)))
   ·simp only [Qu.arms, List.mem_singleton] at ha
    subst ha
    exact hP.dfb
   ·simp only [Qu.arms, List.mem_singleton] at ha
    subst ha
    exact hP.good S hS
  ·show 0 + (cb b.vars b.eqs + 0 + 0) ≤ n' - n
   have := hP.cnt
   omega
 | @call n n' s outs x y z l vs h h2 ih =>
  intro hn hol
  have hle2 := (eqs_inc hle h2).le
  obtain ⟨k, a, b, hb, e, _, rfl, rfl, ha, hbx, he, rfl⟩ := h
  obtain ⟨i1, i2, i3⟩ := ih hn hol
  refine ⟨fun q hq => ?_, ?_, fun v hv => ?_⟩
  ·rcases List.mem_cons.1 hq with rfl | hq
   ·refine eqg_of hg hdf hPm hle hB [nameS ⟨#[117]⟩ (n + 1), nameS ⟨#[117]⟩ (n + 2)] (by simp) (fun x hx => ?_) ⟨by simp [Qu.lhs], fun x hx => hx, fun a ha => by cases ha⟩ (Nat.zero_le _) (fun S _ a ha => by cases ha) (.inr (.inl ⟨rfl, rfl, by simp [Qu.args], fun e' he' => ?_, fun hh => ?_⟩))
    ·simp only [List.mem_cons, List.not_mem_nil, or_false] at hx
     rcases hx with rfl | rfl
     ·exact .inr (List.mem_map.2 ⟨_, List.mem_cons_self .., rfl⟩)
     ·exact .inr (List.mem_map.2 ⟨_, List.mem_cons_of_mem _ (List.mem_cons_self ..), rfl⟩)
    ·simp only [Qu.args, List.mem_cons, List.not_mem_nil, or_false] at he'
     rcases he' with rfl | rfl
     ·exact csx_of (gex_csx (by decide) ha)
     ·exact csx_of (gex_csx (by decide) hbx)
    ·rcases he with ⟨hz, _⟩ | ⟨_, he⟩
     ·simp only [Qu.has] at hh; rw [hz] at hh; cases hh
     ·exact csx_of (gex_csx (by decide) he)
   ·exact (i1 q hq).more hg hdf hPm hle hB (fun x hx => List.mem_cons_of_mem _ (List.mem_cons_of_mem _ hx))
  ·simp only [List.map_cons, List.sum_cons, List.length_cons]
   have : cntQ cb (Qu.mk 2 [(mkVa (nameS ⟨#[117]⟩ (n + 1)) tyI).name, (mkVa (nameS ⟨#[117]⟩ (n + 2)) tyC).name] (nameS ⟨#[102]⟩ k) [a, b] hb e [] 0 0) = 0 := rfl
   omega
  ·rcases List.mem_cons.1 hv with rfl | hv
   ·exact Nat.zero_le _
   rcases List.mem_cons.1 hv with rfl | hv
   ·exact Nat.zero_le _
   ·exact i3 v hv
 | @samp n n' s outs c w z q1 q2 q3 l vs h h2 ih =>
  intro hn hol
  have hle2 := (eqs_inc hle h2).le
  obtain ⟨e1, e2, e3, k1, kp, rfl, rfl, rfl, g1, g2, g3, hk1, hkp, rfl, rfl, rfl⟩ := h
  obtain ⟨i1, i2, i3⟩ := ih hn hol
  obtain ⟨x1, y1⟩ := gex_csx (by decide) g1
  obtain ⟨x2, y2⟩ := gex_csx (by decide) g2
  have x3 := csx_of (gex_csx (by decide) g3)
  obtain ⟨xk, yk⟩ := const_shp hk1
  have hkx : kp.shp = true ∧ kp.size ≤ 1000 := by
   rcases hkp with rfl | ⟨k2, hk2, rfl⟩
   ·exact ⟨by simp [whE, Ex.shp, Ex.shps, x1], by simp only [whE, Ex.size, Ex.sizes]; omega⟩
   ·obtain ⟨xk2, yk2⟩ := const_shp hk2
    exact ⟨by simp [whE, vaE, Ex.two, Ex.shp, Ex.shps, x1, xk2], by simp only [whE, vaE, Ex.two, Ex.size, Ex.sizes]; omega⟩
  refine ⟨fun q hq => ?_, ?_, fun v hv => ?_⟩
  ·rcases List.mem_cons.1 hq with rfl | hq
   ·exact eqg_def hg hdf hPm hle hB (.inr (List.mem_map.2 ⟨_, List.mem_cons_self .., rfl⟩)) x3
   rcases List.mem_cons.1 hq with rfl | hq
   ·exact eqg_def hg hdf hPm hle hB (.inr (List.mem_map.2 ⟨_, List.mem_cons_of_mem _ (List.mem_cons_self ..), rfl⟩)) hkx
   rcases List.mem_cons.1 hq with rfl | hq
   ·exact eqg_def hg hdf hPm hle hB (.inr (List.mem_map.2 ⟨_, List.mem_cons_of_mem _ (List.mem_cons_of_mem _ (List.mem_cons_self ..)), rfl⟩)) ⟨by simp [mgE, whE, vaE, Ex.shp, Ex.shps, x2, xk], by simp only [mgE, whE, vaE, Ex.size, Ex.sizes]; omega⟩
   ·exact (i1 q hq).more hg hdf hPm hle hB (fun x hx => List.mem_cons_of_mem _ (List.mem_cons_of_mem _ (List.mem_cons_of_mem _ hx)))
  ·simp only [List.map_cons, List.sum_cons, List.length_cons]
   have : ∀ v e, cntQ cb (defQ v e) = 0 := fun v e => rfl
   rw [this, this, this]
   omega
  ·rcases List.mem_cons.1 hv with rfl | hv
   ·exact Nat.zero_le _
   rcases List.mem_cons.1 hv with rfl | hv
   ·show 1 ≤ 10; omega
   rcases List.mem_cons.1 hv with rfl | hv
   ·exact Nat.zero_le _
   ·exact i3 v hv
theorem eqs_rk {subs : Int} {n n' : Nat} {s : Sc} {outs : List Va} {l : List Qu} {vs : List Va} (h : GEqs RB subs n n' s outs l vs) : n' ≤ 4000000 → outs.length ≤ 3 → ∀ (rk : Str → Nat) (lo : Nat), RdH n rk lo s → (∀ v ∈ outs, ¬ Gt n v.name) → Gap g rk (lo + (n' - n)) outs → ∃ rk', Ag (InC n n') rk rk' ∧ ∀ rk'', Ag (Gt n') rk' rk'' → ∀ ON : Str → Prop, (∀ y, ON y → rk'' y ≤ lo) → (∀ v ∈ vs, ∀ o ∈ v.clock, rk'' o.var < rk'' v.name) ∧ ∀ q ∈ l, DcQ df (PR rk'') rk'' ON q := by
 induction h with
 | @defs n s outs l h =>
  intro _ _ rk lo hr ho hgp
  refine ⟨rk, Ag.refl, fun rk'' hA ON hON => ⟨(fun v hv => by cases hv), fun q hq => ?_⟩⟩
  obtain ⟨v, hv, e, he, rfl⟩ := defs_mem h q hq
  have hgt := (hgp.mono (Nat.le_add_right _ _)).gt hg v hv
  refine dcq_of lo (fun x hx => ?_) hON (fun e' he' => ?_) (fun a ha => by cases ha)
  ·obtain rfl : x = v.name := List.mem_singleton.1 hx
   rw [hA _ (ho v hv)]; exact hgt
  ·rw [exq_e (by simp [Qu.kind, defQ]) (by simp [Qu.kind, defQ]) rfl e' he']
   exact gex_ri 3 he (fun w hw => by rw [hA _ (hr w hw).2]; exact (hr w hw).1)
 | @choice n n' s outs x h =>
  intro hn hol rk lo hr ho hgp
  obtain ⟨t, ns, e, ar, hns, he, hnm, hc, rfl⟩ := h
  have hle2 : n ≤ n' := chn_le (fun j n n' a ⟨nm, l, b, _, _, hb, _⟩ => hle _ _ _ _ _ hb) hc
  have hgp0 := hgp.mono (Nat.le_add_right _ _)
  obtain ⟨rk', h1, h2⟩ := chn_rk (PA := fun rk'' a => ∀ ON : Str → Prop, (∀ y, ON y → rk'' y ≤ lo) → PR rk'' ON a.vars a.eqs) (lo := n) (hi := n') (rk0 := rk) (fun j n n' a ⟨nm, l, b, _, _, hb, _⟩ => hle _ _ _ _ _ hb) (fun j n1 n2 a ⟨nm, l, b, hl1, hl2, hb, ha⟩ hlo hhi rk1 hA1 => by
   subst ha
   have hlen := isLess_len hl1
   have hP := hB _ _ _ _ _ hb (by omega) (by omega)
   exact hP.rk rk1 lo (fun w hw => ⟨by rw [hA1 _ (hr w hw).2]; exact (hr w hw).1, fun q => (hr w hw).2 (q.mono hlo)⟩) (fun w hw q => ho w (isLess_sub hl1 w hw) (q.mono hlo)) ((hgp0.cong (fun w hw => hA1 _ (ho w hw))).sub hl1)) _ _ _ _ hc (Nat.le_refl _) (Nat.le_refl _) rk Ag.refl
  refine ⟨rk', h1, fun rk'' hA ON hON => ⟨(fun v hv => by cases hv), fun q hq => ?_⟩⟩
  have hAA := h1.out hA hle2
  obtain ⟨i1, _⟩ := eqs_good hg hdf hPm hle hB (GEqs.choice (RB := RB) (subs := 0) ⟨t, ns, e, ar, hns, he, hnm, hc, rfl⟩) hn hol
  obtain ⟨⟨Tq, t1, t2, t3⟩, _⟩ := i1 q hq
  rw [List.mem_singleton] at hq
  subst hq
  refine dcq_of lo (fun x hx => ?_) hON (fun e' he' => ?_) (fun a ha ON' hON' => h2 rk'' hA a ha ON' hON')
  ·rcases t2 x (dfQ_sub hg hdf hPm hle hB t1 t3 x hx) with hx | hx
   ·obtain ⟨v, hv, rfl⟩ := List.mem_map.1 hx
    rw [hAA _ (ho v hv)]; exact hgp0.gt hg v hv
   ·cases hx
  ·rw [exq_e (by simp [Qu.kind]) (by simp [Qu.kind]) rfl e' he']
   exact gex_ri 2 he (fun w hw => by rw [hAA _ (hr w hw).2]; exact (hr w hw).1)
 | @auto n n' s outs x h =>
  intro hn hol rk lo hr ho hgp
  obtain ⟨nn, ar, hnn, hal, hc, rfl⟩ := h
  have hle2 : n ≤ n' := chn_le (fun j n n' a ⟨l, u, b, w, _, _, _, hb, _, _⟩ => hle _ _ _ _ _ hb) hc
  have hgp0 := hgp.mono (Nat.le_add_right _ _)
  obtain ⟨rk', h1, h2⟩ := chn_rk (PA := fun rk'' a => ∀ ON : Str → Prop, (∀ y, ON y → rk'' y ≤ lo) → PR rk'' ON a.vars a.eqs) (lo := n) (hi := n') (rk0 := rk) (fun j n n' a ⟨l, u, b, w, _, _, _, hb, _, _⟩ => hle _ _ _ _ _ hb) (fun j n1 n2 a ⟨l, u, b, w, hl1, hl2, hu, hb, hw, ha⟩ hlo hhi rk1 hA1 => by
   subst ha
   have hlen := isLess_len hl1
   have hP := hB _ _ _ _ _ hb (by omega) (by omega)
   exact hP.rk rk1 lo (fun w hw => ⟨by rw [hA1 _ (hr w hw).2]; exact (hr w hw).1, fun q => (hr w hw).2 (q.mono hlo)⟩) (fun w hw q => ho w (isLess_sub hl1 w hw) (q.mono hlo)) ((hgp0.cong (fun w hw => hA1 _ (ho w hw))).sub hl1)) _ _ _ _ hc (Nat.le_refl _) (Nat.le_refl _) rk Ag.refl
  have hun := (chn_all (Q := fun a => ∀ t ∈ a.unl, GEx 2 ⟨s.ready, [], s.lasts⟩ tyB false t.e) (c := fun _ => 0) (hi := n') (fun j n n' a ⟨l, u, b, w, _, _, _, hb, _, _⟩ => hle _ _ _ _ _ hb) (fun j n1 n2 a ⟨l, u, b, w, hl1, hl2, hu, hb, hw, ha⟩ hhi => by
   subst ha
   refine ⟨fun t ht => ?_, Nat.zero_le _⟩
   obtain ⟨e, k, b, h1, _, rfl⟩ := hu.2 t ht
   exact h1) _ _ _ _ hc (Nat.le_refl _)).1
  refine ⟨rk', h1, fun rk'' hA ON hON => ⟨(fun v hv => by cases hv), fun q hq => ?_⟩⟩
  have hAA := h1.out hA hle2
  obtain ⟨i1, _⟩ := eqs_good hg hdf hPm hle hB (GEqs.auto (RB := RB) (subs := 0) ⟨nn, ar, hnn, hal, hc, rfl⟩) hn hol
  obtain ⟨⟨Tq, t1, t2, t3⟩, _⟩ := i1 q hq
  rw [List.mem_singleton] at hq
  subst hq
  refine dcq_of lo (fun x hx => ?_) hON (fun e' he' => ?_) (fun a ha ON' hON' => h2 rk'' hA a ha ON' hON')
  ·rcases t2 x (dfQ_sub hg hdf hPm hle hB t1 t3 x hx) with hx | hx
   ·obtain ⟨v, hv, rfl⟩ := List.mem_map.1 hx
    rw [hAA _ (ho v hv)]; exact hgp0.gt hg v hv
   ·cases hx
  ·unfold exQ at he'
   have h44 : (Qu.mk 4 [] sE [] false zE ar 0 0).kind = 4 := rfl
   rw [if_pos h44] at he'
   rcases List.mem_append.1 he' with he' | he'
   ·obtain ⟨a, ha, he'⟩ := List.mem_flatMap.1 he'
    obtain ⟨t, ht, rfl⟩ := List.mem_map.1 he'
    exact gex_ri 2 (hun a ha t ht) (fun w hw => by rw [hAA _ (hr w hw).2]; exact (hr w hw).1)
   ·cases he'
 | @reset n n' s outs x h =>
  intro hn hol rk lo hr ho hgp
  obtain ⟨e, b, he, hb, rfl⟩ := h
  have hle2 := hle _ _ _ _ _ hb
  have hgp0 := hgp.mono (Nat.le_add_right _ _)
  have hP := hB _ _ _ _ _ hb hn hol
  obtain ⟨rk', h1, h2⟩ := hP.rk rk lo hr ho hgp0
  refine ⟨rk', h1, fun rk'' hA ON hON => ⟨(fun v hv => by cases hv), fun q hq => ?_⟩⟩
  have hAA := h1.out hA hle2
  obtain ⟨i1, _⟩ := eqs_good hg hdf hPm hle hB (GEqs.reset (RB := RB) (subs := 0) ⟨e, b, he, hb, rfl⟩) hn hol
  obtain ⟨⟨Tq, t1, t2, t3⟩, _⟩ := i1 q hq
  rw [List.mem_singleton] at hq
  subst hq
  refine dcq_of lo (fun x hx => ?_) hON (fun e' he' => ?_) (fun a ha ON' hON' => ?_)
  ·rcases t2 x (dfQ_sub hg hdf hPm hle hB t1 t3 x hx) with hx | hx
   ·obtain ⟨v, hv, rfl⟩ := List.mem_map.1 hx
    rw [hAA _ (ho v hv)]; exact hgp0.gt hg v hv
   ·cases hx
  ·rw [exq_e (by simp [Qu.kind]) (by simp [Qu.kind]) rfl e' he']
   exact gex_ri 2 he (fun w hw => by rw [hAA _ (hr w hw).2]; exact (hr w hw).1)
  ·simp only [Qu.arms, List.mem_singleton] at ha
   subst ha
   exact h2 rk'' hA ON' hON'
 | @call n n' s outs x y z l vs h h2 ih =>
  intro hn hol rk lo hr ho hgp
  have hle2 := (eqs_inc hle h2).le
  obtain ⟨k, a, b, hb, e, _, rfl, rfl, ha, hbx, he, rfl⟩ := h
  obtain ⟨X, hX⟩ : ∃ X, nameS ⟨#[117]⟩ (n + 1) = X := ⟨_, rfl⟩
  obtain ⟨Y, hY⟩ : ∃ Y, nameS ⟨#[117]⟩ (n + 2) = Y := ⟨_, rfl⟩
  have gX : Gt n X := by rw [← hX]; exact ⟨n + 1, by omega, isNm_of _ _⟩
  have gY : Gt n Y := by rw [← hY]; exact ⟨n + 2, by omega, isNm_of _ _⟩
  have iX : InC n n' X := by rw [← hX]; exact in_of (by omega) (by omega)
  have iY : InC n n' Y := by rw [← hY]; exact in_of (by omega) (by omega)
  have ne : ∀ t, ¬ Gt n t → t ≠ X ∧ t ≠ Y := fun t ht => ⟨fun q => ht (q ▸ gX), fun q => ht (q ▸ gY)⟩
  have nXY : X ≠ Y := fun q => by
   rw [← hX, ← hY] at q
   have := (nm_inj q).2
   omega
  have hk1 : ∀ t, t ≠ X → t ≠ Y → updR (updR rk X (lo + 1)) Y (lo + 1) t = rk t := fun t h1 h2 => by rw [updR_ne _ _ h2, updR_ne _ _ h1]
  have e1X : updR (updR rk X (lo + 1)) Y (lo + 1) X = lo + 1 := by rw [updR_ne _ _ nXY, updR_self]
  have e1Y : updR (updR rk X (lo + 1)) Y (lo + 1) Y = lo + 1 := updR_self ..
  generalize updR (updR rk X (lo + 1)) Y (lo + 1) = rk1 at *
  obtain ⟨rk', p1, p2⟩ := ih hn hol rk1 (lo + 1) (fun w hw => by
   rcases List.mem_append.1 (show w ∈ s.ready ++ _ from hw) with hw | hw
   ·obtain ⟨q1, q2⟩ := hr w hw
    obtain ⟨q3, q4⟩ := ne _ q2
    exact ⟨by rw [hk1 _ q3 q4]; omega, fun q => q2 (q.mono (by omega))⟩
   ·simp only [List.mem_cons, List.not_mem_nil, or_false] at hw
    rcases hw with rfl | rfl
    ·show rk1 (nameS ⟨#[117]⟩ (n + 1)) ≤ lo + 1 ∧ ¬ Gt (n + 2) (nameS ⟨#[117]⟩ (n + 1))
     exact ⟨by rw [hX, e1X]; exact Nat.le_refl _, not_gt (by omega)⟩
    ·show rk1 (nameS ⟨#[117]⟩ (n + 2)) ≤ lo + 1 ∧ ¬ Gt (n + 2) (nameS ⟨#[117]⟩ (n + 2))
     exact ⟨by rw [hY, e1Y]; exact Nat.le_refl _, not_gt (by omega)⟩) (fun w hw q => ho w hw (q.mono (by omega))) ((hgp.cong (fun w hw => hk1 _ (ne _ (ho w hw)).1 (ne _ (ho w hw)).2)).mono (by omega))
  refine ⟨rk', fun x hx => ?_, fun rk'' hA ON hON => ?_⟩
  ·rw [p1 x (fun q => hx (q.mono (by omega) (Nat.le_refl _))), hk1 x (fun q => hx (q ▸ iX)) (fun q => hx (q ▸ iY))]
  have hAA := p1.out hA hle2
  obtain ⟨c1, c2⟩ := p2 rk'' hA ON (fun y hy => Nat.le_succ_of_le (hON y hy))
  have eX : rk'' X = lo + 1 := by rw [hAA X (by rw [← hX]; exact not_gt (by omega)), e1X]
  have eY : rk'' Y = lo + 1 := by rw [hAA Y (by rw [← hY]; exact not_gt (by omega)), e1Y]
  have hrd : ∀ w ∈ s.ready, rk'' w.name ≤ lo := fun w hw => by
   obtain ⟨q1, q2⟩ := hr w hw
   rw [hAA _ (fun q => q2 (q.mono (by omega))), hk1 _ (ne _ q2).1 (ne _ q2).2]
   exact q1
  refine ⟨fun v hv o hov => ?_, fun q hq => ?_⟩
  ·rcases List.mem_cons.1 hv with rfl | hv
   ·cases hov
   rcases List.mem_cons.1 hv with rfl | hv
   ·cases hov
   ·exact c1 v hv o hov
  ·rcases List.mem_cons.1 hq with rfl | hq
   ·refine dcq_of lo (fun x hx => ?_) hON (fun e' he' => ?_) (fun a ha => by cases ha)
    ·have hx2 : x = nameS ⟨#[117]⟩ (n + 1) ∨ x = nameS ⟨#[117]⟩ (n + 2) := by
       have : x ∈ [nameS ⟨#[117]⟩ (n + 1), nameS ⟨#[117]⟩ (n + 2)] := hx
       simpa using this
     rcases hx2 with rfl | rfl
     ·rw [hX, eX]; omega
     ·rw [hY, eY]; omega
    ·have he2 : (hb = true ∧ e' = e) ∨ e' = a ∨ e' = b := by
       unfold exQ at he'
       rw [if_neg (by simp [Qu.kind])] at he'
       rcases List.mem_append.1 he' with he' | he'
       ·split at he'
        ·rename_i hc
         refine .inl ⟨?_, List.mem_singleton.1 he'⟩
         rcases hc with hc | hc
         ·exact absurd rfl hc
         ·exact hc
        ·cases he'
       ·refine .inr ?_
        simpa [Qu.args] using he'
     rcases he2 with ⟨hbt, rfl⟩ | rfl | rfl
     ·rcases he with ⟨hz, _⟩ | ⟨_, he⟩
      ·rw [hz] at hbt; cases hbt
      ·exact gex_ri 2 he hrd
     ·exact gex_ri 2 ha hrd
     ·exact gex_ri 2 hbx hrd
   ·exact c2 q hq
 | @samp n n' s outs c w z q1 q2 q3 l vs h h2 ih =>
  intro hn hol rk lo hr ho hgp
  have hle2 := (eqs_inc hle h2).le
  obtain ⟨e1, e2, e3, k1, kp, rfl, rfl, rfl, g1, g2, g3, hk1, hkp, rfl, rfl, rfl⟩ := h
  obtain ⟨X, hX⟩ : ∃ X, nameS ⟨#[99]⟩ (n + 1) = X := ⟨_, rfl⟩
  obtain ⟨Y, hY⟩ : ∃ Y, nameS ⟨#[119]⟩ (n + 2) = Y := ⟨_, rfl⟩
  obtain ⟨Z, hZ⟩ : ∃ Z, nameS ⟨#[122]⟩ (n + 3) = Z := ⟨_, rfl⟩
  have gX : Gt n X := by rw [← hX]; exact ⟨n + 1, by omega, isNm_of _ _⟩
  have gY : Gt n Y := by rw [← hY]; exact ⟨n + 2, by omega, isNm_of _ _⟩
  have gZ : Gt n Z := by rw [← hZ]; exact ⟨n + 3, by omega, isNm_of _ _⟩
  have iX : InC n n' X := by rw [← hX]; exact in_of (by omega) (by omega)
  have iY : InC n n' Y := by rw [← hY]; exact in_of (by omega) (by omega)
  have iZ : InC n n' Z := by rw [← hZ]; exact in_of (by omega) (by omega)
  have ne : ∀ t, ¬ Gt n t → t ≠ X ∧ t ≠ Y ∧ t ≠ Z := fun t ht => ⟨fun q => ht (q ▸ gX), fun q => ht (q ▸ gY), fun q => ht (q ▸ gZ)⟩
  have nXY : X ≠ Y := fun q => by
   rw [← hX, ← hY] at q
   have := (nm_inj q).2
   omega
  have nXZ : X ≠ Z := fun q => by
   rw [← hX, ← hZ] at q
   have := (nm_inj q).2
   omega
  have nYZ : Y ≠ Z := fun q => by
   rw [← hY, ← hZ] at q
   have := (nm_inj q).2
   omega
  have hku : ∀ t, t ≠ X → t ≠ Y → t ≠ Z → updR (updR (updR rk X (lo + 1)) Y (lo + 2)) Z (lo + 3) t = rk t := fun t h1 h2 h3 => by rw [updR_ne _ _ h3, updR_ne _ _ h2, updR_ne _ _ h1]
  have e1X : updR (updR (updR rk X (lo + 1)) Y (lo + 2)) Z (lo + 3) X = lo + 1 := by rw [updR_ne _ _ nXZ, updR_ne _ _ nXY, updR_self]
  have e1Y : updR (updR (updR rk X (lo + 1)) Y (lo + 2)) Z (lo + 3) Y = lo + 2 := by rw [updR_ne _ _ nYZ, updR_self]
  have e1Z : updR (updR (updR rk X (lo + 1)) Y (lo + 2)) Z (lo + 3) Z = lo + 3 := updR_self ..
  generalize updR (updR (updR rk X (lo + 1)) Y (lo + 2)) Z (lo + 3) = rk1 at *
  obtain ⟨rk', p1, p2⟩ := ih hn hol rk1 (lo + 3) (fun w hw => by
   rcases List.mem_append.1 (show w ∈ s.ready ++ _ from hw) with hw | hw
   ·obtain ⟨q1, q2⟩ := hr w hw
    obtain ⟨q3, q4, q5⟩ := ne _ q2
    exact ⟨by rw [hku _ q3 q4 q5]; omega, fun q => q2 (q.mono (by omega))⟩
   ·simp only [List.mem_cons, List.not_mem_nil, or_false] at hw
    rcases hw with rfl | rfl
    ·show rk1 (nameS ⟨#[99]⟩ (n + 1)) ≤ lo + 3 ∧ ¬ Gt (n + 3) (nameS ⟨#[99]⟩ (n + 1))
     exact ⟨by rw [hX, e1X]; omega, not_gt (by omega)⟩
    ·show rk1 (nameS ⟨#[122]⟩ (n + 3)) ≤ lo + 3 ∧ ¬ Gt (n + 3) (nameS ⟨#[122]⟩ (n + 3))
     exact ⟨by rw [hZ, e1Z]; exact Nat.le_refl _, not_gt (by omega)⟩) (fun w hw q => ho w hw (q.mono (by omega))) ((hgp.cong (fun w hw => hku _ (ne _ (ho w hw)).1 (ne _ (ho w hw)).2.1 (ne _ (ho w hw)).2.2)).mono (by omega))
  refine ⟨rk', fun x hx => ?_, fun rk'' hA ON hON => ?_⟩
  ·rw [p1 x (fun q => hx (q.mono (by omega) (Nat.le_refl _))), hku x (fun q => hx (q ▸ iX)) (fun q => hx (q ▸ iY)) (fun q => hx (q ▸ iZ))]
  have hAA := p1.out hA hle2
  obtain ⟨c1, c2⟩ := p2 rk'' hA ON (fun y hy => by have := hON y hy; omega)
  have eX : rk'' (nameS ⟨#[99]⟩ (n + 1)) = lo + 1 := by rw [hAA _ (not_gt (by omega)), hX, e1X]
  have eY : rk'' (nameS ⟨#[119]⟩ (n + 2)) = lo + 2 := by rw [hAA _ (not_gt (by omega)), hY, e1Y]
  have eZ : rk'' (nameS ⟨#[122]⟩ (n + 3)) = lo + 3 := by rw [hAA _ (not_gt (by omega)), hZ, e1Z]
  have hrd : ∀ w ∈ s.ready, rk'' w.name ≤ lo := fun w hw => by
   obtain ⟨q1, q2⟩ := hr w hw
   rw [hAA _ (fun q => q2 (q.mono (by omega))), hku _ (ne _ q2).1 (ne _ q2).2.1 (ne _ q2).2.2]
   exact q1
  refine ⟨fun v hv o hov => ?_, fun q hq => ?_⟩
  ·rcases List.mem_cons.1 hv with rfl | hv
   ·cases hov
   rcases List.mem_cons.1 hv with rfl | hv
   ·obtain rfl : o = ⟨sRed, nameS ⟨#[99]⟩ (n + 1)⟩ := List.mem_singleton.1 hov
    show rk'' (nameS ⟨#[99]⟩ (n + 1)) < rk'' (nameS ⟨#[119]⟩ (n + 2))
    omega
   rcases List.mem_cons.1 hv with rfl | hv
   ·cases hov
   ·exact c1 v hv o hov
  ·rcases List.mem_cons.1 hq with rfl | hq
   ·refine dcq_of lo (fun x hx => ?_) hON (fun e' he' => ?_) (fun a ha => by cases ha)
    ·obtain rfl : x = nameS ⟨#[99]⟩ (n + 1) := List.mem_singleton.1 hx
     omega
    ·rw [exq_e (by simp [Qu.kind, defQ]) (by simp [Qu.kind, defQ]) rfl e' he']
     exact gex_ri 3 g3 hrd
   rcases List.mem_cons.1 hq with rfl | hq
   ·refine dcq_of (lo + 1) (fun x hx => ?_) (fun y hy => Nat.le_succ_of_le (hON y hy)) (fun e' he' => ?_) (fun a ha => by cases ha)
    ·obtain rfl : x = nameS ⟨#[119]⟩ (n + 2) := List.mem_singleton.1 hx
     omega
    ·rw [exq_e (by simp [Qu.kind, defQ]) (by simp [Qu.kind, defQ]) rfl e' he']
     show RI _ kp
     rcases hkp with rfl | ⟨k2, hk2, rfl⟩
     ·exact RI.wh (by show rk'' (nameS ⟨#[99]⟩ (n + 1)) ≤ lo + 1; omega) (gex_ri 2 g1 (fun w hw => Nat.le_succ_of_le (hrd w hw)))
     ·exact RI.fby (RI.const hk2)
   rcases List.mem_cons.1 hq with rfl | hq
   ·refine dcq_of (lo + 2) (fun x hx => ?_) (fun y hy => by have := hON y hy; omega) (fun e' he' => ?_) (fun a ha => by cases ha)
    ·obtain rfl : x = nameS ⟨#[122]⟩ (n + 3) := List.mem_singleton.1 hx
     omega
    ·rw [exq_e (by simp [Qu.kind, defQ]) (by simp [Qu.kind, defQ]) rfl e' he']
     exact RI.mg (by show rk'' (nameS ⟨#[99]⟩ (n + 1)) ≤ lo + 2; omega) (by show rk'' (nameS ⟨#[119]⟩ (n + 2)) ≤ lo + 2; omega) (gex_ri 2 g2 (fun w hw => by have := hrd w hw; omega)) (RI.const hk1)
   ·exact c2 q hq
theorem todo_good {subs : Int} {n n' : Nat} {s : Sc} {outs : List Va} {l : List Qu} {vs : List Va} (h : GTodo (GEqs RB subs) n n' s outs l vs) : n' ≤ 4000000 → (∀ q ∈ l, EqG df PB PD outs vs q) ∧ vs.length + (l.map (cntQ cb)).sum ≤ n' - n ∧ ∀ v ∈ vs, v.clock.length ≤ 10 := by
 induction h with
 | nil => exact fun _ => ⟨(fun q hq => by cases hq), Nat.zero_le _, fun v hv => by cases hv⟩
 | @step n n1 n' s a r l vs l' vs' ha1 ha3 h1 h2 ih =>
  intro hn
  have k1 := (eqs_inc hle h1).le
  have k2 := (todo_inc hle h2).le
  obtain ⟨p1, p2, p3⟩ := eqs_good hg hdf hPm hle hB h1 (by omega) ha3
  obtain ⟨i1, i2, i3⟩ := ih hn
  refine ⟨fun q hq => ?_, ?_, fun v hv => ?_⟩
  ·rcases List.mem_append.1 hq with hq | hq
   ·obtain ⟨⟨T, t1, t2, t3⟩, t4⟩ := p1 q hq
    have hs : ∀ x, (x ∈ a.map Va.name ∨ x ∈ vs.map Va.name) → x ∈ (a ++ r).map Va.name ∨ x ∈ (vs ++ vs').map Va.name := fun x hx => by
     rw [List.map_append, List.map_append]
     exact hx.imp (List.mem_append_left _) (List.mem_append_left _)
    exact ⟨⟨T, t1, fun x hx => hs x (t2 x hx), t3⟩, fun S hS => t4 S (fun x hx => hS x (hs x hx))⟩
   ·obtain ⟨⟨T, t1, t2, t3⟩, t4⟩ := i1 q hq
    have hs : ∀ x, (x ∈ r.map Va.name ∨ x ∈ vs'.map Va.name) → x ∈ (a ++ r).map Va.name ∨ x ∈ (vs ++ vs').map Va.name := fun x hx => by
     rw [List.map_append, List.map_append]
     exact hx.imp (List.mem_append_right _) (List.mem_append_right _)
    exact ⟨⟨T, t1, fun x hx => hs x (t2 x hx), t3⟩, fun S hS => t4 S (fun x hx => hS x (hs x hx))⟩
  ·rw [List.length_append, List.map_append, List.sum_append]; omega
  ·rcases List.mem_append.1 hv with hv | hv
   ·exact p3 v hv
   ·exact i3 v hv
theorem todo_rk {subs : Int} {n n' : Nat} {s : Sc} {outs : List Va} {l : List Qu} {vs : List Va} (h : GTodo (GEqs RB subs) n n' s outs l vs) : n' ≤ 4000000 → ∀ (rk : Str → Nat) (lo : Nat), RdH n rk lo s → (∀ v ∈ outs, ¬ Gt n v.name) → Gap (4000000 + g) rk lo outs → ∃ rk', Ag (InC n n') rk rk' ∧ ∀ rk'', Ag (Gt n') rk' rk'' → ∀ ON : Str → Prop, (∀ y, ON y → rk'' y ≤ lo) → (∀ v ∈ vs, ∀ o ∈ v.clock, rk'' o.var < rk'' v.name) ∧ ∀ q ∈ l, DcQ df (PR rk'') rk'' ON q := by
 induction h with
 | nil => exact fun _ rk lo _ _ _ => ⟨rk, Ag.refl, fun rk'' _ ON _ => ⟨(fun v hv => by cases hv), fun q hq => by cases hq⟩⟩
 | @step n n1 n' s a r l vs l' vs' ha1 ha3 h1 h2 ih =>
  intro hn rk lo hr ho hgp
  have k1 := (eqs_inc hle h1).le
  have k2 := (todo_inc hle h2).le
  obtain ⟨ga, gr⟩ := hgp.app
  obtain ⟨l1, l2⟩ := lastR_ge ga
  obtain ⟨rk1, p1, p2⟩ := eqs_rk hg hdf hPm hle hB h1 (by omega) ha3 rk lo hr (fun v hv => ho v (List.mem_append_left _ hv)) (ga.weak (by omega))
  obtain ⟨rk2, q1, q2⟩ := ih hn rk1 (lastR rk lo a) (fun w hw => by
   rcases List.mem_append.1 (show w ∈ s.ready ++ _ from hw) with hw | hw
   ·obtain ⟨c1, c2⟩ := hr w hw
    exact ⟨by rw [p1 _ (fun q => c2 q.gt)]; omega, fun q => c2 (q.mono k1)⟩
   ·have c2 := ho w (List.mem_append_left _ hw)
    exact ⟨by rw [p1 _ (fun q => c2 q.gt)]; exact l2 w hw, fun q => c2 (q.mono k1)⟩) (fun w hw q => ho w (List.mem_append_right _ hw) (q.mono k1)) (gr.cong (fun w hw => p1 _ (fun q => ho w (List.mem_append_right _ hw) q.gt)))
  refine ⟨rk2, p1.tail q1 k1 k2, fun rk'' hA ON hON => ?_⟩
  obtain ⟨c1, c2⟩ := p2 rk'' (q1.out hA k2) ON hON
  obtain ⟨d1, d2⟩ := q2 rk'' hA ON (fun y hy => Nat.le_trans (hON y hy) l1)
  refine ⟨fun v hv => ?_, fun q hq => ?_⟩
  ·rcases List.mem_append.1 hv with hv | hv
   ·exact c1 v hv
   ·exact d1 v hv
  ·rcases List.mem_append.1 hq with hq | hq
   ·exact c2 q hq
   ·exact d2 q hq
end
def ownR (rk : Str → Nat) (G : Nat) : Nat → List Va → Str → Nat
 | _, [] => rk
 | lo, v :: r => updR (ownR rk G (lo + G) r) v.name (lo + G)
theorem own_gap {rk : Str → Nat} {G : Nat} {outs : List Va} : ∀ {own : List Va} {n lo : Nat}, GOwn n own → (∀ v ∈ outs, ¬ Gt n v.name) → Gap G rk (lo + own.length * G) outs → Gap G (ownR rk G lo own) lo (own ++ outs) ∧ Ag (InC n (n + own.length)) rk (ownR rk G lo own)
 | [], n, lo, _, _, h => ⟨by show Gap G rk lo outs; simpa using h, Ag.refl⟩
 | v :: r, n, lo, ⟨h1, h2⟩, ho, h => by
  obtain ⟨i1, i2⟩ := own_gap (own := r) (n := n + 1) (lo := lo + G) h2 (fun w hw q => ho w hw (q.mono (by omega))) (by rw [List.length_cons, Nat.succ_mul] at h; rwa [show lo + G + r.length * G = lo + (r.length * G + G) by omega])
  obtain ⟨t, la, e, _, _, rfl⟩ := h1
  have hne : ∀ w ∈ r ++ outs, w.name ≠ nameS ⟨#[118]⟩ (n + 1) := fun w hw q => by
   rcases List.mem_append.1 hw with hw | hw
   ·obtain ⟨k, k1, _, k3⟩ := (Inc.own h2).nm w hw
    rw [q] at k3
    have := isNm_inj k3 (isNm_of _ _)
    omega
   ·exact ho w hw (by rw [q]; exact ⟨n + 1, by omega, isNm_of _ _⟩)
  refine ⟨⟨?_, ?_⟩, fun x hx => ?_⟩
  ·show lo + G ≤ updR _ (nameS ⟨#[118]⟩ (n + 1)) (lo + G) (nameS ⟨#[118]⟩ (n + 1))
   rw [updR_self]; exact Nat.le_refl _
  ·show Gap G (updR _ (nameS ⟨#[118]⟩ (n + 1)) (lo + G)) (updR _ (nameS ⟨#[118]⟩ (n + 1)) (lo + G) (nameS ⟨#[118]⟩ (n + 1))) (r ++ outs)
   rw [updR_self]
   exact i1.cong (fun w hw => updR_ne _ _ (hne w hw))
  ·show updR _ (nameS ⟨#[118]⟩ (n + 1)) (lo + G) x = rk x
   rw [updR_ne _ _ (fun q => hx (by rw [q]; exact in_of (by omega) (by simp)))]
   exact i2 x (fun q => hx (q.mono (by omega) (by simp; omega)))
section
variable {RB : RBT} {PB : List Str → List Va → List Qu → Prop} {PD : List Va → List Qu → List Str → Prop} {df : DfT} {cb : List Va → List Qu → Nat} {PR : (Str → Nat) → (Str → Prop) → List Va → List Qu → Prop} {g : Nat} (hg : 1 ≤ g)
 (hdf : ∀ V Q T, PD V Q T → T.length ≤ 100 → ∀ x ∈ df V Q, x ∈ T)
 (hPm : ∀ V Q T T', PD V Q T → (∀ x ∈ T, x ∈ T') → PD V Q T')
 (hle : ∀ n n' s outs b, RB n n' s outs b → n ≤ n')
 (hB : ∀ n n' s outs b, RB n n' s outs b → n' ≤ 4000000 → outs.length ≤ 3 → BkP PB PD cb PR g n n' s outs b.vars b.eqs)
include hg hdf hPm hle hB
theorem blk_p {subs : Int} {n n' : Nat} {s : Sc} {outs : List Va} {b : Bk} (h : GBlk (GEqs RB subs) n n' s outs b) (hn : n' ≤ 4000000) (hol : outs.length ≤ 3) :
    BkP (CsBs df PB PD) (fun V Q T => ∀ q ∈ Q, ∃ Tq : List Str, Tq.length ≤ 100 ∧ (∀ x ∈ Tq, x ∈ T ∨ x ∈ V.map Va.name) ∧ DfQ PD q Tq) (cntBl cb) (fun rk => DcBs df (PR rk) rk) (4 * (4000000 + g)) n n' s outs b.vars b.eqs := by
 obtain ⟨own, l, vs, hownl, hown, ht, rfl⟩ := h
 have hownc := own_ck hown
 have k2 := (todo_inc hle ht).le
 obtain ⟨p1, p2, p3⟩ := todo_good hg hdf hPm hle hB ht hn
 have hs : ∀ x, (x ∈ (own ++ outs).map Va.name ∨ x ∈ vs.map Va.name) → x ∈ outs.map Va.name ∨ x ∈ (own ++ vs).map Va.name := fun x hx => by
  rw [List.map_append] at hx ⊢
  rcases hx with hx | hx
  ·rcases List.mem_append.1 hx with hx | hx
   ·exact .inr (List.mem_append_left _ hx)
   ·exact .inl hx
  ·exact .inr (List.mem_append_right _ hx)
 refine ⟨fun S hS => ⟨fun v hv => ?_, fun q hq => ?_⟩, fun q hq => ?_, ?_, fun rk lo hr ho hgp => ?_⟩
 ·rcases List.mem_append.1 hv with hv | hv
  ·rw [hownc v hv]; exact Nat.zero_le _
  ·exact p3 v hv
 ·refine (p1 q hq).2 _ (fun x hx => ?_)
  rcases hs x hx with hx | hx
  ·exact List.mem_append_left _ (hS x hx)
  ·exact List.mem_append_right _ hx
 ·obtain ⟨⟨T, t1, t2, t3⟩, _⟩ := p1 q hq
  exact ⟨T, t1, fun x hx => hs x (t2 x hx), t3⟩
 ·show (own ++ vs).length + (l.map (cntQ cb)).sum ≤ n' - n
  rw [List.length_append]
  omega
 ·have hG : own.length * (4000000 + g) ≤ 3 * (4000000 + g) := Nat.mul_le_mul_right _ hownl
  obtain ⟨o1, o2⟩ := own_gap (rk := rk) (G := 4000000 + g) (outs := outs) (lo := lo) hown ho (Gap.weak (K := 3 * (4000000 + g)) hG (by rwa [show 3 * (4000000 + g) + (4000000 + g) = 4 * (4000000 + g) by omega]))
  obtain ⟨rk', q1, q2⟩ := todo_rk hg hdf hPm hle hB ht hn (ownR rk (4000000 + g) lo own) lo (fun w hw => by
   obtain ⟨c1, c2⟩ := hr w hw
   exact ⟨by rw [o2 _ (fun q => c2 q.gt)]; exact c1, fun q => c2 (q.mono (by omega))⟩) (fun w hw q => by
   rcases List.mem_append.1 hw with hw | hw
   ·obtain ⟨k, k1, k2, k3⟩ := (Inc.own hown).nm w hw
    obtain ⟨j, j1, j2⟩ := q
    have := isNm_inj k3 j2
    omega
   ·exact ho w hw (q.mono (by omega))) o1
  refine ⟨rk', o2.tail q1 (by omega) k2, fun rk'' hA ON hON => ?_⟩
  obtain ⟨c1, c2⟩ := q2 rk'' hA ON hON
  refine ⟨fun v hv o hov => ?_, c2⟩
  rcases List.mem_append.1 hv with hv | hv
  ·rw [hownc v hv] at hov; cases hov
  ·exact c1 v hv o hov
end
def gpB : Nat → Nat
 | 0 => 4 * (4000000 + 1)
 | d + 1 => 4 * (4000000 + gpB d)
theorem gpB_pos : ∀ d, 1 ≤ gpB d
 | 0 => by unfold gpB; omega
 | d + 1 => by unfold gpB; omega
theorem DfB_mono : ∀ (d : Nat) {V : List Va} {Q : List Qu} {T T' : List Str}, DfB d V Q T → (∀ x ∈ T, x ∈ T') → DfB d V Q T'
 | 0, V, Q, T, T', h, hs => fun q hq => by
  obtain ⟨Tq, h1, h2, h3⟩ := h q hq
  exact ⟨Tq, h1, fun x hx => (h2 x hx).imp (hs x) id, h3⟩
 | d + 1, V, Q, T, T', h, hs => fun q hq => by
  obtain ⟨Tq, h1, h2, h3⟩ := h q hq
  exact ⟨Tq, h1, fun x hx => (h2 x hx).imp (hs x) id, h3⟩
theorem dfF_sub : ∀ (d : Nat) (V : List Va) (Q : List Qu) (T : List Str), DfB d V Q T → T.length ≤ 100 → ∀ x ∈ dfF d V Q, x ∈ T := fun d V Q T h hT x hx => (bdefines_any d V Q T h hT).1.1 x hx
theorem bk_p : ∀ (d : Nat) (subs : Int) (n n' : Nat) (s : Sc) (outs : List Va) (b : Bk), GBk d subs n n' s outs b → n' ≤ 4000000 → outs.length ≤ 3 → BkP (CsB d) (DfB d) (cntF d) (fun rk => DcB rk d) (gpB d) n n' s outs b.vars b.eqs
 | 0, subs, n, n', s, outs, b, h, hn, hol => blk_p (RB := fun _ _ _ _ _ => False) (PB := fun _ _ _ => False) (PD := fun _ _ _ => False) (df := fun _ _ => []) (cb := fun _ _ => 0) (PR := fun _ _ _ _ => True) (g := 1) (Nat.le_refl _) (fun _ _ _ h => h.elim) (fun _ _ _ _ h => h.elim) (fun _ _ _ _ _ h => h.elim) (fun _ _ _ _ _ h => h.elim) h hn hol
 | d + 1, subs, n, n', s, outs, b, h, hn, hol => blk_p (RB := GBk d subs) (PB := CsB d) (PD := DfB d) (df := dfF d) (cb := cntF d) (PR := fun rk => DcB rk d) (g := gpB d) (gpB_pos d) (dfF_sub d) (fun _ _ _ _ h hs => DfB_mono d h hs) (fun n n' s outs b h => bk_le d subs n n' s outs b h) (fun n n' s outs b h hn hol => bk_p d subs n n' s outs b h hn hol) h hn hol
theorem made_ok {ns : List No} (h : GNodes ns) : ∀ n ∈ ns, CsN 3 n ∧ ∀ i, ¬ Bad (gOf 3 n) i := fun n hn => by
 obtain ⟨k, hk, rfl⟩ := List.getElem_of_mem hn
 obtain ⟨l, e, b, n', _, hn', hb, he⟩ := h k hk
 rw [he]
 have hP := bk_p 3 _ _ _ _ _ b hb (by omega) (by simp [nOuts])
 refine ⟨⟨hP.good _ (fun x hx => by rw [List.map_append]; exact List.mem_append_right _ hx), ?_, by omega, by simp [nIns, nOuts]⟩, ?_⟩
 ·have := hP.cnt
  simp only [nIns, nOuts, List.length_append, List.length_cons, List.length_nil]
  omega
 ·obtain ⟨rk', h1, h2⟩ := hP.rk (fun s => if eqS s sX then gpB 3 else if eqS s sY then 2 * gpB 3 else 0) 0 (fun v hv => by
    simp only [nIns, mkVa, List.mem_cons, List.not_mem_nil, or_false] at hv
    rcases hv with rfl | rfl
    ·exact ⟨by show (if eqS sNa sX then gpB 3 else if eqS sNa sY then 2 * gpB 3 else 0) ≤ 0; rw [if_neg (by decide +kernel), if_neg (by decide +kernel)]; exact Nat.le_refl _, fun ⟨k, _, q⟩ => not_nm q⟩
    ·exact ⟨by show (if eqS sBb sX then gpB 3 else if eqS sBb sY then 2 * gpB 3 else 0) ≤ 0; rw [if_neg (by decide +kernel), if_neg (by decide +kernel)]; exact Nat.le_refl _, fun ⟨k, _, q⟩ => not_nm q⟩) (fun v hv => by
    simp only [nOuts, mkVa, List.mem_cons, List.not_mem_nil, or_false] at hv
    rcases hv with rfl | rfl
    ·exact fun ⟨k, _, q⟩ => not_nm q
    ·exact fun ⟨k, _, q⟩ => not_nm q) (by
    have e1 : (if eqS sX sX then gpB 3 else if eqS sX sY then 2 * gpB 3 else 0) = gpB 3 := if_pos (by decide +kernel)
    have e2 : (if eqS sY sX then gpB 3 else if eqS sY sY then 2 * gpB 3 else 0) = 2 * gpB 3 := by rw [if_neg (by decide +kernel), if_pos (by decide +kernel)]
    refine ⟨?_, ?_, trivial⟩
    ·show 0 + gpB 3 ≤ (if eqS sX sX then gpB 3 else if eqS sX sY then 2 * gpB 3 else 0)
     rw [e1]; omega
    ·show (if eqS sX sX then gpB 3 else if eqS sX sY then 2 * gpB 3 else 0) + gpB 3 ≤ (if eqS sY sX then gpB 3 else if eqS sY sY then 2 * gpB 3 else 0)
     rw [e1, e2]; omega)
  exact fun i => node_dec (h2 rk' Ag.refl (fun _ => False) (fun y hy => hy.elim)) i
end Go.Proofs.Ytaealemhegdmpaa
