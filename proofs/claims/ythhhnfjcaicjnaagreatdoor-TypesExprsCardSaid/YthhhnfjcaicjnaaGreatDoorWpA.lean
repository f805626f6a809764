/-
 Texts that belong together: AbWp, AbFn.
-/
-- halved
import Derived.Test.YthhhnfjcaicjnaaGreatDoorEnA
import Derived.Test.YthhhnfjcaicjnaaGreatDoorEnB
set_option linter.unusedVariables false
set_option linter.unusedSimpArgs false
namespace Go.Proofs.YthhhnfjcaicjnaaGreatDoor
open Go Go.RowKit

def aThen (X : F → M → Prop) (K : Exit → F → M → Prop) : Exit → F → M → Prop
 | .normal, f, m => X f m
 | e, f, m => K e f m
def aBlock (id : Nat) (K : Exit → F → M → Prop) : Exit → F → M → Prop
 | .exit i, f, m => if i = id then K .normal f m else K (.exit i) f m
 | e, f, m => K e f m
def aCond (c : PV) (x y : Prop) : Prop := match c with
 | .v (.bool b) => (b = true → x) ∧ (b = false → y)
 | _ => False
def aDraw (P : Program) (mu : List Nat) (Z : PV → M → Prop) (ops : Array Oper) (K : F → M → Prop) (f : F) (m : M) : Prop :=
 (lexOk mu ops = true ∧ ∃ S : M → Prop, S m ∧ aLex P mu ops S K (List.range ops.size) f m) ∨
 (∃ a c, fltOkC mu ops a c = true ∧ ∃ S : M → Prop, S m ∧ aFl P mu ops S K a (List.range' c (ops.size - c)) (List.range' 0 a ++ List.range' (a + 1) (c - 1 - a)) f m) ∨
 (endOk ops = true ∧ lexOk mu ops = true ∧ ∃ S : M → Prop, S m ∧ aLex P mu ops S (aLast P mu ops K) (List.range (ops.size - 1)) f m) ∨
 (lexOk mu ops = true ∧ ∃ S : M → Prop, S m ∧ aLexZ P mu Z ops S K (List.range ops.size) f m) ∨
 (∃ c, lexOkC mu ops c = true ∧ ∃ S : M → Prop, S m ∧ aLex P mu ops S (aAll P mu ops K (ops.size - c) (List.range' c (ops.size - c))) (List.range c) f m) ∨
 (endOk ops = true ∧ lexOk mu ops = true ∧ ∃ S : M → Prop, S m ∧ aLexZ P mu Z ops S (aLast P mu ops K) (List.range (ops.size - 1)) f m) ∨
 (∃ c k0, lexOkC mu ops c = true ∧ okP mu ops c k0 = true ∧ ∃ S : M → Prop, S m ∧ aLex P mu ops S (aCallP P mu Z ops S k0 (aAll P mu ops K (ops.size - c) (List.range' c (ops.size - c)))) (List.range' 0 k0 ++ List.range' (k0 + 1) (c - 1 - k0)) f m)
def aCode (P : Program) (mu : List Nat) (Z : PV → M → Prop) : Code → (Exit → F → M → Prop) → F → M → Prop
 | .skip, K, f, m => K .normal f m
 | .label _, K, f, m => K .normal f m
 | .region _ ops false, K, f, m => ∃ f' m', GStep f m f' m' ∧ aOps P mu Z ops ops.toList (K .normal) f' m'
 | .region _ ops true, K, f, m => ∃ f' m', GStep f m f' m' ∧ aDraw P mu Z ops (K .normal) f' m'
 | .seq a b, K, f, m => aCode P mu Z a (aThen (aCode P mu Z b K) K) f m
 | .cond c x y, K, f, m => aCond (ev f c) (aCode P mu Z x K f m) (aCode P mu Z y K f m)
 | .block id c, K, f, m => aCode P mu Z c (aBlock id K) f m
 | .loop c, K, f, m => ∃ (I : F → M → Prop) (μ : F → M → Nat), I f m ∧ ((∀ f m, I f m → aCode P mu Z c (aThen (fun f' m' => I f' m' ∧ μ f' m' < μ f m) K) f m) ∨ (∀ f1 m1, I f1 m1 → aCode P mu Z c (aThen (fun f' m' => ∃ f2 m2, Trim m f' m' f2 m2 ∧ I f2 m2 ∧ μ f2 m2 < μ f1 m1) K) f1 m1))
 | .exit id, K, f, m => K (.exit id) f m
 | .ret, K, f, m => K .ret f m
 | _, _, _, _ => False

def Go.Code.bd (n : Fi) : Code → Bool
 | .region _ ops _ => ops.all (dstB n)
 | .seq a b => bd n a && bd n b
 | .cond _ a b => bd n a && bd n b
 | .block _ c => bd n c
 | .loop c => bd n c
 | _ => true

section
variable {P : Program} {mu : List Nat} {Z : PV → M → Prop} {n : Fi} {ds : List Deferred}

theorem aDraw_sound (hmix : P.follows .mixedOrders = true) {id : Nat} {ops : Array Oper} {Q : Exit → Act → World → Prop} {K : F → M → Prop} {f : F} {m : M} {G : Ghost} {a : Act} {w : World} (h : aDraw P mu Z ops K f m) (hb : ops.all (dstB n) = true) (hS : St n ds G f m a w)
    (hZ : ZQ Z n ds G w Q) (hK : ∀ f' m' G' a' w', K f' m' → St n ds G' f' m' a' w' → Ext G w G' w' → Q .normal a' w') : (Code.region id ops true).wp P Q a w := by
 have hE : Ext G w G { w with drawn := w.drawn + 1 } := ⟨rfl, Nat.le_refl _, fun _ _ => rfl, fun _ _ => rfl, Nat.le_refl _, fun _ _ => rfl, fun _ _ h => h, fun _ _ _ => rfl, (Below.refl _ _).drew⟩
 have hS' : St n ds G f m a { w with drawn := w.drawn + 1 } := by
  refine ⟨hS.fr.mono hE, ?_, hS.defers, hS.size, hS.kept⟩
  have hI := hS.inv
  exact ⟨hI.nb, hI.nt, hI.base, fun id c hc => by
   obtain ⟨o, h1, h2, h5⟩ := hI.box id c hc
   exact ⟨o, h1, h2.mono hE, h5⟩, hI.boxset, hI.inj, hI.tok, hI.tokd, hI.set, hI.layE hE⟩
 rcases h with ⟨hok, S, hm, hl⟩ | ⟨b, c, hok, S, hm, hl⟩ | ⟨hend, hok, S, hm, hl⟩ | ⟨hok, S, hm, hl⟩ | ⟨c, hok, S, hm, hl⟩ | ⟨hend, hok, S, hm, hl⟩ | ⟨c, k0, hok, hp, S, hm, hl⟩
 ·refine wp_region_any hmix (aLex_any hok (fun j o ho => Array.all_eq_true_iff_forall_mem.1 hb o (Array.mem_of_getElem? ho)) ops.size (List.range ops.size) (Array.replicate ops.size false) (by simp) (by simp) ?_ ?_ ?_ hl hm hS' (fun f' m' G' a' w' k1 _ k2 k3 => hK f' m' G' a' w' k1 k2 (hE.trans k3)))
  ·exact List.pairwise_lt_range
  ·intro i
   rw [List.mem_range]
   refine ⟨fun h => ⟨h, by simp [h]⟩, fun h => h.1⟩
  ·intro j oj hj hl
   have : j < ops.size := (Array.getElem?_eq_some_iff.1 hj).1
   simp [this] at hl
 ·obtain ⟨ob, hf⟩ := flt_spec hok
  have hlt := hf.lt
  have hltc := hf.ltc
  refine wp_region_any hmix (aFl_any hf (fun j o ho => Array.all_eq_true_iff_forall_mem.1 hb o (Array.mem_of_getElem? ho)) ops.size _ (Array.replicate ops.size false) (by simp; omega) (by simp) ?_ ?_ ?_ ?_ ?_ hl hm hS' (fun f' m' G' a' w' k1 _ k2 k3 => hK f' m' G' a' w' k1 k2 (hE.trans k3)))
  ·refine List.pairwise_append.2 ⟨List.pairwise_lt_range', List.pairwise_lt_range', fun x hx y hy => ?_⟩
   simp only [List.mem_range'_1] at hx hy
   omega
  ·intro i
   simp only [List.mem_append, List.mem_range'_1]
   constructor
   ·intro h
    have : i < ops.size := by omega
    exact ⟨⟨this, by simp [this]⟩, by omega, by omega⟩
   ·intro h
    omega
  ·have : b < ops.size := by omega
   simp [this]
  ·intro i _ hi
   simp [hi]
  ·intro j oj hj hl
   have : j < ops.size := (Array.getElem?_eq_some_iff.1 hj).1
   simp [this] at hl
 ·have hpos : 0 < ops.size := by
    unfold endOk at hend
    split at hend
    ·rename_i o ho
     have := (Array.getElem?_eq_some_iff.1 ho).1
     omega
    ·cases hend
  refine wp_region_any hmix (aLexE_any hend hok (fun j o ho => Array.all_eq_true_iff_forall_mem.1 hb o (Array.mem_of_getElem? ho)) ops.size (List.range (ops.size - 1)) (Array.replicate ops.size false) (by simp; omega) (by simp) ?_ ?_ ?_ ?_ hl hm hS' (fun f' m' G' a' w' k1 k2 k3 => hK f' m' G' a' w' k1 k2 (hE.trans k3)))
  ·exact List.pairwise_lt_range
  ·intro i
   rw [List.mem_range]
   refine ⟨fun h => ⟨by omega, ?_⟩, fun h => by omega⟩
   have : i < ops.size := by omega
   simp [this]
  ·have : ops.size - 1 < ops.size := by omega
   simp [this]
  ·intro j oj hj hl
   have : j < ops.size := (Array.getElem?_eq_some_iff.1 hj).1
   simp [this] at hl
 ·refine wp_region_any hmix (aLexZ_any hok (fun j o ho => Array.all_eq_true_iff_forall_mem.1 hb o (Array.mem_of_getElem? ho)) ops.size (List.range ops.size) (Array.replicate ops.size false) (by simp) (by simp) ?_ ?_ ?_ hl hm hS' (hZ.ext hE) (fun f' m' G' a' w' k1 _ k2 k3 => hK f' m' G' a' w' k1 k2 (hE.trans k3)))
  ·exact List.pairwise_lt_range
  ·intro i
   rw [List.mem_range]
   refine ⟨fun h => ⟨h, by simp [h]⟩, fun h => h.1⟩
  ·intro j oj hj hl
   have : j < ops.size := (Array.getElem?_eq_some_iff.1 hj).1
   simp [this] at hl
 ·have hcs : c ≤ ops.size := by
    unfold lexOkC at hok
    simp only [Bool.and_eq_true, decide_eq_true_eq] at hok
    exact hok.1.2
  refine wp_region_any hmix (aLexC_any hok (fun j o ho => Array.all_eq_true_iff_forall_mem.1 hb o (Array.mem_of_getElem? ho)) ops.size (List.range c) (Array.replicate ops.size false) (by simp; omega) (by simp) ?_ ?_ ?_ ?_ hl hm hS' (fun f' m' G' a' w' k1 k2 k3 => hK f' m' G' a' w' k1 k2 (hE.trans k3)))
  ·exact List.pairwise_lt_range
  ·intro i
   rw [List.mem_range]
   refine ⟨fun h => ⟨h, ?_⟩, fun h => h.1⟩
   have : i < ops.size := by omega
   simp [this]
  ·intro i _ hi
   simp [hi]
  ·intro j oj hj hl
   have : j < ops.size := (Array.getElem?_eq_some_iff.1 hj).1
   simp [this] at hl
 ·have hpos : 0 < ops.size := by
    unfold endOk at hend
    split at hend
    ·rename_i o ho
     have := (Array.getElem?_eq_some_iff.1 ho).1
     omega
    ·cases hend
  refine wp_region_any hmix (aLexEZ_any hend hok (fun j o ho => Array.all_eq_true_iff_forall_mem.1 hb o (Array.mem_of_getElem? ho)) ops.size (List.range (ops.size - 1)) (Array.replicate ops.size false) (by simp; omega) (by simp) ?_ ?_ ?_ ?_ hl hm hS' (hZ.ext hE) (fun f' m' G' a' w' k1 k2 k3 => hK f' m' G' a' w' k1 k2 (hE.trans k3)))
  ·exact List.pairwise_lt_range
  ·intro i
   rw [List.mem_range]
   refine ⟨fun h => ⟨by omega, ?_⟩, fun h => by omega⟩
   have : i < ops.size := by omega
   simp [this]
  ·have : ops.size - 1 < ops.size := by omega
   simp [this]
  ·intro j oj hj hl
   have : j < ops.size := (Array.getElem?_eq_some_iff.1 hj).1
   simp [this] at hl
 ·have hcs : c ≤ ops.size := by
    unfold lexOkC at hok
    simp only [Bool.and_eq_true, decide_eq_true_eq] at hok
    exact hok.1.2
  have hkc : k0 < c := by
   unfold okP at hp
   cases h : ops[k0]? with
   | none => rw [h] at hp; cases hp
   | some o =>
    rw [h] at hp
    simp only [Bool.and_eq_true, decide_eq_true_eq] at hp
    exact hp.1.1
  refine wp_region_any hmix (aLexP_any hok hp (fun j o ho => Array.all_eq_true_iff_forall_mem.1 hb o (Array.mem_of_getElem? ho)) ops.size (List.range' 0 k0 ++ List.range' (k0 + 1) (c - 1 - k0)) (Array.replicate ops.size false) (by simp; omega) (by simp) ?_ ?_ ?_ ?_ ?_ hl hm hS' (hZ.ext hE) (fun f' m' G' a' w' k1 k2 k3 => hK f' m' G' a' w' k1 k2 (hE.trans k3)))
  ·refine List.pairwise_append.2 ⟨List.pairwise_lt_range', List.pairwise_lt_range', fun x hx y hy => ?_⟩
   simp only [List.mem_range'_1] at hx hy
   omega
  ·intro i
   simp only [List.mem_append, List.mem_range'_1]
   constructor
   ·intro h
    have : i < ops.size := by omega
    exact ⟨by omega, by omega, by simp [this]⟩
   ·intro h
    omega
  ·have : k0 < ops.size := by omega
   simp [this]
  ·intro i _ hi
   simp [hi]
  ·intro j oj hj hl
   have : j < ops.size := (Array.getElem?_eq_some_iff.1 hj).1
   simp [this] at hl

theorem lift_ext {K : Exit → F → M → Prop} {G G1 : Ghost} {w w1 : World} (hE : Ext G w G1 w1) : ∀ e a w', lift K Z n ds G1 w1 e a w' → lift K Z n ds G w e a w' := fun e a w' hl => by
 rcases hl with ⟨G', f, m, h1, h2, h3⟩ | ⟨y, v, m, G', h1, h2, h3, h4, h5, h6⟩
 ·exact .inl ⟨G', f, m, h1, h2, hE.trans h3⟩
 ·exact .inr ⟨y, v, m, G', h1, h2, h3, h4, hE.trans h5, h6⟩

theorem aCode_sound (hmix : P.follows .mixedOrders = true) : ∀ (c : Code) {K : Exit → F → M → Prop} {f : F} {m : M} {G : Ghost} {a : Act} {w : World}, aCode P mu Z c K f m → Go.Code.bd n c = true → St n ds G f m a w → c.wp P (lift K Z n ds G w) a w := by
 intro c
 induction c with
 | skip => intro K f m G a w h _ hS; exact wp_skip (.inl ⟨G, f, m, h, hS, Ext.refl _ _⟩)
 | label l => intro K f m G a w h _ hS; exact wp_label (.inl ⟨G, f, m, h, hS, Ext.refl _ _⟩)
 | region id ops d =>
  intro K f m G a w h hb hS
  cases d with
  | false =>
   obtain ⟨f2, m2, hg, h⟩ := h
   obtain ⟨G2, k1, k2⟩ := hg.sound hS
   exact wp_region_list (aOps_sound ops.toList h (by simpa [Go.Code.bd] using hb) k1 (fun f' m' G' a' w' q1 q2 q3 => .inl ⟨G', f', m', q1, q2, k2.trans q3⟩) (ZQ.lift.ext k2))
  | true =>
   obtain ⟨f2, m2, hg, h⟩ := h
   obtain ⟨G2, k1, k2⟩ := hg.sound hS
   exact aDraw_sound hmix h (by simpa [Go.Code.bd] using hb) k1 (ZQ.lift.ext k2) (fun f' m' G' a' w' q1 q2 q3 => .inl ⟨G', f', m', q1, q2, k2.trans q3⟩)
 | seq x y ihx ihy =>
  intro K f m G a w h hb hS
  simp only [Go.Code.bd, Bool.and_eq_true] at hb
  simp only [aCode] at h
  refine wp_seq (wp_mono (ihx h hb.1 hS) fun e a' w' hl => ?_)
  rcases hl with ⟨G', f', m', h1, h2, h3⟩ | hp
  ·cases e with
   | normal => exact wp_mono (ihy h1 hb.2 h2) (lift_ext h3)
   | _ => exact .inl ⟨G', f', m', h1, h2, h3⟩
  ·have hp' := hp
   obtain ⟨y', v, m1, G1, rfl, _⟩ := hp
   exact .inr hp'
 | cond c x y ihx ihy =>
  intro K f m G a w h hb hS
  simp only [Go.Code.bd, Bool.and_eq_true] at hb
  simp only [aCode] at h
  have hc := ev_rep hS.fr c
  cases hev : ev f c with
  | v u =>
   rw [hev] at hc
   have he := hc.atomEq
   cases u <;> simp only [hev, aCond] at h
   rename_i b
   cases b
   ·exact wp_cond_false he (ihy (h.2 rfl) hb.2 hS)
   ·exact wp_cond_true he (ihx (h.1 rfl) hb.1 hS)
  | _ => simp [hev, aCond] at h
 | block id c ih =>
  intro K f m G a w h hb hS
  simp only [Go.Code.bd] at hb
  simp only [aCode] at h
  refine wp_block (wp_mono (ih h hb hS) fun e a' w' hl => ?_)
  rcases hl with ⟨G', f', m', h1, h2, h3⟩ | hp
  ·cases e with
   | exit i =>
    simp only [aBlock] at h1
    simp only [Exit.inBlock]
    split at h1
    ·rename_i hi; rw [if_pos hi]; exact .inl ⟨G', f', m', h1, h2, h3⟩
    ·rename_i hi; rw [if_neg hi]; exact .inl ⟨G', f', m', h1, h2, h3⟩
   | _ => exact .inl ⟨G', f', m', h1, h2, h3⟩
  ·have hp' := hp
   obtain ⟨y', v, m1, G1, rfl, _⟩ := hp
   exact .inr hp'
 | loop c ih =>
  intro K f m G a w h hb hS
  simp only [Go.Code.bd] at hb
  simp only [aCode] at h
  obtain ⟨I, μ, h0, hr⟩ := h
  obtain ⟨J, hJ, hr⟩ : ∃ J : F → M → F → M → Prop, (∀ f1 m1 f' m', J f1 m1 f' m' → ∃ f2 m2, Trim m f' m' f2 m2 ∧ I f2 m2 ∧ μ f2 m2 < μ f1 m1) ∧ ∀ f1 m1, I f1 m1 → aCode P mu Z c (aThen (fun f' m' => J f1 m1 f' m') K) f1 m1 := by
   rcases hr with hr | hr
   ·exact ⟨fun f1 m1 f' m' => I f' m' ∧ μ f' m' < μ f1 m1, fun f1 m1 f' m' h => ⟨f', m', .inl ⟨rfl, rfl⟩, h⟩, hr⟩
   ·exact ⟨fun f1 m1 f' m' => ∃ f2 m2, Trim m f' m' f2 m2 ∧ I f2 m2 ∧ μ f2 m2 < μ f1 m1, fun _ _ _ _ h => h, hr⟩
  have key : ∀ (k : Nat) (f : F) (m : M), μ f m = k → I f m → ∀ (G1 : Ghost) (a : Act) (w1 : World), St n ds G1 f m a w1 → Ext G w G1 w1 → ∀ (b : Frame) (kk : List Item) (cs : List Frame),
      ∃ e a' w', lift K Z n ds G w e a' w' ∧ Arrives P (lone (b.at a (.code c :: .inLoop c :: kk)) cs w1) b kk cs e a' w' := by
   intro k
   induction k using Nat.strongRecOn with
   | _ k ihk =>
    intro f m hk hI G1 a w1 hS1 hE b kk cs
    obtain ⟨e, a1, w1', hl, harr⟩ := ih (hr f m hI) hb hS1 b (.inLoop c :: kk) cs
    rcases hl with ⟨G2, f2, m2, q1, q2, q3⟩ | ⟨y', v, m2, G2, rfl, q2, q3, q4, q5, q6⟩
    ·cases e with
     | normal =>
      obtain ⟨f3, m3, htr, hI2, hlt⟩ := hJ _ _ _ _ q1
      obtain ⟨G3, q4, q5⟩ := htr.sound hS.inv (hE.trans q3) q2
      obtain ⟨e2, a2, w2, hq2, harr2⟩ := ihk (μ f3 m3) (hk ▸ hlt) f3 m3 rfl hI2 G3 a1 w1' q4 q5 b kk cs
      exact ⟨e2, a2, w2, hq2, .of_steps (Steps.trans harr (.one step_inLoop)) harr2⟩
     | exit id => exact ⟨_, a1, w1', .inl ⟨G2, f2, m2, q1, q2, hE.trans q3⟩, .pass (x := .inLoop c) rfl (fun _ _ => .inl (by simp)) harr⟩
     | goto l => exact ⟨_, a1, w1', .inl ⟨G2, f2, m2, q1, q2, hE.trans q3⟩, .pass (x := .inLoop c) rfl (fun _ _ => .inl (by simp)) harr⟩
     | ret => exact ⟨_, a1, w1', .inl ⟨G2, f2, m2, q1, q2, hE.trans q3⟩, .pass (x := .inLoop c) rfl (fun _ _ => .inl (by simp)) harr⟩
     | panic ch => exact ⟨_, a1, w1', .inl ⟨G2, f2, m2, q1, q2, hE.trans q3⟩, .pass (x := .inLoop c) rfl (fun _ _ => .inl (by simp)) harr⟩
     | outgrown => exact ⟨_, a1, w1', .inl ⟨G2, f2, m2, q1, q2, hE.trans q3⟩, .pass (x := .inLoop c) rfl (fun _ _ => .inl (by simp)) harr⟩
    ·exact ⟨_, a1, w1', .inr ⟨y', v, m2, G2, rfl, q2, q3, q4, hE.trans q5, q6⟩, .pass (x := .inLoop c) rfl (fun _ _ => .inl (by simp)) harr⟩
  intro b kk cs
  obtain ⟨e, a', w', hq, harr⟩ := key _ f m rfl h0 G a w hS (Ext.refl _ _) b kk cs
  exact ⟨e, a', w', hq, .of_steps (.one step_loop) harr⟩
 | exit id => intro K f m G a w h _ hS; exact wp_exit (.inl ⟨G, f, m, h, hS, Ext.refl _ _⟩)
 | ret => intro K f m G a w h _ hS; exact wp_ret (.inl ⟨G, f, m, h, hS, Ext.refl _ _⟩)
 | _ => intro K f m G a w h; exact absurd h (by simp [aCode])
end

inductive Leave (m0 m : M) : PV → PV → M → Prop
 | plain (v : PV) (hb : m.boxes.take m0.nb = m0.boxes) (ht : m.toks.take m0.nt = m0.toks) (hv : v.settle.pure = true) : Leave m0 m v v.settle m0
 | tok (o : Own) (xs : List PV) (s : Nat) (mk : M) (hb : m.boxes.take m0.nb = m0.boxes) (hkb : mk.boxes = m0.boxes) (hf : o.free m s) (ht : (o.use m).toks.take m0.nt = mk.toks) (hkl : mk.toks.length = m0.nt) (hs : ∀ x ∈ xs, x.cells.length = s) :
     Leave m0 m (.sl o xs) (.sl (.tok m0.nt) xs) (mk.fresh s)
 | upd (v : PV) (m' : M) (hl : m'.boxes.length = m0.nb) (hb : m.boxes.take m0.nb = m'.boxes) (ht : m.toks.take m'.nt = m'.toks) (hk : m0.nt ≤ m'.nt) (hp : ∀ id c, m'.get id = some c → m0.get id = some c ∨ PV.pures c = true) (hv : v.settle.pure = true) : Leave m0 m v v.settle m'
 | gen (v v' : PV) (m' : M) (hvv : v' = v ∨ v' = v.settle) (hn : m0.nb ≤ m'.nb) (hk : m0.nt ≤ m'.nt) (hb : m.boxes.take m'.nb = m'.boxes) (ht : m.toks.take m'.nt = m'.toks) (hp : ∀ id c, m'.get id = some c → m0.get id = some c ∨ PV.withins m'.nb m'.nt c = true) (hv : v'.within m'.nb m'.nt = true) : Leave m0 m v v' m'

theorem Leave.sound {m0 m m' : M} {v v' : PV} (h : Leave m0 m v v' m') {G0 G : Ghost} {w0 w : World} (hI0 : Inv G0 m0 w0) (hE : Ext G0 w0 G w) (hI : Inv G m w) {y : Value} (hr : Rep G w v y) : ∃ G', Rep G' w v' y ∧ Inv G' m' w ∧ Ext G0 w0 G' w := by
 cases h with
 | plain _ hb ht hv =>
  obtain ⟨h1, h2⟩ := cut_inv (m' := m0) hI0 hE hI (Nat.le_refl _) hI0.nb hI0.nt (fun id c hc => ⟨take_get hb hc, .inl hc⟩) (fun t s ha => take_alive ht ha)
  exact ⟨_, hr.settle.pureCut hv _ _, h1, h2⟩
 | upd _ _ hl hb ht hk hp hv =>
  obtain ⟨h1, h2⟩ := cut_inv (m' := m') hI0 hE hI (k := m'.nt) (by have : m0.nt = G0.nt := hI0.nt; omega) (by have : m0.nb = G0.nb := hI0.nb; omega) rfl (fun id c hc => ⟨take_get hb hc, hp id c hc⟩) (fun t s ha => take_alive ht ha)
  exact ⟨_, hr.settle.pureCut hv _ _, h1, h2⟩
 | gen _ _ _ hvv hn hk hb ht hp hv =>
  obtain ⟨h1, h2⟩ := cut_invW (m' := m') hI0 hE hI (n := m'.nb) (k := m'.nt) (by have : m0.nb = G0.nb := hI0.nb; omega) (by have : m0.nt = G0.nt := hI0.nt; omega) rfl rfl (fun id c hc => ⟨take_get hb hc, hp id c hc⟩) (fun t s ha => take_alive ht ha)
  refine ⟨_, ?_, h1, h2⟩
  rcases hvv with rfl | rfl
  ·exact hr.cutW hv
  ·exact hr.settle.cutW hv
 | tok o xs s mk hb hkb hf ht hkl hs =>
  have hnt : m0.nt = G0.nt := hI0.nt
  have hsub : ∀ t s', mk.alive t s' → (o.use m).alive t s' := fun t s' ha => take_alive ht ha
  have hsub' : ∀ t s', mk.alive t s' → m.alive t s' := fun t s' ha => by
   have := hsub t s' ha
   cases o with
   | tok t0 => exact (M.alive_kill this).2
   | _ => exact this
  have hgk : ∀ id, mk.get id = m0.get id := fun id => by unfold M.get; rw [hkb]
  obtain ⟨h1, h2⟩ := cut_inv (m' := mk) hI0 hE hI (Nat.le_refl _) (by rw [hkb]; exact hI0.nb) (by rw [hkl]; exact hnt) (fun id c hc => ⟨take_get hb (m' := m0) (by rw [← hgk]; exact hc), .inl (by rw [← hgk]; exact hc)⟩) hsub'
  have hcut : ∀ {x : PV} {u : Value}, Rep G w x u → x.pure = true → Rep (G.cut G0.nb G0.nt) w x u := fun h hp => h.pureCut hp _ _
  have fin : ∀ (r : Res), r.sz = s → (∀ b o', r.has b o' → ∃ t, o = .tok t ∧ (G.res t).has b o') → Inv ((G.cut G0.nb G0.nt).addTok r) (mk.fresh s) w := fun r hrs hrh => by
   have := h1.addTok r (fun b o' hbo => by
    obtain ⟨t, rfl, hto⟩ := hrh b o' hbo
    obtain ⟨q1, q2, q3, q4, q5⟩ := (hI.tok t s hf).2 b o' hto
    exact ⟨q1, q2, q3, q4, fun id c hc => q5 id c (take_get hb (m' := m0) (by rw [← hgk]; exact hc))⟩) (fun t' s' ha b o' hbo hx => by
    obtain ⟨t, rfl, hto⟩ := hrh b o' hx
    obtain ⟨hne, ha'⟩ := M.alive_kill (hsub t' s' ha)
    exact hI.tokd t' t s' s ha' hf hne b o' hbo hto)
   rwa [hrs] at this
  have hres : ∀ r, ((G.cut G0.nb G0.nt).addTok r).res m0.nt = r := fun r => if_pos hnt
  have hlt : ∀ r, m0.nt < ((G.cut G0.nb G0.nt).addTok r).nt := fun r => by show m0.nt < G0.nt + 1; omega
  rcases sl_inv hr with ⟨⟨ao, rfl⟩, rfl, hnil⟩ | ⟨b, off, cap, sz, cs, rfl, a1, a2, a3, a4, a5, a6, a7, a8⟩
  ·refine ⟨_, .snil _ ao (fun t ht' => ?_), fin ⟨0, 0, 0, s⟩ rfl (fun b o' hbo => by obtain ⟨_, k1, k2⟩ := hbo; simp at k2), h2.trans (Ext.addTok _ _ _)⟩
   cases ht'
   exact ⟨hlt _, by rw [hres]; simp⟩
  ·have hE2 := h2.trans (Ext.addTok (G.cut G0.nb G0.nt) w ⟨b, off + xs.length * s, off + cap * s, s⟩)
   have hrl : RL (G.cut G0.nb G0.nt) w (xs.flatMap PV.cells) cs := ⟨a3.len, fun j q1 q2 => hcut (a3.rep j q1 q2) (by
    obtain ⟨x, hx, hxc⟩ := List.mem_flatMap.1 (List.getElem_mem q1)
    obtain ⟨i, hi, he⟩ := List.mem_iff_getElem.1 hxc
    rw [← he]
    exact (ok_cells (a2 x hx) i hi).1), a3.one⟩
   refine ⟨_, slice_rep (sz := s) hs a2 (hrl.mono (Ext.addTok _ _ _)) (fun k hk => ⟨(a4 k hk).1, (a4 k hk).2⟩) a5 a6 (fun h => by cases h) (fun t ht' => ?_), fin ⟨b, off + xs.length * s, off + cap * s, s⟩ rfl (fun b' o' hbo => ?_), hE2⟩
   ·cases ht'
    exact ⟨hlt _, hres _⟩
   ·obtain ⟨k0, k1, k2⟩ := hbo
    simp only at k0 k1 k2
    cases o with
    | no => exact absurd hf (by simp [Own.free])
    | full => rw [a7 rfl] at k2; omega
    | tok t =>
     refine ⟨t, rfl, ?_⟩
     obtain ⟨q1, q2⟩ := a8 t rfl
     have hsz : sz = s := by have := (hI.tok t s hf).1; rw [q2] at this; exact this
     rw [q2, hsz]
     exact ⟨k0, k1, k2⟩

def aRes (P : Program) (f : F) (m : M) : List ResultVar → (List PV → Prop) → Prop
 | [], K => K []
 | .tmp t :: r, K => aRes P f m r fun vs => K (f t :: vs)
 | .cell a t :: r, K => match aStep P false (.load t (.tmp a)) f m with
  | .ok p v _ => p ∧ aRes P f m r fun vs => K (v :: vs)
  | _ => False
def pack : List PV → PV
 | [x] => x
 | vs => .tp vs
def aPost (P : Program) (rs : List ResultVar) (m0 : M) (R : PV → M → Prop) : Exit → F → M → Prop := fun e f m =>
 match e with
 | .normal | .ret => aRes P f m rs fun vs => ∃ v' m', Leave m0 m (pack vs) v' m' ∧ R v' m'
 | _ => False
def F.args (args : List PV) : F := fun i => args.getD i (.tp [])

def resF (tmps : Array Value) : ResultVar → Sem Value
 | .tmp t => pure (tmps.getD t undef)
 | .cell a t => do loadVar t (← asAddr (tmps.getD a undef))
theorem results_run {P : Program} (fn : Func) (tmps : Array Value) (w : World) : (results fn tmps).run P w = ((fn.results.mapM (resF tmps)).run P w).andThen fun vs w' => .ok (if h : vs.size = 1 then vs[0] else .tuple vs) w' := by
 unfold results
 rw [Sem.run_bind]
 rfl
theorem aRes_sound {P : Program} {f : F} {m : M} {G : Ghost} {w : World} {tmps : Array Value} (hI : Inv G m w) (hF : FR G w f tmps) : ∀ (rs : List ResultVar) {K : List PV → Prop}, aRes P f m rs K →
    ∃ (vs : List PV) (ys : List Value), K vs ∧ vs.length = ys.length ∧ (∀ j (h1 : j < vs.length) (h2 : j < ys.length), Rep G w vs[j] ys[j]) ∧
     (rs.mapM (resF tmps)).run P w = .ok ys w
 | [], K, h => ⟨[], [], h, rfl, fun j h => by simp at h, rfl⟩
 | .tmp t :: rs, K, h => by
  obtain ⟨vs, ys, h1, h2, h3, h4⟩ := aRes_sound hI hF rs h
  refine ⟨f t :: vs, tmps.getD t undef :: ys, h1, by simp [h2], fun j q1 q2 => ?_, ?_⟩
  ·cases j with
   | zero => exact hF t
   | succ j => simpa using h3 j (by simpa using q1) (by simpa using q2)
  ·rw [List.mapM_cons]
   simp only [resF, Sem.run_bind, Sem.run_pure, Result.andThen_ok, h4]
 | .cell a t :: rs, K, h => by
  simp only [aRes] at h
  have hx := hF a
  cases hd : tdat P t with
  | none => simp [aStep, aOr, aGrow, aStep0, hd] at h
  | some d =>
   obtain ⟨y, hy⟩ : ∃ y, tmps.getD a undef = y := ⟨_, rfl⟩
   rw [hy] at hx
   have key : ∃ (v : PV) (p : Prop) (u : Value), aStep P false (.load t (.tmp a)) f m = .ok p v m ∧ p ∧ Rep G w v u ∧ (Instr.loadAt t y).run P w = .ok u w ∧ ∃ ad, y = .pointer (some ad) := by
    cases hev : f a <;> simp only [aStep, aOr, aGrow, aStep0, hd, ev, hev] at h ⊢ <;> rw [hev] at hx
    case ep xs =>
     obtain ⟨u, q1, q2⟩ := load_epw hd hx h.1
     refine ⟨_, _, u, rfl, h.1, q2, q1, ?_⟩
     cases hx
     exact ⟨_, rfl⟩
    case bp id off =>
     cases hg : m.get id with
     | none => simp [hg] at h
     | some c =>
      simp only [hg] at h ⊢
      obtain ⟨u, q1, q2⟩ := load_bpw hd hI hg hx h.1
      refine ⟨_, _, u, rfl, h.1, q2, q1, ?_⟩
      cases hx
      exact ⟨_, rfl⟩
    all_goals exact h.elim
   obtain ⟨v, p, u, e1, e2, e3, e4, ad, rfl⟩ := key
   simp only [e1] at h
   obtain ⟨vs, ys, h1, h2, h3, h4⟩ := aRes_sound hI hF rs h.2
   refine ⟨v :: vs, u :: ys, h1, by simp [h2], fun j q1 q2 => ?_, ?_⟩
   ·cases j with
    | zero => exact e3
    | succ j => simpa using h3 j (by simpa using q1) (by simpa using q2)
   ·have e5 : (resF tmps (.cell a t)).run P w = .ok u w := by show (do loadVar t (← asAddr (tmps.getD a undef)) : Sem Value).run P w = _; rw [hy]; exact e4
    rw [List.mapM_cons, Sem.run_bind, e5]
    simp only [Result.andThen_ok, Sem.run_bind, h4, Sem.run_pure]

def LeaveZ (m0 : M) (Z : PV → M → Prop) (v : PV) (m : M) : Prop := ∃ v' m', Leave m0 m v v' m' ∧ Z v' m'
theorem ACallsZ.enterG {P : Program} {mu : List Nat} {g : FuncId} {fn : Func} {c : Code} {args : List PV} {m : M} {R Z Z0 : PV → M → Prop} (hz : ∀ v m', Z0 v m' → LeaveZ m Z v m') (hmix : P.follows .mixedOrders = true) (hf : P.funcs[g]? = some fn) (hb : fn.body = some c) (hc : canCall P g = true)
    (hbd : Go.Code.bd (.of fn.ntmps) c = true) (hn : args.length ≤ fn.ntmps) (h : aCode P mu Z0 c (aPost P fn.results.toList m R) (F.args args) m) : ACallsZ P g args m R Z := by
 refine ⟨hc, fun G w vs hI hl hr => calls_of_wp hf hb ?_⟩
 have hS : St (.of fn.ntmps) [] G (F.args args) m { tmps := vs.toArray ++ Array.replicate (fn.ntmps - vs.toArray.size) undef, defers := [] } w := by
  refine ⟨fun t => ?_, hI, rfl, by simp [Fi.of]; omega, fun k hk => by simp [Fi.of] at hk⟩
  have e : ((vs.toArray ++ Array.replicate (fn.ntmps - vs.toArray.size) undef).getD t undef) = vs.getD t undef := by
   by_cases ht : t < vs.length
   ·simp [List.getD, Array.getElem?_append, ht]
   ·simp only [List.getD, Array.getD_eq_getD_getElem?, Array.getElem?_append, List.size_toArray, ht, if_false, List.getElem?_eq_none (Nat.le_of_not_lt ht)]
    simp only [Array.getElem?_replicate]
    split <;> rfl
  simp only [e, F.args]
  by_cases ht : t < args.length
  ·have := hr t ht (hl ▸ ht)
   simpa [List.getD, ht, hl ▸ ht] using this
  ·simp only [List.getD, List.getElem?_eq_none (Nat.le_of_not_lt ht), List.getElem?_eq_none (Nat.le_of_not_lt (hl ▸ ht)), Option.getD_none]
   exact .tp [] [] rfl (fun j h => by simp at h)
 refine wp_mono (aCode_sound hmix c h hbd hS) fun e a w' hl => ?_
 rcases hl with ⟨G', f, m', hp, hS', hE⟩ | ⟨y, v, m', G', rfl, hzz, hr', hI', hE, hds, _⟩
 case inr =>
  obtain ⟨v', m'', hlv, hZ⟩ := hz _ _ hzz
  obtain ⟨G'', g1, g2, g3⟩ := hlv.sound hI hE hI' hr'
  exact ⟨hds, .inr ⟨y, v', m'', G'', rfl, hZ, g1, g2, g3⟩⟩
 have fin : aRes P f m' fn.results.toList (fun vs => ∃ v' m'', Leave m m' (pack vs) v' m'' ∧ R v' m'') → a.defers = [] ∧ ∃ y, (results fn a.tmps).run P w' = .ok y w' ∧ ((∃ y' v m'' G'', Ending.returned y = .returned y' ∧ R v m'' ∧ Rep G'' w' v y' ∧ Inv G'' m'' w' ∧ Ext G w G'' w') ∨ (∃ y' v m'' G'', Ending.returned y = .panicked [{ v := y', recovered := false }] ∧ Z v m'' ∧ Rep G'' w' v y' ∧ Inv G'' m'' w' ∧ Ext G w G'' w')) := fun ha => by
  obtain ⟨us, ys, ⟨v', m'', hlv, hR⟩, h2, h3, h4⟩ := aRes_sound hS'.inv hS'.fr _ ha
  have hpk : ∃ y, Rep G' w' (pack us) y ∧ (results fn a.tmps).run P w' = .ok y w' := by
   have e : (fn.results.mapM (resF a.tmps)).run P w' = .ok ys.toArray w' := by
    rw [Array.mapM_eq_mapM_toList, ← bind_pure_comp, Sem.run_bind, h4]
    rfl
   by_cases h1 : ys.length = 1
   ·obtain ⟨y, rfl⟩ := List.length_eq_one_iff.1 h1
    obtain ⟨u, rfl⟩ := List.length_eq_one_iff.1 (h2.trans h1)
    refine ⟨y, by simpa [pack] using h3 0 (by simp) (by simp), ?_⟩
    rw [results_run, e]
    rfl
   ·refine ⟨.tuple ys.toArray, ?_, ?_⟩
    ·have : pack us = .tp us := by
       cases us with
       | nil => rfl
       | cons u us =>
        cases us with
        | nil => simp at h2; omega
        | cons u' us => rfl
     rw [this]
     exact .tp us ys h2 h3
    ·rw [results_run, e]
     simp only [Result.andThen_ok, List.size_toArray, h1, dite_false]
  obtain ⟨y, hy1, hy2⟩ := hpk
  obtain ⟨G'', g1, g2, g3⟩ := hlv.sound hI hE hS'.inv hy1
  exact ⟨hS'.defers, y, hy2, .inl ⟨y, v', m'', G'', rfl, hR, g1, g2, g3⟩⟩
 cases e with
 | normal => exact fin hp
 | ret => exact fin hp
 | _ => exact hp.elim
theorem ACallsZ.enter {P : Program} {mu : List Nat} {g : FuncId} {fn : Func} {c : Code} {args : List PV} {m : M} {R Z : PV → M → Prop} (hmix : P.follows .mixedOrders = true) (hf : P.funcs[g]? = some fn) (hb : fn.body = some c) (hc : canCall P g = true)
    (hbd : Go.Code.bd (.of fn.ntmps) c = true) (hn : args.length ≤ fn.ntmps) (h : aCode P mu (LeaveZ m Z) c (aPost P fn.results.toList m R) (F.args args) m) : ACallsZ P g args m R Z := ACallsZ.enterG (fun _ _ h => h) hmix hf hb hc hbd hn h
theorem ACalls.enter {P : Program} {mu : List Nat} {g : FuncId} {fn : Func} {c : Code} {args : List PV} {m : M} {R : PV → M → Prop} (hmix : P.follows .mixedOrders = true) (hf : P.funcs[g]? = some fn) (hb : fn.body = some c) (hc : canCall P g = true)
    (hbd : Go.Code.bd (.of fn.ntmps) c = true) (hn : args.length ≤ fn.ntmps) (h : aCode P mu noZ c (aPost P fn.results.toList m R) (F.args args) m) : ACalls P g args m R := ACallsZ.enterG (fun _ _ h => h.elim) hmix hf hb hc hbd hn h
end Go.Proofs.YthhhnfjcaicjnaaGreatDoor
