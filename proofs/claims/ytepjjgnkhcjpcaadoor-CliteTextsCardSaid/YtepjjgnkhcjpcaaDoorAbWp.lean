/-
  Code on values without addresses, whole functions; what they show holds of the model's runs.
-/
import Derived.Test.YtepjjgnkhcjpcaaDoorAbFrz
import Derived.Test.YtepjjgnkhcjpcaaDoorAbCut
import Derived.Test.YtepjjgnkhcjpcaaDoorAbEnd
import Derived.Test.YtepjjgnkhcjpcaaDoorAbDrZ
set_option linter.unusedVariables false
set_option linter.unusedSimpArgs false
namespace Go.Proofs.YtepjjgnkhcjpcaaDoor
open Go Go.RowKit

def aThen (X : F → M → Prop) (K : Exit → F → M → Prop) : Exit → F → M → Prop
  | .normal, f, m => X f m
  | e, f, m => K e f m
def aBlock (id : Nat) (K : Exit → F → M → Prop) : Exit → F → M → Prop
  | .exit i, f, m => if i = id then K .normal f m else K (.exit i) f m
  | e, f, m => K e f m
def aCond (c : PV) (x y : Prop) : Prop := match c with
  | .v (.bool b) => (b = true → x) ∧ (b = false → y)
  | _ => False
def aDraw (P : Program) (mu : List Nat) (Z : PV → M → Prop) (ops : Array Oper) (K : F → M → Prop) (f : F) (m : M) : Prop :=
  (lexOk mu ops = true ∧ ∃ S : M → Prop, S m ∧ aLex P mu ops S K (List.range ops.size) f m) ∨
  (∃ a c, fltOkC mu ops a c = true ∧ ∃ S : M → Prop, S m ∧ aFl P mu ops S K a (List.range' c (ops.size - c)) (List.range' 0 a ++ List.range' (a + 1) (c - 1 - a)) f m) ∨
  (endOk ops = true ∧ lexOk mu ops = true ∧ ∃ S : M → Prop, S m ∧ aLex P mu ops S (aLast P mu ops K) (List.range (ops.size - 1)) f m) ∨
  (lexOk mu ops = true ∧ ∃ S : M → Prop, S m ∧ aLexZ P mu Z ops S K (List.range ops.size) f m)
def aCode (P : Program) (mu : List Nat) (Z : PV → M → Prop) : Code → (Exit → F → M → Prop) → F → M → Prop
  | .skip, K, f, m => K .normal f m
  | .label _, K, f, m => K .normal f m
  | .region _ ops false, K, f, m => ∃ f' m', GStep f m f' m' ∧ aOps P mu Z ops ops.toList (K .normal) f' m'
  | .region _ ops true, K, f, m => ∃ f' m', GStep f m f' m' ∧ aDraw P mu Z ops (K .normal) f' m'
  | .seq a b, K, f, m => aCode P mu Z a (aThen (aCode P mu Z b K) K) f m
  | .cond c x y, K, f, m => aCond (ev f c) (aCode P mu Z x K f m) (aCode P mu Z y K f m)
  | .block id c, K, f, m => aCode P mu Z c (aBlock id K) f m
  | .loop c, K, f, m => ∃ (I : F → M → Prop) (μ : F → M → Nat), I f m ∧ ((∀ f m, I f m → aCode P mu Z c (aThen (fun f' m' => I f' m' ∧ μ f' m' < μ f m) K) f m) ∨ (∀ f1 m1, I f1 m1 → aCode P mu Z c (aThen (fun f' m' => ∃ f2 m2, Trim m f' m' f2 m2 ∧ I f2 m2 ∧ μ f2 m2 < μ f1 m1) K) f1 m1))
  | .exit id, K, f, m => K (.exit id) f m
  | .ret, K, f, m => K .ret f m
  | _, _, _, _ => False

def Go.Code.bd (n : Fi) : Code → Bool
  | .region _ ops _ => ops.all (dstB n)
  | .seq a b => bd n a && bd n b
  | .cond _ a b => bd n a && bd n b
  | .block _ c => bd n c
  | .loop c => bd n c
  | _ => true

section
variable {P : Program} {mu : List Nat} {Z : PV → M → Prop} {n : Fi} {ds : List Deferred}

theorem aDraw_sound (hmix : P.follows .mixedOrders = true) {id : Nat} {ops : Array Oper} {Q : Exit → Act → World → Prop} {K : F → M → Prop} {f : F} {m : M} {G : Ghost} {a : Act} {w : World} (h : aDraw P mu Z ops K f m) (hb : ops.all (dstB n) = true) (hS : St n ds G f m a w)
    (hZ : ZQ Z n ds G w Q) (hK : ∀ f' m' G' a' w', K f' m' → St n ds G' f' m' a' w' → Ext G w G' w' → Q .normal a' w') : (Code.region id ops true).wp P Q a w := by
  have hE : Ext G w G { w with drawn := w.drawn + 1 } := ⟨rfl, Nat.le_refl _, fun _ _ => rfl, fun _ _ => rfl, Nat.le_refl _, fun _ _ => rfl, fun _ _ h => h, fun _ _ _ => rfl, (Below.refl _ _).drew⟩
  have hS' : St n ds G f m a { w with drawn := w.drawn + 1 } := by
    refine ⟨hS.fr.mono hE, ?_, hS.defers, hS.size, hS.kept⟩
    have hI := hS.inv
    exact ⟨hI.nb, hI.nt, hI.base, fun id c hc => by
      obtain ⟨o, h1, h2, h5⟩ := hI.box id c hc
      exact ⟨o, h1, h2.mono hE, h5⟩, hI.boxset, hI.inj, hI.tok, hI.tokd, hI.set, hI.layE hE⟩
  rcases h with ⟨hok, S, hm, hl⟩ | ⟨b, c, hok, S, hm, hl⟩ | ⟨hend, hok, S, hm, hl⟩ | ⟨hok, S, hm, hl⟩
  · refine wp_region_any hmix (aLex_any hok (fun j o ho => Array.all_eq_true_iff_forall_mem.1 hb o (Array.mem_of_getElem? ho)) ops.size (List.range ops.size) (Array.replicate ops.size false) (by simp) (by simp) ?_ ?_ ?_ hl hm hS' (fun f' m' G' a' w' k1 _ k2 k3 => hK f' m' G' a' w' k1 k2 (hE.trans k3)))
    · exact List.pairwise_lt_range
    · intro i
      rw [List.mem_range]
      refine ⟨fun h => ⟨h, by simp [h]⟩, fun h => h.1⟩
    · intro j oj hj hl
      have : j < ops.size := (Array.getElem?_eq_some_iff.1 hj).1
      simp [this] at hl
  · obtain ⟨ob, hf⟩ := flt_spec hok
    have hlt := hf.lt
    have hltc := hf.ltc
    refine wp_region_any hmix (aFl_any hf (fun j o ho => Array.all_eq_true_iff_forall_mem.1 hb o (Array.mem_of_getElem? ho)) ops.size _ (Array.replicate ops.size false) (by simp; omega) (by simp) ?_ ?_ ?_ ?_ ?_ hl hm hS' (fun f' m' G' a' w' k1 _ k2 k3 => hK f' m' G' a' w' k1 k2 (hE.trans k3)))
    · refine List.pairwise_append.2 ⟨List.pairwise_lt_range', List.pairwise_lt_range', fun x hx y hy => ?_⟩
      simp only [List.mem_range'_1] at hx hy
      omega
    · intro i
      simp only [List.mem_append, List.mem_range'_1]
      constructor
      · intro h
        have : i < ops.size := by omega
        exact ⟨⟨this, by simp [this]⟩, by omega, by omega⟩
      · intro h
        omega
    · have : b < ops.size := by omega
      simp [this]
    · intro i _ hi
      simp [hi]
    · intro j oj hj hl
      have : j < ops.size := (Array.getElem?_eq_some_iff.1 hj).1
      simp [this] at hl
  · have hpos : 0 < ops.size := by
      unfold endOk at hend
      split at hend
      · rename_i o ho
        have := (Array.getElem?_eq_some_iff.1 ho).1
        omega
      · cases hend
    refine wp_region_any hmix (aLexE_any hend hok (fun j o ho => Array.all_eq_true_iff_forall_mem.1 hb o (Array.mem_of_getElem? ho)) ops.size (List.range (ops.size - 1)) (Array.replicate ops.size false) (by simp; omega) (by simp) ?_ ?_ ?_ ?_ hl hm hS' (fun f' m' G' a' w' k1 k2 k3 => hK f' m' G' a' w' k1 k2 (hE.trans k3)))
    · exact List.pairwise_lt_range
    · intro i
      rw [List.mem_range]
      refine ⟨fun h => ⟨by omega, ?_⟩, fun h => by omega⟩
      have : i < ops.size := by omega
      simp [this]
    · have : ops.size - 1 < ops.size := by omega
      simp [this]
    · intro j oj hj hl
      have : j < ops.size := (Array.getElem?_eq_some_iff.1 hj).1
      simp [this] at hl
  · refine wp_region_any hmix (aLexZ_any hok (fun j o ho => Array.all_eq_true_iff_forall_mem.1 hb o (Array.mem_of_getElem? ho)) ops.size (List.range ops.size) (Array.replicate ops.size false) (by simp) (by simp) ?_ ?_ ?_ hl hm hS' (hZ.ext hE) (fun f' m' G' a' w' k1 _ k2 k3 => hK f' m' G' a' w' k1 k2 (hE.trans k3)))
    · exact List.pairwise_lt_range
    · intro i
      rw [List.mem_range]
      refine ⟨fun h => ⟨h, by simp [h]⟩, fun h => h.1⟩
    · intro j oj hj hl
      have : j < ops.size := (Array.getElem?_eq_some_iff.1 hj).1
      simp [this] at hl

theorem lift_mono {K K' : Exit → F → M → Prop} (h : ∀ e f m, K e f m → K' e f m) {G : Ghost} {w : World} : ∀ e a w', lift K Z n ds G w e a w' → lift K' Z n ds G w e a w' := fun e a w' hl => by
  rcases hl with ⟨G', f, m, h1, h2, h3⟩ | hp
  · exact .inl ⟨G', f, m, h _ _ _ h1, h2, h3⟩
  · exact .inr hp
theorem lift_ext {K : Exit → F → M → Prop} {G G1 : Ghost} {w w1 : World} (hE : Ext G w G1 w1) : ∀ e a w', lift K Z n ds G1 w1 e a w' → lift K Z n ds G w e a w' := fun e a w' hl => by
  rcases hl with ⟨G', f, m, h1, h2, h3⟩ | ⟨y, v, m, G', h1, h2, h3, h4, h5, h6⟩
  · exact .inl ⟨G', f, m, h1, h2, hE.trans h3⟩
  · exact .inr ⟨y, v, m, G', h1, h2, h3, h4, hE.trans h5, h6⟩

theorem aCode_sound (hmix : P.follows .mixedOrders = true) : ∀ (c : Code) {K : Exit → F → M → Prop} {f : F} {m : M} {G : Ghost} {a : Act} {w : World}, aCode P mu Z c K f m → Go.Code.bd n c = true → St n ds G f m a w → c.wp P (lift K Z n ds G w) a w := by
  intro c
  induction c with
  | skip => intro K f m G a w h _ hS; exact wp_skip (.inl ⟨G, f, m, h, hS, Ext.refl _ _⟩)
  | label l => intro K f m G a w h _ hS; exact wp_label (.inl ⟨G, f, m, h, hS, Ext.refl _ _⟩)
  | region id ops d =>
    intro K f m G a w h hb hS
    cases d with
    | false =>
      obtain ⟨f2, m2, hg, h⟩ := h
      obtain ⟨G2, k1, k2⟩ := hg.sound hS
      exact wp_region_list (aOps_sound ops.toList h (by simpa [Go.Code.bd] using hb) k1 (fun f' m' G' a' w' q1 q2 q3 => .inl ⟨G', f', m', q1, q2, k2.trans q3⟩) (ZQ.lift.ext k2))
    | true =>
      obtain ⟨f2, m2, hg, h⟩ := h
      obtain ⟨G2, k1, k2⟩ := hg.sound hS
      exact aDraw_sound hmix h (by simpa [Go.Code.bd] using hb) k1 (ZQ.lift.ext k2) (fun f' m' G' a' w' q1 q2 q3 => .inl ⟨G', f', m', q1, q2, k2.trans q3⟩)
  | seq x y ihx ihy =>
    intro K f m G a w h hb hS
    simp only [Go.Code.bd, Bool.and_eq_true] at hb
    simp only [aCode] at h
    refine wp_seq (wp_mono (ihx h hb.1 hS) fun e a' w' hl => ?_)
    rcases hl with ⟨G', f', m', h1, h2, h3⟩ | hp
    · cases e with
      | normal => exact wp_mono (ihy h1 hb.2 h2) (lift_ext h3)
      | _ => exact .inl ⟨G', f', m', h1, h2, h3⟩
    · have hp' := hp
      obtain ⟨y', v, m1, G1, rfl, _⟩ := hp
      exact .inr hp'
  | cond c x y ihx ihy =>
    intro K f m G a w h hb hS
    simp only [Go.Code.bd, Bool.and_eq_true] at hb
    simp only [aCode] at h
    have hc := ev_rep hS.fr c
    cases hev : ev f c with
    | v u =>
      rw [hev] at hc
      have he := hc.atomEq
      cases u <;> simp only [hev, aCond] at h
      rename_i b
      cases b
      · exact wp_cond_false he (ihy (h.2 rfl) hb.2 hS)
      · exact wp_cond_true he (ihx (h.1 rfl) hb.1 hS)
    | _ => simp [hev, aCond] at h
  | block id c ih =>
    intro K f m G a w h hb hS
    simp only [Go.Code.bd] at hb
    simp only [aCode] at h
    refine wp_block (wp_mono (ih h hb hS) fun e a' w' hl => ?_)
    rcases hl with ⟨G', f', m', h1, h2, h3⟩ | hp
    · cases e with
      | exit i =>
        simp only [aBlock] at h1
        simp only [Exit.inBlock]
        split at h1
        · rename_i hi; rw [if_pos hi]; exact .inl ⟨G', f', m', h1, h2, h3⟩
        · rename_i hi; rw [if_neg hi]; exact .inl ⟨G', f', m', h1, h2, h3⟩
      | _ => exact .inl ⟨G', f', m', h1, h2, h3⟩
    · have hp' := hp
      obtain ⟨y', v, m1, G1, rfl, _⟩ := hp
      exact .inr hp'
  | loop c ih =>
    intro K f m G a w h hb hS
    simp only [Go.Code.bd] at hb
    simp only [aCode] at h
    obtain ⟨I, μ, h0, hr⟩ := h
    -- either way the rounds start from a state cut back
    obtain ⟨J, hJ, hr⟩ : ∃ J : F → M → F → M → Prop, (∀ f1 m1 f' m', J f1 m1 f' m' → ∃ f2 m2, Trim m f' m' f2 m2 ∧ I f2 m2 ∧ μ f2 m2 < μ f1 m1) ∧ ∀ f1 m1, I f1 m1 → aCode P mu Z c (aThen (fun f' m' => J f1 m1 f' m') K) f1 m1 := by
      rcases hr with hr | hr
      · exact ⟨fun f1 m1 f' m' => I f' m' ∧ μ f' m' < μ f1 m1, fun f1 m1 f' m' h => ⟨f', m', .inl ⟨rfl, rfl⟩, h⟩, hr⟩
      · exact ⟨fun f1 m1 f' m' => ∃ f2 m2, Trim m f' m' f2 m2 ∧ I f2 m2 ∧ μ f2 m2 < μ f1 m1, fun _ _ _ _ h => h, hr⟩
    -- the measure hangs on the state without addresses, which the model's state does not tell: the rounds are counted
    have key : ∀ (k : Nat) (f : F) (m : M), μ f m = k → I f m → ∀ (G1 : Ghost) (a : Act) (w1 : World), St n ds G1 f m a w1 → Ext G w G1 w1 → ∀ (b : Frame) (kk : List Item) (cs : List Frame),
        ∃ e a' w', lift K Z n ds G w e a' w' ∧ Arrives P (lone (b.at a (.code c :: .inLoop c :: kk)) cs w1) b kk cs e a' w' := by
      intro k
      induction k using Nat.strongRecOn with
      | _ k ihk =>
        intro f m hk hI G1 a w1 hS1 hE b kk cs
        obtain ⟨e, a1, w1', hl, harr⟩ := ih (hr f m hI) hb hS1 b (.inLoop c :: kk) cs
        rcases hl with ⟨G2, f2, m2, q1, q2, q3⟩ | ⟨y', v, m2, G2, rfl, q2, q3, q4, q5, q6⟩
        · cases e with
          | normal =>
            obtain ⟨f3, m3, htr, hI2, hlt⟩ := hJ _ _ _ _ q1
            obtain ⟨G3, q4, q5⟩ := htr.sound hS.inv (hE.trans q3) q2
            obtain ⟨e2, a2, w2, hq2, harr2⟩ := ihk (μ f3 m3) (hk ▸ hlt) f3 m3 rfl hI2 G3 a1 w1' q4 q5 b kk cs
            exact ⟨e2, a2, w2, hq2, .of_steps (Steps.trans harr (.one step_inLoop)) harr2⟩
          | exit id => exact ⟨_, a1, w1', .inl ⟨G2, f2, m2, q1, q2, hE.trans q3⟩, .pass (x := .inLoop c) rfl (fun _ _ => .inl (by simp)) harr⟩
          | goto l => exact ⟨_, a1, w1', .inl ⟨G2, f2, m2, q1, q2, hE.trans q3⟩, .pass (x := .inLoop c) rfl (fun _ _ => .inl (by simp)) harr⟩
          | ret => exact ⟨_, a1, w1', .inl ⟨G2, f2, m2, q1, q2, hE.trans q3⟩, .pass (x := .inLoop c) rfl (fun _ _ => .inl (by simp)) harr⟩
          | panic ch => exact ⟨_, a1, w1', .inl ⟨G2, f2, m2, q1, q2, hE.trans q3⟩, .pass (x := .inLoop c) rfl (fun _ _ => .inl (by simp)) harr⟩
          | outgrown => exact ⟨_, a1, w1', .inl ⟨G2, f2, m2, q1, q2, hE.trans q3⟩, .pass (x := .inLoop c) rfl (fun _ _ => .inl (by simp)) harr⟩
        · exact ⟨_, a1, w1', .inr ⟨y', v, m2, G2, rfl, q2, q3, q4, hE.trans q5, q6⟩, .pass (x := .inLoop c) rfl (fun _ _ => .inl (by simp)) harr⟩
    intro b kk cs
    obtain ⟨e, a', w', hq, harr⟩ := key _ f m rfl h0 G a w hS (Ext.refl _ _) b kk cs
    exact ⟨e, a', w', hq, .of_steps (.one step_loop) harr⟩
  | exit id => intro K f m G a w h _ hS; exact wp_exit (.inl ⟨G, f, m, h, hS, Ext.refl _ _⟩)
  | ret => intro K f m G a w h _ hS; exact wp_ret (.inl ⟨G, f, m, h, hS, Ext.refl _ _⟩)
  | _ => intro K f m G a w h; exact absurd h (by simp [aCode])
end
end Go.Proofs.YtepjjgnkhcjpcaaDoor
