/-
 Regions that draw their order, whose last operation comes behind all others: what it does to what is read before is no matter.
-/
-- halved
import Derived.Test.YtibhhoknipdlpaaAbFloat
set_option linter.unusedVariables false
set_option linter.unusedSimpArgs false
namespace Go.Proofs.Ytibhhoknipdlpaa
open Go Go.RowKit

section
variable {P : Program} {mu : List Nat} {n : Fi} {ds : List Deferred} {ops : Array Oper} {S : M → Prop} {K : F → M → Prop}

/-- The last operation. -/
def aLast (P : Program) (mu : List Nat) (ops : Array Oper) (K : F → M → Prop) (f : F) (m : M) : Prop :=
 match ops[ops.size - 1]? with
 | some o => o.guard = none ∧ aOp P mu noZ o f m fun v m' => K (F.put f o.dst v) m'
 | none => False
def endOk (ops : Array Oper) : Bool :=
 match ops[ops.size - 1]? with
 | some o => (List.range (ops.size - 1)).all fun k => (upOf ops (List.range (ops.size - 1)).reverse (edgesOf o)).contains k
 | none => false

theorem aLexE_anyU {Q : Exit → Act → World → Prop} (hend : endOk ops = true) (hsel0 : Region.noSelect ops = true) (hbd : ∀ (j : Nat) (o : Oper), ops[j]? = some o → dstB n o = true) :
    ∀ (fuel : Nat) (l : List Nat) (listed : Array Bool) {f : F} {m : M} {G : Ghost} {a : Act} {w : World}, SpecU mu ops listed → l.length + 1 = fuel → listed.size = ops.size → l.Pairwise (· < ·) → (∀ i, i ∈ l ↔ i + 1 < ops.size ∧ listed.getD i true = false) → listed.getD (ops.size - 1) true = false →
     (∀ j oj, ops[j]? = some oj → listed.getD j true = true → ∀ k ∈ edgesOf oj, listed.getD k true = true) →
     aLex P mu ops S (aLast P mu ops K) l f m → S m → St n ds G f m a w → (∀ f' m' G' a' w', K f' m' → St n ds G' f' m' a' w' → Ext G w G' w' → Q .normal a' w') → wpAny P .any ops Q fuel listed a w := by
 have hsel := fun (j : Nat) (o : Oper) cs b h => Region.noSelect_spec hsel0 j o cs b h
 intro fuel
 have hpos : 0 < ops.size := by
  unfold endOk at hend
  split at hend
  ·rename_i o ho
   have := (Array.getElem?_eq_some_iff.1 ho).1
   omega
  ·cases hend
 obtain ⟨oz, hoz⟩ : ∃ oz, ops[ops.size - 1]? = some oz := ⟨_, Array.getElem?_eq_getElem (by omega)⟩
 have hall : ∀ k, k + 1 < ops.size → k ∈ upOf ops (List.range (ops.size - 1)).reverse (edgesOf oz) := fun k hk => by
  unfold endOk at hend
  rw [hoz] at hend
  simp only [List.all_eq_true, List.mem_range, List.contains_iff_mem] at hend
  exact hend k (by omega)
 induction fuel with
 | zero => intro l listed f m G a w _ hlen; omega
 | succ fuel ih =>
  intro l listed f m G a w hspec hlen hsz hsort hmem huz hchain h hm hSt hQ
  refine ⟨fun h0 => ?_, fun i hi => ?_⟩
  ·
   exfalso
   cases l with
   | nil =>
    have : ops.size - 1 ∈ Region.ready .any ops listed := mem_ready.2 ⟨huz, oz, hoz, fun e he hb => by
     have hlt' := (hspec _ oz hoz huz).1 e he hb
     by_cases hl : listed.getD e.on true = true
     ·have : e.on < listed.size := by omega
      simpa [this] using hl
     ·have hin := (hmem e.on).2 ⟨by omega, by simpa using hl⟩
      cases hin⟩
    rw [h0] at this
    cases this
   | cons i l =>
    obtain ⟨hlt1, hun⟩ := (hmem i).1 (by simp)
    have hlt : i < ops.size := by omega
    have : i ∈ Region.ready .any ops listed := mem_ready.2 ⟨hun, ops[i], Array.getElem?_eq_getElem hlt, fun e he hb => by
     have hlt' := (hspec i ops[i] (Array.getElem?_eq_getElem hlt) hun).1 e he hb
     by_cases hl : listed.getD e.on true = true
     ·have : e.on < listed.size := by omega
      simpa [this] using hl
     ·have hin := (hmem e.on).2 ⟨by omega, by simpa using hl⟩
      rcases List.mem_cons.1 hin with e1 | e1
      ·omega
      ·have := (List.pairwise_cons.1 hsort).1 _ e1
       omega⟩
    rw [h0] at this
    cases this
  ·obtain ⟨hun, oi, hoi, hedges⟩ := mem_ready.1 hi
   have hlt : i < ops.size := (Array.getElem?_eq_some_iff.1 hoi).1
   by_cases hiz : i + 1 = ops.size
   ·
    obtain rfl : i = ops.size - 1 := by omega
    obtain rfl : oi = oz := by rw [hoi] at hoz; exact Option.some.inj hoz
    have hlisted : ∀ j, (∃ e ∈ oi.after, Region.binds .any e = true ∧ e.on = j) → listed.getD j true = true := fun j ⟨e, he, hb, hj⟩ => by
     have := hedges e he hb
     rw [hj] at this
     have hjl : j < listed.size := by
      rcases Nat.lt_or_ge j listed.size with h' | h'
      ·exact h'
      ·simp [Array.getElem?_eq_none h'] at this
     simpa [hjl] using this
    have hdone : ∀ k, k + 1 < ops.size → listed.getD k true = true := fun k hk =>
     upOf_closed (Q := fun j => listed.getD j true = true) hchain _ _ (fun k hk => hlisted k (mem_edgesOf.1 hk)) k (hall k hk)
    have hl0 : l = [] := by
     rw [List.eq_nil_iff_forall_not_mem]
     intro k hk
     obtain ⟨h1, h2⟩ := (hmem k).1 hk
     rw [hdone k h1] at h2
     cases h2
    subst hl0
    have hf0 : fuel = 0 := by simp at hlen; omega
    subst hf0
    simp only [aLex, aLast, hoi] at h
    unfold wpOp
    simp only [hoi]
    rw [if_pos (by simp [Region.wanted, h.1])]
    refine .inl (aOp_sound0 h.2 hSt (hbd _ oi hoi) (fun v m' G' y w' k1 k2 k3 => ⟨?_, hQ _ _ _ _ _ k1 k2 k3⟩))
    rw [List.eq_nil_iff_forall_not_mem]
    intro k hk
    obtain ⟨h1, o, h2, _⟩ := mem_ready.1 hk
    have hk1 := (Array.getElem?_eq_some_iff.1 h2).1
    by_cases hkz : k = ops.size - 1
    ·subst hkz
     have : ops.size - 1 < listed.size := by omega
     simp [this] at h1
    ·rw [getD_set_ne true (fun e => hkz e.symm), hdone k (by omega)] at h1
     cases h1
   have hil : i ∈ l := (hmem i).2 ⟨by omega, hun⟩
   obtain ⟨l1, l2, rfl⟩ := List.append_of_mem hil
   have hsort' := List.pairwise_append.1 hsort
   have hk1 : ∀ k ∈ l1, k < i := fun k hk => hsort'.2.2 k hk i (by simp)
   have hlisted : ∀ j, (∃ e ∈ oi.after, Region.binds .any e = true ∧ e.on = j) → listed.getD j true = true := fun j ⟨e, he, hb, hj⟩ => by
    have := hedges e he hb
    rw [hj] at this
    have hjl : j < listed.size := by
     rcases Nat.lt_or_ge j listed.size with h' | h'
     ·exact h'
     ·simp [Array.getElem?_eq_none h'] at this
    simpa [hjl] using this
   have hpair : ∀ k ∈ l1, OkPair mu ops k i := fun k hk ok oi' hokk hoi' => by
    rw [hoi] at hoi'; cases hoi'
    have hku : listed.getD k true = false := ((hmem k).1 (by simp [hk])).2
    rcases (hspec i oi hoi hun).2 k ok (hk1 k hk) hku hokk with h3 | ⟨h3, h4⟩ | h3
    ·rw [hlisted k h3] at hku; cases hku
    ·refine ⟨h3, fun q1 => ?_⟩
     cases q2 : isEff mu oi
     ·rfl
     ·exact absurd ⟨q1, q2⟩ h4
    ·have := upOf_closed (Q := fun j => listed.getD j true = true) hchain _ _ (fun k hk => ?_) k h3
     ·rw [this] at hku; cases hku
     ·exact hlisted k (mem_edgesOf.1 hk)
   have hrest : ∀ {f' : F} {m' : M} {G' : Ghost} {a' : Act} {w' : World}, aLex P mu ops S (aLast P mu ops K) (l1 ++ l2) f' m' → S m' → St n ds G' f' m' a' w' → Ext G w G' w' → wpAny P .any ops Q fuel (listed.setIfInBounds i true) a' w' := fun h' hm' hSt' hE => by
    refine ih (l1 ++ l2) (listed.setIfInBounds i true) (hspec.set i) (by simp at hlen ⊢; omega) (by simpa using hsz) ?_ ?_ (by rw [getD_set_ne true (show i ≠ ops.size - 1 by omega)]; exact huz) ?_ h' hm' hSt' (fun f'' m'' G'' a'' w'' k1 k2 k3 => hQ f'' m'' G'' a'' w'' k1 k2 (hE.trans k3))
    ·refine List.pairwise_append.2 ⟨hsort'.1, (List.pairwise_cons.1 hsort'.2.1).2, fun x hx y hy => hsort'.2.2 x hx y (by simp [hy])⟩
    ·intro j
     have hjm := hmem j
     by_cases hji : i = j
     ·subst hji
      have hnot1 : i ∉ l1 := fun hx => absurd (hk1 i hx) (Nat.lt_irrefl _)
      have hnot2 : i ∉ l2 := fun hx => absurd ((List.pairwise_cons.1 hsort'.2.1).1 i hx) (Nat.lt_irrefl _)
      refine ⟨fun hx => ?_, fun ⟨_, hx⟩ => ?_⟩
      ·rcases List.mem_append.1 hx with hx | hx
       ·exact absurd hx hnot1
       ·exact absurd hx hnot2
      ·have : i < listed.size := by omega
       simp [this] at hx
     ·rw [getD_set_ne true hji, ← hjm]
      simp [Ne.symm hji]
    ·intro j oj hoj hj k hk
     have keep : ∀ k, listed.getD k true = true → (listed.setIfInBounds i true).getD k true = true := fun k hk => by
      by_cases hki : i = k
      ·subst hki
       have : i < listed.size := by omega
       simp [this]
      ·rw [getD_set_ne true hki]; exact hk
     by_cases hji : i = j
     ·subst hji
      rw [hoi] at hoj; cases hoj
      exact keep k (hlisted k (mem_edgesOf.1 hk))
     ·rw [getD_set_ne true hji] at hj
      exact keep k (hchain j oj hoj hj k hk)
   have hbi := hbd i oi hoi
   unfold wpOp
   simp only [hoi]
   by_cases he : isEff mu oi = true
   ·have h' := aLex_pull hsel hoi he l1 l2 hpair h hm
    simp only [aLex, hoi] at h'
    rcases aG_cases h' with ⟨hg, hx⟩ | ⟨j, want, b, hg, hgu, hx⟩
    ·rw [if_pos he] at hx
     rw [if_pos (by simp [Region.wanted, hg])]
     exact .inl (aOp_sound0 hx hSt hbi (fun v m' G' y w' k1 k2 k3 => hrest k1.2 k1.1 k2 k3))
    ·have hw := guardA_spec hSt.fr hg hgu
     cases b
     ·rw [if_neg (by simp [hw])]
      exact hrest (by simpa using hx) hm (hSt.put hbi (.tp [] [] rfl (fun j h => by simp at h)) hSt.inv (Ext.refl _ _)) (Ext.refl _ _)
     ·simp only [if_true] at hx
      rw [if_pos he] at hx
      rw [if_pos hw]
      exact .inl (aOp_sound0 hx hSt hbi (fun v m' G' y w' k1 k2 k3 => hrest k1.2 k1.1 k2 k3))
   ·have he' : isEff mu oi = false := by simpa using he
    have hpk := aLex_peek hsel hbd hoi he' l1 l2 hpair h hm hSt
    rcases aG_cases hpk with ⟨hg, v, hv⟩ | ⟨j, want, b, hg, hgu, hx⟩
    ·rw [if_pos (by simp [Region.wanted, hg])]
     refine .inl (aOp_sound0 (aQuiet_op (K' := fun v' m' => v' = v ∧ m' = m) hm hv ⟨rfl, rfl⟩) hSt hbi (fun v' m' G' y w' k1 k2 k3 => ?_))
     obtain ⟨rfl, rfl⟩ := k1
     exact hrest (aLex_erase hsel hoi he' l1 l2 hpair h hm (.inl ⟨hg, hv⟩)) hm k2 k3
    ·have hw := guardA_spec hSt.fr hg hgu
     cases b
     ·rw [if_neg (by simp [hw])]
      exact hrest (aLex_erase hsel hoi he' l1 l2 hpair h hm (.inr ⟨j, want, false, hg, hgu, by simp⟩)) hm (hSt.put hbi (.tp [] [] rfl (fun j h => by simp at h)) hSt.inv (Ext.refl _ _)) (Ext.refl _ _)
     ·simp only [if_true] at hx
      obtain ⟨v, hv⟩ := hx
      rw [if_pos hw]
      refine .inl (aOp_sound0 (aQuiet_op (K' := fun v' m' => v' = v ∧ m' = m) hm hv ⟨rfl, rfl⟩) hSt hbi (fun v' m' G' y w' k1 k2 k3 => ?_))
      obtain ⟨rfl, rfl⟩ := k1
      exact hrest (aLex_erase hsel hoi he' l1 l2 hpair h hm (.inr ⟨j, want, true, hg, hgu, by simpa using hv⟩)) hm k2 k3
theorem aLexE_any {Q : Exit → Act → World → Prop} (hend : endOk ops = true) (hok : lexOk mu ops = true) (hbd : ∀ (j : Nat) (o : Oper), ops[j]? = some o → dstB n o = true) :
    ∀ (fuel : Nat) (l : List Nat) (listed : Array Bool) {f : F} {m : M} {G : Ghost} {a : Act} {w : World}, l.length + 1 = fuel → listed.size = ops.size → l.Pairwise (· < ·) → (∀ i, i ∈ l ↔ i + 1 < ops.size ∧ listed.getD i true = false) → listed.getD (ops.size - 1) true = false →
     (∀ j oj, ops[j]? = some oj → listed.getD j true = true → ∀ k ∈ edgesOf oj, listed.getD k true = true) →
     aLex P mu ops S (aLast P mu ops K) l f m → S m → St n ds G f m a w → (∀ f' m' G' a' w', K f' m' → St n ds G' f' m' a' w' → Ext G w G' w' → Q .normal a' w') → wpAny P .any ops Q fuel listed a w := by
 obtain ⟨hsel0, hspec⟩ := lexOk_spec hok
 intro fuel l listed f m G a w
 exact aLexE_anyU hend hsel0 hbd fuel l listed (fun i oi hi _ => ⟨(hspec i oi hi).1, fun k ok hk _ => (hspec i oi hi).2 k ok hk⟩)
end
end Go.Proofs.Ytibhhoknipdlpaa
