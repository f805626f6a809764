/-
 Texts that belong together: AbDrZ, AbEnZ, AbEnP.
-/
-- halved
import Derived.Test.YthhhnfjcaicjnaaGreatDoorDwA
import Derived.Test.YthhhnfjcaicjnaaGreatDoorEnA
set_option linter.unusedVariables false
set_option linter.unusedSimpArgs false
namespace Go.Proofs.YthhhnfjcaicjnaaGreatDoor
open Go Go.RowKit

def isMove (o : Oper) : Bool := o.guard.isNone && (match o.op with
 | .move _ => true
 | _ => false)
def behind (ops : Array Oper) (k : Nat) : Bool := (List.range ops.size).all fun j => decide (j ≤ k) || (match ops[j]? with
 | none => true
 | some oj => isMove oj || (upOf ops (List.range j).reverse (edgesOf oj)).contains k)
def zOf (Z : PV → M → Prop) (ops : Array Oper) (k : Nat) : PV → M → Prop := if behind ops k then Z else noZ
def aLexZ (P : Program) (mu : List Nat) (Z : PV → M → Prop) (ops : Array Oper) (S : M → Prop) (K : F → M → Prop) : List Nat → F → M → Prop
 | [], f, m => K f m
 | i :: rest, f, m => match ops[i]? with
  | none => False
  | some o => aG ops o f
      (if isEff mu o then aOp P mu (zOf Z ops i) o f m fun v m' => S m' ∧ aLexZ P mu Z ops S K rest (F.put f o.dst v) m' else ∃ v, aQuiet P mu o f S v ∧ aLexZ P mu Z ops S K rest (F.put f o.dst v) m)
      (aLexZ P mu Z ops S K rest (F.put f o.dst (.tp [])) m)

section
variable {P : Program} {mu : List Nat} {n : Fi} {ds : List Deferred} {ops : Array Oper} {S : M → Prop} {K : F → M → Prop} {Z : PV → M → Prop}
theorem apart_opZ {o o' : Oper} (hsel : ∀ cs b, o'.op ≠ .select cs b) (h : o.apart ops o' = true) (f : F) (u : PV) (m : M) (Z : PV → M → Prop) (K : PV → M → Prop) : aOp P mu Z o' (F.put f o.dst u) m K ↔ aOp P mu Z o' f m K := by
 unfold aOp
 rw [apart_step hsel h]
def OkPairZ (mu : List Nat) (ops : Array Oper) (k i : Nat) : Prop :=
 ∀ ok oi, ops[k]? = some ok → ops[i]? = some oi → (ok.apart ops oi = true ∧ (isEff mu ok = true → isEff mu oi = false)) ∧ (behind ops k = false ∨ isMove oi = true)
theorem isMove_quiet {P : Program} {mu : List Nat} {S : M → Prop} {o : Oper} (h : isMove o = true) (f : F) : o.guard = none ∧ ∃ v, aQuiet P mu o f S v := by
 unfold isMove at h
 simp only [Bool.and_eq_true] at h
 obtain ⟨h1, h2⟩ := h
 have hgn : o.guard = none := by
  cases hg : o.guard with
  | none => rfl
  | some x => rw [hg] at h1; cases h1
 refine ⟨hgn, ?_⟩
 cases ho : o.op with
 | move x => exact ⟨ev f x, fun m _ => ⟨True, by rw [ho]; rfl, trivial⟩⟩
 | _ => rw [ho] at h2; cases h2
theorem aLexZ_peek (hsel : ∀ (j : Nat) (o : Oper) cs b, ops[j]? = some o → o.op ≠ .select cs b) (hbd : ∀ (j : Nat) (o : Oper), ops[j]? = some o → dstB n o = true) {i : Nat} {oi : Oper} (hi : ops[i]? = some oi) (hne : isEff mu oi = false) :
    ∀ (l1 l2 : List Nat) {f : F} {m : M} {G : Ghost} {a : Act} {w : World}, (∀ k ∈ l1, OkPairZ mu ops k i) → aLexZ P mu Z ops S K (l1 ++ i :: l2) f m → S m → St n ds G f m a w →
     aG ops oi f (∃ v, aQuiet P mu oi f S v) True
 | [], l2, f, m, G, a, w, _, h, _, _ => by
  simp only [List.nil_append, aLexZ, hi] at h
  rcases aG_cases h with ⟨hg, hx⟩ | ⟨j, want, b, hg, hgu, hx⟩
  ·rw [if_neg (by simp [hne])] at hx
   obtain ⟨v, hv, _⟩ := hx
   exact aG_mk (.inl ⟨hg, v, hv⟩)
  ·refine aG_mk (.inr ⟨j, want, b, hg, hgu, ?_⟩)
   cases b
   ·simp
   ·simp only [if_true, hne, Bool.false_eq_true, if_false] at hx ⊢
    obtain ⟨v, hv, _⟩ := hx
    exact ⟨v, hv⟩
 | k :: l1, l2, f, m, G, a, w, hp, h, hm, hSt => by
  simp only [List.cons_append, aLexZ] at h
  cases hk : ops[k]? with
  | none => simp [hk] at h
  | some ok =>
   simp only [hk] at h
   have hap := (hp k (by simp) ok oi hk hi).1.1
   by_cases hmv : isMove oi = true
   ·obtain ⟨hg, hv⟩ := isMove_quiet (P := P) (mu := mu) (S := S) hmv f
    exact aG_mk (.inl ⟨hg, hv⟩)
   have hbk := (hp k (by simp) ok oi hk hi).2.resolve_right hmv
   have back : ∀ (u : PV), aG ops oi (F.put f ok.dst u) (∃ v, aQuiet P mu oi (F.put f ok.dst u) S v) True → aG ops oi f (∃ v, aQuiet P mu oi f S v) True := fun u hh => by
    rcases aG_cases hh with ⟨hg, v, hv⟩ | ⟨j, want, b, hg, hgu, hx⟩
    ·exact aG_mk (.inl ⟨hg, v, (apart_quiet (fun cs b => hsel i oi cs b hi) hap f u).1 hv⟩)
    ·rw [apart_guard hap f u hg] at hgu
     refine aG_mk (.inr ⟨j, want, b, hg, hgu, ?_⟩)
     cases b
     ·simp
     ·simp only [if_true] at hx ⊢
      obtain ⟨v, hv⟩ := hx
      exact ⟨v, (apart_quiet (fun cs b => hsel i oi cs b hi) hap f u).1 hv⟩
   have rest := fun {f : F} {m : M} {G : Ghost} {a : Act} {w : World} => aLexZ_peek hsel hbd hi hne l1 l2 (f := f) (m := m) (G := G) (a := a) (w := w) (fun k hk => hp k (by simp [hk]))
   have body : (if isEff mu ok then aOp P mu (zOf Z ops k) ok f m fun v m' => S m' ∧ aLexZ P mu Z ops S K (l1 ++ i :: l2) (F.put f ok.dst v) m' else ∃ v, aQuiet P mu ok f S v ∧ aLexZ P mu Z ops S K (l1 ++ i :: l2) (F.put f ok.dst v) m) →
       aG ops oi f (∃ v, aQuiet P mu oi f S v) True := fun hx => by
    by_cases he : isEff mu ok = true
    ·rw [if_pos he] at hx
     have hzk : zOf Z ops k = noZ := by simp [zOf, hbk]
     rw [hzk] at hx
     obtain ⟨v, m', G', a', w', ⟨hs', hl⟩, hSt'⟩ := aOp_some hx hSt (hbd k ok hk)
     exact back v (rest hl hs' hSt')
    ·rw [if_neg he] at hx
     obtain ⟨v, hv, hl⟩ := hx
     obtain ⟨_, m', G', a', w', ⟨rfl, rfl⟩, hSt'⟩ := aOp_some (aQuiet_op (K' := fun v' m' => v' = v ∧ m' = m) hm hv ⟨rfl, rfl⟩) hSt (hbd k ok hk)
     exact back _ (rest hl hm hSt')
   rcases aG_cases h with ⟨hg, hx⟩ | ⟨j, want, b, hg, hgu, hx⟩
   ·exact body hx
   ·cases b
    ·have hSt' := hSt.put (o := ok) (hbd k ok hk) (.tp [] [] rfl (fun j h => by simp at h)) hSt.inv (Ext.refl _ _)
     exact back _ (rest (by simpa using hx) hm hSt')
    ·exact body (by simpa using hx)

theorem aLexZ_erase (hsel : ∀ (j : Nat) (o : Oper) cs b, ops[j]? = some o → o.op ≠ .select cs b) {i : Nat} {oi : Oper} (hi : ops[i]? = some oi) (hne : isEff mu oi = false) {u : PV} :
    ∀ (l1 l2 : List Nat) {f : F} {m : M}, (∀ k ∈ l1, OkPairZ mu ops k i) → aLexZ P mu Z ops S K (l1 ++ i :: l2) f m → S m →
     ((oi.guard = none ∧ aQuiet P mu oi f S u) ∨ ∃ j want b, oi.guard = some (j, want) ∧ guardA ops f j want = some b ∧ (if b = true then aQuiet P mu oi f S u else u = .tp [])) → aLexZ P mu Z ops S K (l1 ++ l2) (F.put f oi.dst u) m
 | [], l2, f, m, _, h, hm, hu => by
  simp only [List.nil_append, aLexZ, hi] at h
  rw [List.nil_append]
  rcases aG_cases h with ⟨hg, hx⟩ | ⟨j, want, b, hg, hgu, hx⟩
  ·rcases hu with ⟨_, hu⟩ | ⟨j', want', b', hg', _⟩
   ·rw [if_neg (by simp [hne])] at hx
    obtain ⟨v, hv, hl⟩ := hx
    rwa [aQuiet_unique hm hu hv]
   ·rw [hg] at hg'; cases hg'
  ·rcases hu with ⟨hg', _⟩ | ⟨j', want', b', hg', hgu', hu⟩
   ·rw [hg] at hg'; cases hg'
   ·rw [hg] at hg'; cases hg'
    rw [hgu] at hgu'; cases hgu'
    cases b
    ·simp only [Bool.false_eq_true, if_false] at hx hu
     rw [hu]; exact hx
    ·simp only [if_true, hne, Bool.false_eq_true, if_false] at hx hu
     obtain ⟨v, hv, hl⟩ := hx
     rwa [aQuiet_unique hm hu hv]
 | k :: l1, l2, f, m, hp, h, hm, hu => by
  simp only [List.cons_append, aLexZ] at h ⊢
  cases hk : ops[k]? with
  | none => simp [hk] at h
  | some ok =>
   simp only [hk] at h ⊢
   have hap := (hp k (by simp) ok oi hk hi).1.1
   have hbk := (hp k (by simp) ok oi hk hi).2
   have hap' := apart_symm hap
   obtain ⟨_, hdd, _⟩ := Oper.apart_spec hap
   have hsk := fun cs b => hsel k ok cs b hk
   have hsi := fun cs b => hsel i oi cs b hi
   have carry : ∀ (z : PV), ((oi.guard = none ∧ aQuiet P mu oi (F.put f ok.dst z) S u) ∨ ∃ j want b, oi.guard = some (j, want) ∧ guardA ops (F.put f ok.dst z) j want = some b ∧ (if b = true then aQuiet P mu oi (F.put f ok.dst z) S u else u = .tp [])) := fun z => by
    rcases hu with ⟨hg, hu⟩ | ⟨j, want, b, hg, hgu, hu⟩
    ·exact .inl ⟨hg, (apart_quiet hsi hap f z).2 hu⟩
    ·refine .inr ⟨j, want, b, hg, (apart_guard hap f z hg).trans hgu, ?_⟩
     cases b
     ·simpa using hu
     ·simp only [if_true] at hu ⊢
      exact (apart_quiet hsi hap f z).2 hu
   have rest := fun {z : PV} {m : M} (hl : aLexZ P mu Z ops S K (l1 ++ i :: l2) (F.put f ok.dst z) m) (hm : S m) => aLexZ_erase hsel hi hne l1 l2 (fun k hk => hp k (by simp [hk])) hl hm (carry z)
   have comm : ∀ z, F.put (F.put f ok.dst z) oi.dst u = F.put (F.put f oi.dst u) ok.dst z := fun z => F.put_comm f z u (fun d hd => by have := hdd d hd; exact this)
   have body : (if isEff mu ok then aOp P mu (zOf Z ops k) ok f m fun v m' => S m' ∧ aLexZ P mu Z ops S K (l1 ++ i :: l2) (F.put f ok.dst v) m' else ∃ v, aQuiet P mu ok f S v ∧ aLexZ P mu Z ops S K (l1 ++ i :: l2) (F.put f ok.dst v) m) →
       (if isEff mu ok then aOp P mu (zOf Z ops k) ok (F.put f oi.dst u) m fun v m' => S m' ∧ aLexZ P mu Z ops S K (l1 ++ l2) (F.put (F.put f oi.dst u) ok.dst v) m' else ∃ v, aQuiet P mu ok (F.put f oi.dst u) S v ∧ aLexZ P mu Z ops S K (l1 ++ l2) (F.put (F.put f oi.dst u) ok.dst v) m) := fun hx => by
    by_cases he : isEff mu ok = true
    ·rw [if_pos he] at hx ⊢
     refine (apart_opZ hsk hap' f u m _ _).2 (aOp_mono hx fun v m' ⟨hs', hl⟩ => ⟨hs', ?_⟩)
     rw [← comm]
     exact rest hl hs'
    ·rw [if_neg he] at hx ⊢
     obtain ⟨v, hv, hl⟩ := hx
     refine ⟨v, (apart_quiet hsk hap' f u).2 hv, ?_⟩
     rw [← comm]
     exact rest hl hm
   rcases aG_cases h with ⟨hg, hx⟩ | ⟨j, want, b, hg, hgu, hx⟩
   ·exact aG_mk (.inl ⟨hg, body hx⟩)
   ·refine aG_mk (.inr ⟨j, want, b, hg, (apart_guard hap' f u hg).trans hgu, ?_⟩)
    cases b
    ·simp only [Bool.false_eq_true, if_false] at hx ⊢
     rw [← comm]
     exact rest hx hm
    ·simp only [if_true] at hx ⊢
     exact body hx
theorem aLexZ_pull (hsel : ∀ (j : Nat) (o : Oper) cs b, ops[j]? = some o → o.op ≠ .select cs b) {i : Nat} {oi : Oper} (hi : ops[i]? = some oi) (heff : isEff mu oi = true) :
    ∀ (l1 l2 : List Nat) {f : F} {m : M}, (∀ k ∈ l1, OkPairZ mu ops k i) → aLexZ P mu Z ops S K (l1 ++ i :: l2) f m → S m → aLexZ P mu Z ops S K (i :: (l1 ++ l2)) f m
 | [], l2, f, m, _, h, _ => h
 | k :: l1, l2, f, m, hp, h, hm => by
  simp only [List.cons_append, aLexZ] at h
  cases hk : ops[k]? with
  | none => simp [hk] at h
  | some ok =>
   simp only [hk] at h
   obtain ⟨⟨hap, hek⟩, hbk⟩ := hp k (by simp) ok oi hk hi
   have hap' := apart_symm hap
   obtain ⟨_, hdd, _⟩ := Oper.apart_spec hap
   have hsk := fun cs b => hsel k ok cs b hk
   have hsi := fun cs b => hsel i oi cs b hi
   have hne : isEff mu ok = false := by
    cases q : isEff mu ok
    ·rfl
    ·rw [hek q] at heff; cases heff
   have comm : ∀ z u, F.put (F.put f ok.dst z) oi.dst u = F.put (F.put f oi.dst u) ok.dst z := fun z u => F.put_comm f z u (fun d hd => hdd d hd)
   have rest := fun {z : PV} (hl : aLexZ P mu Z ops S K (l1 ++ i :: l2) (F.put f ok.dst z) m) => aLexZ_pull hsel hi heff l1 l2 (fun k hk => hp k (by simp [hk])) hl hm
   have tail : ∀ (z u : PV) (m' : M), (ok.guard = none ∧ aQuiet P mu ok f S z ∨ ∃ j want b, ok.guard = some (j, want) ∧ guardA ops f j want = some b ∧ (if b = true then aQuiet P mu ok f S z else z = .tp [])) →
       aLexZ P mu Z ops S K (l1 ++ l2) (F.put (F.put f ok.dst z) oi.dst u) m' → aLexZ P mu Z ops S K (k :: (l1 ++ l2)) (F.put f oi.dst u) m' := fun z u m' hz hl => by
    simp only [aLexZ, hk]
    rw [comm] at hl
    rcases hz with ⟨hg, hz⟩ | ⟨j, want, b, hg, hgu, hz⟩
    ·refine aG_mk (.inl ⟨hg, ?_⟩)
     rw [if_neg (by simp [hne])]
     exact ⟨z, (apart_quiet hsk hap' f u).2 hz, hl⟩
    ·refine aG_mk (.inr ⟨j, want, b, hg, (apart_guard hap' f u hg).trans hgu, ?_⟩)
     cases b
     ·simp only [Bool.false_eq_true, if_false] at hz ⊢
      rw [hz] at hl
      exact hl
     ·simp only [if_true] at hz ⊢
      rw [if_neg (by simp [hne])]
      exact ⟨z, (apart_quiet hsk hap' f u).2 hz, hl⟩
   have body : ∀ z, (ok.guard = none ∧ aQuiet P mu ok f S z ∨ ∃ j want b, ok.guard = some (j, want) ∧ guardA ops f j want = some b ∧ (if b = true then aQuiet P mu ok f S z else z = .tp [])) →
       aLexZ P mu Z ops S K (l1 ++ i :: l2) (F.put f ok.dst z) m → aLexZ P mu Z ops S K (i :: (k :: l1 ++ l2)) f m := fun z hz hl => by
    have h1 := rest hl
    simp only [aLexZ, hi] at h1
    rw [show k :: l1 ++ l2 = k :: (l1 ++ l2) from rfl]
    rw [aLexZ]
    simp only [hi]
    rcases aG_cases h1 with ⟨hg, hx⟩ | ⟨j, want, b, hg, hgu, hx⟩
    ·refine aG_mk (.inl ⟨hg, ?_⟩)
     rw [if_pos heff] at hx ⊢
     exact aOp_mono ((apart_opZ hsi hap f z m _ _).1 hx) fun v m' ⟨hs', hl'⟩ => ⟨hs', tail z v m' hz hl'⟩
    ·refine aG_mk (.inr ⟨j, want, b, hg, (apart_guard hap f z hg).symm.trans hgu, ?_⟩)
     cases b
     ·simp only [Bool.false_eq_true, if_false] at hx ⊢
      exact tail z _ m hz hx
     ·simp only [if_true] at hx ⊢
      rw [if_pos heff] at hx ⊢
      exact aOp_mono ((apart_opZ hsi hap f z m _ _).1 hx) fun v m' ⟨hs', hl'⟩ => ⟨hs', tail z v m' hz hl'⟩
   rcases aG_cases h with ⟨hg, hx⟩ | ⟨j, want, b, hg, hgu, hx⟩
   ·rw [if_neg (by simp [hne])] at hx
    obtain ⟨v, hv, hl⟩ := hx
    exact body v (.inl ⟨hg, hv⟩) hl
   ·cases b
    ·exact body (.tp []) (.inr ⟨j, want, false, hg, hgu, by simp⟩) (by simpa using hx)
    ·simp only [if_true] at hx
     rw [if_neg (by simp [hne])] at hx
     obtain ⟨v, hv, hl⟩ := hx
     exact body v (.inr ⟨j, want, true, hg, hgu, by simpa using hv⟩) hl

theorem aLexZ_anyU {Q : Exit → Act → World → Prop} (hsel0 : Region.noSelect ops = true) (hbd : ∀ (j : Nat) (o : Oper), ops[j]? = some o → dstB n o = true) :
    ∀ (fuel : Nat) (l : List Nat) (listed : Array Bool) {f : F} {m : M} {G : Ghost} {a : Act} {w : World}, SpecU mu ops listed → l.length = fuel → listed.size = ops.size → l.Pairwise (· < ·) → (∀ i, i ∈ l ↔ i < ops.size ∧ listed.getD i true = false) →
     (∀ j oj, ops[j]? = some oj → listed.getD j true = true → ∀ k ∈ edgesOf oj, listed.getD k true = true) →
     aLexZ P mu Z ops S K l f m → S m → St n ds G f m a w → ZQ Z n ds G w Q → (∀ f' m' G' a' w', K f' m' → S m' → St n ds G' f' m' a' w' → Ext G w G' w' → Q .normal a' w') → wpAny P .any ops Q fuel listed a w := by
 have hsel := fun (j : Nat) (o : Oper) cs b h => Region.noSelect_spec hsel0 j o cs b h
 intro fuel
 have hready0 : ∀ (l : List Nat) (listed : Array Bool), listed.size = ops.size → (∀ i, i ∈ l ↔ i < ops.size ∧ listed.getD i true = false) → l = [] → Region.ready .any ops listed = [] := fun l listed hsz hmem hl => by
  rw [List.eq_nil_iff_forall_not_mem]
  intro i hi
  obtain ⟨h1, o, h2, _⟩ := mem_ready.1 hi
  have := (hmem i).2 ⟨(Array.getElem?_eq_some_iff.1 h2).1, h1⟩
  rw [hl] at this
  cases this
 induction fuel with
 | zero =>
  intro l listed f m G a w _ hlen hsz _ hmem _ h hm hSt hZ hQ
  have hl : l = [] := List.eq_nil_of_length_eq_zero hlen
  subst hl
  exact ⟨hready0 [] listed hsz hmem rfl, hQ f m G a w h hm hSt (Ext.refl _ _)⟩
 | succ fuel ih =>
  intro l listed f m G a w hspec hlen hsz hsort hmem hchain h hm hSt hZ hQ
  refine ⟨fun h0 => ?_, fun i hi => ?_⟩
  ·
   exfalso
   cases l with
   | nil => simp at hlen
   | cons i l =>
    obtain ⟨hlt, hun⟩ := (hmem i).1 (by simp)
    have : i ∈ Region.ready .any ops listed := mem_ready.2 ⟨hun, ops[i], Array.getElem?_eq_getElem hlt, fun e he hb => by
     have hlt' := (hspec i ops[i] (Array.getElem?_eq_getElem hlt) hun).1 e he hb
     by_cases hl : listed.getD e.on true = true
     ·have : e.on < listed.size := by omega
      simpa [this] using hl
     ·have hin := (hmem e.on).2 ⟨by omega, by simpa using hl⟩
      rcases List.mem_cons.1 hin with e1 | e1
      ·omega
      ·have := (List.pairwise_cons.1 hsort).1 _ e1
       omega⟩
    rw [h0] at this
    cases this
  ·obtain ⟨hun, oi, hoi, hedges⟩ := mem_ready.1 hi
   have hlt : i < ops.size := (Array.getElem?_eq_some_iff.1 hoi).1
   have hil : i ∈ l := (hmem i).2 ⟨hlt, hun⟩
   obtain ⟨l1, l2, rfl⟩ := List.append_of_mem hil
   have hsort' := List.pairwise_append.1 hsort
   have hk1 : ∀ k ∈ l1, k < i := fun k hk => hsort'.2.2 k hk i (by simp)
   have hlisted : ∀ j, (∃ e ∈ oi.after, Region.binds .any e = true ∧ e.on = j) → listed.getD j true = true := fun j ⟨e, he, hb, hj⟩ => by
    have := hedges e he hb
    rw [hj] at this
    have hjl : j < listed.size := by
     rcases Nat.lt_or_ge j listed.size with h' | h'
     ·exact h'
     ·simp [Array.getElem?_eq_none h'] at this
    simpa [hjl] using this
   have hclosed : ∀ k, k ∈ upOf ops (List.range i).reverse (edgesOf oi) → listed.getD k true = true := fun k h3 => upOf_closed (Q := fun j => listed.getD j true = true) hchain _ _ (fun k hk => hlisted k (mem_edgesOf.1 hk)) k h3
   have hpair : ∀ k ∈ l1, OkPairZ mu ops k i := fun k hk ok oi' hokk hoi' => by
    rw [hoi] at hoi'; cases hoi'
    have hku : listed.getD k true = false := ((hmem k).1 (by simp [hk])).2
    refine ⟨?_, ?_⟩
    rotate_left
    ·cases hbk : behind ops k
     ·exact .inl rfl
     ·unfold behind at hbk
      have := List.all_eq_true.1 hbk i (by simpa using hlt)
      simp only [hoi, Bool.or_eq_true, decide_eq_true_eq] at this
      rcases this with h5 | h5 | h5
      ·have := hk1 k hk; omega
      ·exact .inr h5
      ·rw [hclosed k (by simpa using h5)] at hku; cases hku
    rcases (hspec i oi hoi hun).2 k ok (hk1 k hk) hku hokk with h3 | ⟨h3, h4⟩ | h3
    ·rw [hlisted k h3] at hku; cases hku
    ·refine ⟨h3, fun q1 => ?_⟩
     cases q2 : isEff mu oi
     ·rfl
     ·exact absurd ⟨q1, q2⟩ h4
    ·have := upOf_closed (Q := fun j => listed.getD j true = true) hchain _ _ (fun k hk => ?_) k h3
     ·rw [this] at hku; cases hku
     ·exact hlisted k (mem_edgesOf.1 hk)
   have hrest : ∀ {f' : F} {m' : M} {G' : Ghost} {a' : Act} {w' : World}, aLexZ P mu Z ops S K (l1 ++ l2) f' m' → S m' → St n ds G' f' m' a' w' → Ext G w G' w' → wpAny P .any ops Q fuel (listed.setIfInBounds i true) a' w' := fun h' hm' hSt' hE => by
    refine ih (l1 ++ l2) (listed.setIfInBounds i true) (hspec.set i) (by simp at hlen ⊢; omega) (by simpa using hsz) ?_ ?_ ?_ h' hm' hSt' (hZ.ext hE) (fun f'' m'' G'' a'' w'' k1 k2 k3 k4 => hQ f'' m'' G'' a'' w'' k1 k2 k3 (hE.trans k4))
    ·refine List.pairwise_append.2 ⟨hsort'.1, (List.pairwise_cons.1 hsort'.2.1).2, fun x hx y hy => hsort'.2.2 x hx y (by simp [hy])⟩
    ·intro j
     have hjm := hmem j
     by_cases hji : i = j
     ·subst hji
      have hnot1 : i ∉ l1 := fun hx => absurd (hk1 i hx) (Nat.lt_irrefl _)
      have hnot2 : i ∉ l2 := fun hx => absurd ((List.pairwise_cons.1 hsort'.2.1).1 i hx) (Nat.lt_irrefl _)
      refine ⟨fun hx => ?_, fun ⟨_, hx⟩ => ?_⟩
      ·rcases List.mem_append.1 hx with hx | hx
       ·exact absurd hx hnot1
       ·exact absurd hx hnot2
      ·have : i < listed.size := by omega
       simp [this] at hx
     ·rw [getD_set_ne true hji, ← hjm]
      simp [Ne.symm hji]
    ·intro j oj hoj hj k hk
     have keep : ∀ k, listed.getD k true = true → (listed.setIfInBounds i true).getD k true = true := fun k hk => by
      by_cases hki : i = k
      ·subst hki
       have : i < listed.size := by omega
       simp [this]
      ·rw [getD_set_ne true hki]; exact hk
     by_cases hji : i = j
     ·subst hji
      rw [hoi] at hoj; cases hoj
      exact keep k (hlisted k (mem_edgesOf.1 hk))
     ·rw [getD_set_ne true hji] at hj
      exact keep k (hchain j oj hoj hj k hk)
   have hbi := hbd i oi hoi
   have hZi : ZQ (zOf Z ops i) n ds G w Q := by
    unfold zOf
    split
    ·exact hZ
    ·exact ZQ.no
   unfold wpOp
   simp only [hoi]
   by_cases he : isEff mu oi = true
   ·have h' := aLexZ_pull hsel hoi he l1 l2 hpair h hm
    simp only [aLexZ, hoi] at h'
    rcases aG_cases h' with ⟨hg, hx⟩ | ⟨j, want, b, hg, hgu, hx⟩
    ·rw [if_pos he] at hx
     rw [if_pos (by simp [Region.wanted, hg])]
     exact .inl (aOp_sound hx hSt hbi (fun v m' G' y w' k1 k2 k3 => hrest k1.2 k1.1 k2 k3) hZi)
    ·have hw := guardA_spec hSt.fr hg hgu
     cases b
     ·rw [if_neg (by simp [hw])]
      exact hrest (by simpa using hx) hm (hSt.put hbi (.tp [] [] rfl (fun j h => by simp at h)) hSt.inv (Ext.refl _ _)) (Ext.refl _ _)
     ·simp only [if_true] at hx
      rw [if_pos he] at hx
      rw [if_pos hw]
      exact .inl (aOp_sound hx hSt hbi (fun v m' G' y w' k1 k2 k3 => hrest k1.2 k1.1 k2 k3) hZi)
   ·have he' : isEff mu oi = false := by simpa using he
    have hpk := aLexZ_peek hsel hbd hoi he' l1 l2 hpair h hm hSt
    rcases aG_cases hpk with ⟨hg, v, hv⟩ | ⟨j, want, b, hg, hgu, hx⟩
    ·rw [if_pos (by simp [Region.wanted, hg])]
     refine .inl (aOp_sound0 (aQuiet_op (K' := fun v' m' => v' = v ∧ m' = m) hm hv ⟨rfl, rfl⟩) hSt hbi (fun v' m' G' y w' k1 k2 k3 => ?_))
     obtain ⟨rfl, rfl⟩ := k1
     exact hrest (aLexZ_erase hsel hoi he' l1 l2 hpair h hm (.inl ⟨hg, hv⟩)) hm k2 k3
    ·have hw := guardA_spec hSt.fr hg hgu
     cases b
     ·rw [if_neg (by simp [hw])]
      exact hrest (aLexZ_erase hsel hoi he' l1 l2 hpair h hm (.inr ⟨j, want, false, hg, hgu, by simp⟩)) hm (hSt.put hbi (.tp [] [] rfl (fun j h => by simp at h)) hSt.inv (Ext.refl _ _)) (Ext.refl _ _)
     ·simp only [if_true] at hx
      obtain ⟨v, hv⟩ := hx
      rw [if_pos hw]
      refine .inl (aOp_sound0 (aQuiet_op (K' := fun v' m' => v' = v ∧ m' = m) hm hv ⟨rfl, rfl⟩) hSt hbi (fun v' m' G' y w' k1 k2 k3 => ?_))
      obtain ⟨rfl, rfl⟩ := k1
      exact hrest (aLexZ_erase hsel hoi he' l1 l2 hpair h hm (.inr ⟨j, want, true, hg, hgu, by simpa using hv⟩)) hm k2 k3
theorem aLexZ_any {Q : Exit → Act → World → Prop} (hok : lexOk mu ops = true) (hbd : ∀ (j : Nat) (o : Oper), ops[j]? = some o → dstB n o = true) :
    ∀ (fuel : Nat) (l : List Nat) (listed : Array Bool) {f : F} {m : M} {G : Ghost} {a : Act} {w : World}, l.length = fuel → listed.size = ops.size → l.Pairwise (· < ·) → (∀ i, i ∈ l ↔ i < ops.size ∧ listed.getD i true = false) →
     (∀ j oj, ops[j]? = some oj → listed.getD j true = true → ∀ k ∈ edgesOf oj, listed.getD k true = true) →
     aLexZ P mu Z ops S K l f m → S m → St n ds G f m a w → ZQ Z n ds G w Q → (∀ f' m' G' a' w', K f' m' → S m' → St n ds G' f' m' a' w' → Ext G w G' w' → Q .normal a' w') → wpAny P .any ops Q fuel listed a w := by
 obtain ⟨hsel0, hspec⟩ := lexOk_spec hok
 intro fuel l listed f m G a w
 exact aLexZ_anyU hsel0 hbd fuel l listed (fun i oi hi _ => ⟨(hspec i oi hi).1, fun k ok hk _ => (hspec i oi hi).2 k ok hk⟩)
end

section
variable {P : Program} {mu : List Nat} {n : Fi} {ds : List Deferred} {ops : Array Oper} {S : M → Prop} {K : F → M → Prop} {Z : PV → M → Prop}
theorem aLexEZ_anyU {Q : Exit → Act → World → Prop} (hend : endOk ops = true) (hsel0 : Region.noSelect ops = true) (hbd : ∀ (j : Nat) (o : Oper), ops[j]? = some o → dstB n o = true) :
    ∀ (fuel : Nat) (l : List Nat) (listed : Array Bool) {f : F} {m : M} {G : Ghost} {a : Act} {w : World}, SpecU mu ops listed → l.length + 1 = fuel → listed.size = ops.size → l.Pairwise (· < ·) → (∀ i, i ∈ l ↔ i + 1 < ops.size ∧ listed.getD i true = false) → listed.getD (ops.size - 1) true = false →
     (∀ j oj, ops[j]? = some oj → listed.getD j true = true → ∀ k ∈ edgesOf oj, listed.getD k true = true) →
     aLexZ P mu Z ops S (aLast P mu ops K) l f m → S m → St n ds G f m a w → ZQ Z n ds G w Q → (∀ f' m' G' a' w', K f' m' → St n ds G' f' m' a' w' → Ext G w G' w' → Q .normal a' w') → wpAny P .any ops Q fuel listed a w := by
 have hsel := fun (j : Nat) (o : Oper) cs b h => Region.noSelect_spec hsel0 j o cs b h
 intro fuel
 have hpos : 0 < ops.size := by
  unfold endOk at hend
  split at hend
  ·rename_i o ho
   have := (Array.getElem?_eq_some_iff.1 ho).1
   omega
  ·cases hend
 obtain ⟨oz, hoz⟩ : ∃ oz, ops[ops.size - 1]? = some oz := ⟨_, Array.getElem?_eq_getElem (by omega)⟩
 have hall : ∀ k, k + 1 < ops.size → k ∈ upOf ops (List.range (ops.size - 1)).reverse (edgesOf oz) := fun k hk => by
  unfold endOk at hend
  rw [hoz] at hend
  simp only [List.all_eq_true, List.mem_range, List.contains_iff_mem] at hend
  exact hend k (by omega)
 induction fuel with
 | zero => intro l listed f m G a w _ hlen; omega
 | succ fuel ih =>
  intro l listed f m G a w hspec hlen hsz hsort hmem huz hchain h hm hSt hZ hQ
  refine ⟨fun h0 => ?_, fun i hi => ?_⟩
  ·
   exfalso
   cases l with
   | nil =>
    have : ops.size - 1 ∈ Region.ready .any ops listed := mem_ready.2 ⟨huz, oz, hoz, fun e he hb => by
     have hlt' := (hspec _ oz hoz huz).1 e he hb
     by_cases hl : listed.getD e.on true = true
     ·have : e.on < listed.size := by omega
      simpa [this] using hl
     ·have hin := (hmem e.on).2 ⟨by omega, by simpa using hl⟩
      cases hin⟩
    rw [h0] at this
    cases this
   | cons i l =>
    obtain ⟨hlt1, hun⟩ := (hmem i).1 (by simp)
    have hlt : i < ops.size := by omega
    have : i ∈ Region.ready .any ops listed := mem_ready.2 ⟨hun, ops[i], Array.getElem?_eq_getElem hlt, fun e he hb => by
     have hlt' := (hspec i ops[i] (Array.getElem?_eq_getElem hlt) hun).1 e he hb
     by_cases hl : listed.getD e.on true = true
     ·have : e.on < listed.size := by omega
      simpa [this] using hl
     ·have hin := (hmem e.on).2 ⟨by omega, by simpa using hl⟩
      rcases List.mem_cons.1 hin with e1 | e1
      ·omega
      ·have := (List.pairwise_cons.1 hsort).1 _ e1
       omega⟩
    rw [h0] at this
    cases this
  ·obtain ⟨hun, oi, hoi, hedges⟩ := mem_ready.1 hi
   have hlt : i < ops.size := (Array.getElem?_eq_some_iff.1 hoi).1
   by_cases hiz : i + 1 = ops.size
   ·
    obtain rfl : i = ops.size - 1 := by omega
    obtain rfl : oi = oz := by rw [hoi] at hoz; exact Option.some.inj hoz
    have hlisted : ∀ j, (∃ e ∈ oi.after, Region.binds .any e = true ∧ e.on = j) → listed.getD j true = true := fun j ⟨e, he, hb, hj⟩ => by
     have := hedges e he hb
     rw [hj] at this
     have hjl : j < listed.size := by
      rcases Nat.lt_or_ge j listed.size with h' | h'
      ·exact h'
      ·simp [Array.getElem?_eq_none h'] at this
     simpa [hjl] using this
    have hdone : ∀ k, k + 1 < ops.size → listed.getD k true = true := fun k hk =>
     upOf_closed (Q := fun j => listed.getD j true = true) hchain _ _ (fun k hk => hlisted k (mem_edgesOf.1 hk)) k (hall k hk)
    have hl0 : l = [] := by
     rw [List.eq_nil_iff_forall_not_mem]
     intro k hk
     obtain ⟨h1, h2⟩ := (hmem k).1 hk
     rw [hdone k h1] at h2
     cases h2
    subst hl0
    have hf0 : fuel = 0 := by simp at hlen; omega
    subst hf0
    simp only [aLexZ, aLast, hoi] at h
    unfold wpOp
    simp only [hoi]
    rw [if_pos (by simp [Region.wanted, h.1])]
    refine .inl (aOp_sound0 h.2 hSt (hbd _ oi hoi) (fun v m' G' y w' k1 k2 k3 => ⟨?_, hQ _ _ _ _ _ k1 k2 k3⟩))
    rw [List.eq_nil_iff_forall_not_mem]
    intro k hk
    obtain ⟨h1, o, h2, _⟩ := mem_ready.1 hk
    have hk1 := (Array.getElem?_eq_some_iff.1 h2).1
    by_cases hkz : k = ops.size - 1
    ·subst hkz
     have : ops.size - 1 < listed.size := by omega
     simp [this] at h1
    ·rw [getD_set_ne true (fun e => hkz e.symm), hdone k (by omega)] at h1
     cases h1
   have hil : i ∈ l := (hmem i).2 ⟨by omega, hun⟩
   obtain ⟨l1, l2, rfl⟩ := List.append_of_mem hil
   have hsort' := List.pairwise_append.1 hsort
   have hk1 : ∀ k ∈ l1, k < i := fun k hk => hsort'.2.2 k hk i (by simp)
   have hlisted : ∀ j, (∃ e ∈ oi.after, Region.binds .any e = true ∧ e.on = j) → listed.getD j true = true := fun j ⟨e, he, hb, hj⟩ => by
    have := hedges e he hb
    rw [hj] at this
    have hjl : j < listed.size := by
     rcases Nat.lt_or_ge j listed.size with h' | h'
     ·exact h'
     ·simp [Array.getElem?_eq_none h'] at this
    simpa [hjl] using this
   have hclosed : ∀ k, k ∈ upOf ops (List.range i).reverse (edgesOf oi) → listed.getD k true = true := fun k h3 => upOf_closed (Q := fun j => listed.getD j true = true) hchain _ _ (fun k hk => hlisted k (mem_edgesOf.1 hk)) k h3
   have hpair : ∀ k ∈ l1, OkPairZ mu ops k i := fun k hk ok oi' hokk hoi' => by
    rw [hoi] at hoi'; cases hoi'
    have hku : listed.getD k true = false := ((hmem k).1 (by simp [hk])).2
    refine ⟨?_, ?_⟩
    rotate_left
    ·cases hbk : behind ops k
     ·exact .inl rfl
     ·unfold behind at hbk
      have := List.all_eq_true.1 hbk i (by simpa using hlt)
      simp only [hoi, Bool.or_eq_true, decide_eq_true_eq] at this
      rcases this with h5 | h5 | h5
      ·have := hk1 k hk; omega
      ·exact .inr h5
      ·rw [hclosed k (by simpa using h5)] at hku; cases hku
    rcases (hspec i oi hoi hun).2 k ok (hk1 k hk) hku hokk with h3 | ⟨h3, h4⟩ | h3
    ·rw [hlisted k h3] at hku; cases hku
    ·refine ⟨h3, fun q1 => ?_⟩
     cases q2 : isEff mu oi
     ·rfl
     ·exact absurd ⟨q1, q2⟩ h4
    ·have := upOf_closed (Q := fun j => listed.getD j true = true) hchain _ _ (fun k hk => ?_) k h3
     ·rw [this] at hku; cases hku
     ·exact hlisted k (mem_edgesOf.1 hk)
   have hrest : ∀ {f' : F} {m' : M} {G' : Ghost} {a' : Act} {w' : World}, aLexZ P mu Z ops S (aLast P mu ops K) (l1 ++ l2) f' m' → S m' → St n ds G' f' m' a' w' → Ext G w G' w' → wpAny P .any ops Q fuel (listed.setIfInBounds i true) a' w' := fun h' hm' hSt' hE => by
    refine ih (l1 ++ l2) (listed.setIfInBounds i true) (hspec.set i) (by simp at hlen ⊢; omega) (by simpa using hsz) ?_ ?_ (by rw [getD_set_ne true (show i ≠ ops.size - 1 by omega)]; exact huz) ?_ h' hm' hSt' (hZ.ext hE) (fun f'' m'' G'' a'' w'' k1 k2 k3 => hQ f'' m'' G'' a'' w'' k1 k2 (hE.trans k3))
    ·refine List.pairwise_append.2 ⟨hsort'.1, (List.pairwise_cons.1 hsort'.2.1).2, fun x hx y hy => hsort'.2.2 x hx y (by simp [hy])⟩
    ·intro j
     have hjm := hmem j
     by_cases hji : i = j
     ·subst hji
      have hnot1 : i ∉ l1 := fun hx => absurd (hk1 i hx) (Nat.lt_irrefl _)
      have hnot2 : i ∉ l2 := fun hx => absurd ((List.pairwise_cons.1 hsort'.2.1).1 i hx) (Nat.lt_irrefl _)
      refine ⟨fun hx => ?_, fun ⟨_, hx⟩ => ?_⟩
      ·rcases List.mem_append.1 hx with hx | hx
       ·exact absurd hx hnot1
       ·exact absurd hx hnot2
      ·have : i < listed.size := by omega
       simp [this] at hx
     ·rw [getD_set_ne true hji, ← hjm]
      simp [Ne.symm hji]
    ·intro j oj hoj hj k hk
     have keep : ∀ k, listed.getD k true = true → (listed.setIfInBounds i true).getD k true = true := fun k hk => by
      by_cases hki : i = k
      ·subst hki
       have : i < listed.size := by omega
       simp [this]
      ·rw [getD_set_ne true hki]; exact hk
     by_cases hji : i = j
     ·subst hji
      rw [hoi] at hoj; cases hoj
      exact keep k (hlisted k (mem_edgesOf.1 hk))
     ·rw [getD_set_ne true hji] at hj
      exact keep k (hchain j oj hoj hj k hk)
   have hbi := hbd i oi hoi
   have hZi : ZQ (zOf Z ops i) n ds G w Q := by
    unfold zOf
    split
    ·exact hZ
    ·exact ZQ.no
   unfold wpOp
   simp only [hoi]
   by_cases he : isEff mu oi = true
   ·have h' := aLexZ_pull hsel hoi he l1 l2 hpair h hm
    simp only [aLexZ, hoi] at h'
    rcases aG_cases h' with ⟨hg, hx⟩ | ⟨j, want, b, hg, hgu, hx⟩
    ·rw [if_pos he] at hx
     rw [if_pos (by simp [Region.wanted, hg])]
     exact .inl (aOp_sound hx hSt hbi (fun v m' G' y w' k1 k2 k3 => hrest k1.2 k1.1 k2 k3) hZi)
    ·have hw := guardA_spec hSt.fr hg hgu
     cases b
     ·rw [if_neg (by simp [hw])]
      exact hrest (by simpa using hx) hm (hSt.put hbi (.tp [] [] rfl (fun j h => by simp at h)) hSt.inv (Ext.refl _ _)) (Ext.refl _ _)
     ·simp only [if_true] at hx
      rw [if_pos he] at hx
      rw [if_pos hw]
      exact .inl (aOp_sound hx hSt hbi (fun v m' G' y w' k1 k2 k3 => hrest k1.2 k1.1 k2 k3) hZi)
   ·have he' : isEff mu oi = false := by simpa using he
    have hpk := aLexZ_peek hsel hbd hoi he' l1 l2 hpair h hm hSt
    rcases aG_cases hpk with ⟨hg, v, hv⟩ | ⟨j, want, b, hg, hgu, hx⟩
    ·rw [if_pos (by simp [Region.wanted, hg])]
     refine .inl (aOp_sound0 (aQuiet_op (K' := fun v' m' => v' = v ∧ m' = m) hm hv ⟨rfl, rfl⟩) hSt hbi (fun v' m' G' y w' k1 k2 k3 => ?_))
     obtain ⟨rfl, rfl⟩ := k1
     exact hrest (aLexZ_erase hsel hoi he' l1 l2 hpair h hm (.inl ⟨hg, hv⟩)) hm k2 k3
    ·have hw := guardA_spec hSt.fr hg hgu
     cases b
     ·rw [if_neg (by simp [hw])]
      exact hrest (aLexZ_erase hsel hoi he' l1 l2 hpair h hm (.inr ⟨j, want, false, hg, hgu, by simp⟩)) hm (hSt.put hbi (.tp [] [] rfl (fun j h => by simp at h)) hSt.inv (Ext.refl _ _)) (Ext.refl _ _)
     ·simp only [if_true] at hx
      obtain ⟨v, hv⟩ := hx
      rw [if_pos hw]
      refine .inl (aOp_sound0 (aQuiet_op (K' := fun v' m' => v' = v ∧ m' = m) hm hv ⟨rfl, rfl⟩) hSt hbi (fun v' m' G' y w' k1 k2 k3 => ?_))
      obtain ⟨rfl, rfl⟩ := k1
      exact hrest (aLexZ_erase hsel hoi he' l1 l2 hpair h hm (.inr ⟨j, want, true, hg, hgu, by simpa using hv⟩)) hm k2 k3
theorem aLexEZ_any {Q : Exit → Act → World → Prop} (hend : endOk ops = true) (hok : lexOk mu ops = true) (hbd : ∀ (j : Nat) (o : Oper), ops[j]? = some o → dstB n o = true) :
    ∀ (fuel : Nat) (l : List Nat) (listed : Array Bool) {f : F} {m : M} {G : Ghost} {a : Act} {w : World}, l.length + 1 = fuel → listed.size = ops.size → l.Pairwise (· < ·) → (∀ i, i ∈ l ↔ i + 1 < ops.size ∧ listed.getD i true = false) → listed.getD (ops.size - 1) true = false →
     (∀ j oj, ops[j]? = some oj → listed.getD j true = true → ∀ k ∈ edgesOf oj, listed.getD k true = true) →
     aLexZ P mu Z ops S (aLast P mu ops K) l f m → S m → St n ds G f m a w → ZQ Z n ds G w Q → (∀ f' m' G' a' w', K f' m' → St n ds G' f' m' a' w' → Ext G w G' w' → Q .normal a' w') → wpAny P .any ops Q fuel listed a w := by
 obtain ⟨hsel0, hspec⟩ := lexOk_spec hok
 intro fuel l listed f m G a w
 exact aLexEZ_anyU hend hsel0 hbd fuel l listed (fun i oi hi _ => ⟨(hspec i oi hi).1, fun k ok hk _ => (hspec i oi hi).2 k ok hk⟩)
end

section
variable {P : Program} {mu : List Nat} {n : Fi} {ds : List Deferred} {ops : Array Oper} {S : M → Prop} {K : F → M → Prop} {Z : PV → M → Prop}
def aCallP (P : Program) (mu : List Nat) (Z : PV → M → Prop) (ops : Array Oper) (S : M → Prop) (k0 : Nat) (K : F → M → Prop) (f : F) (m : M) : Prop :=
 match ops[k0]? with
 | none => False
 | some o => aOp P mu Z o f m fun v m' => S m' ∧ K (F.put f o.dst v) m'
def okP (mu : List Nat) (ops : Array Oper) (c k0 : Nat) : Bool :=
 match ops[k0]? with
 | none => false
 | some o => decide (k0 < c) && o.guard.isNone && (List.range c).all fun k => k == k0 || (match ops[k]? with
  | none => true
  | some ok => ok.guard.isNone && !isEff mu ok && (ok.apart ops o || (upOf ops (List.range k0).reverse (edgesOf o)).contains k))
theorem aCallP_pull (hsel : ∀ (j : Nat) (o : Oper) cs b, ops[j]? = some o → o.op ≠ .select cs b) {k0 : Nat} {o0 : Oper} (h0 : ops[k0]? = some o0) :
    ∀ (q : List Nat) {f : F} {m : M}, (∀ k ∈ q, ∀ ok, ops[k]? = some ok → ok.guard = none ∧ isEff mu ok = false ∧ ok.apart ops o0 = true) → aLex P mu ops S (aCallP P mu Z ops S k0 K) q f m → aOp P mu Z o0 f m fun v m' => S m' ∧ aLex P mu ops S K q (F.put f o0.dst v) m'
 | [], f, m, _, h => by
  simp only [aLex, aCallP, h0] at h
  exact h
 | k :: q, f, m, hq, h => by
  simp only [aLex] at h
  cases hk : ops[k]? with
  | none => simp [hk] at h
  | some ok =>
   obtain ⟨g1, g2, g3⟩ := hq k (by simp) ok hk
   simp only [hk, aG, g1] at h
   rw [if_neg (by simp [g2])] at h
   obtain ⟨z, hz, hl⟩ := h
   have g3' := apart_symm g3
   obtain ⟨_, hdd, _⟩ := Oper.apart_spec g3
   have ih := aCallP_pull hsel h0 q (fun k hk => hq k (by simp [hk])) hl
   refine aOp_mono ((apart_opZ (fun cs b => hsel k0 o0 cs b h0) g3 f z m _ _).1 ih) fun v m' ⟨hs', hl'⟩ => ⟨hs', ?_⟩
   simp only [aLex, hk, aG, g1]
   rw [if_neg (by simp [g2])]
   refine ⟨z, (apart_quiet (fun cs b => hsel k ok cs b hk) g3' f v).2 hz, ?_⟩
   rw [← F.put_comm f z v (fun d hd => hdd d hd)]
   exact hl'
theorem aLexP_any {Q : Exit → Act → World → Prop} {c k0 : Nat} (hok : lexOkC mu ops c = true) (hp : okP mu ops c k0 = true) (hbd : ∀ (j : Nat) (o : Oper), ops[j]? = some o → dstB n o = true) :
    ∀ (fuel : Nat) (l : List Nat) (listed : Array Bool) {f : F} {m : M} {G : Ghost} {a : Act} {w : World}, l.length + 1 + (ops.size - c) = fuel → listed.size = ops.size → l.Pairwise (· < ·) → (∀ i, i ∈ l ↔ i < c ∧ i ≠ k0 ∧ listed.getD i true = false) → listed.getD k0 true = false → (∀ i, c ≤ i → i < ops.size → listed.getD i true = false) →
     (∀ j oj, ops[j]? = some oj → listed.getD j true = true → ∀ k ∈ edgesOf oj, listed.getD k true = true) →
     aLex P mu ops S (aCallP P mu Z ops S k0 (aAll P mu ops K (ops.size - c) (List.range' c (ops.size - c)))) l f m → S m → St n ds G f m a w → ZQ Z n ds G w Q → (∀ f' m' G' a' w', K f' m' → St n ds G' f' m' a' w' → Ext G w G' w' → Q .normal a' w') → wpAny P .any ops Q fuel listed a w := by
 have hok0 := hok
 unfold lexOkC at hok
 simp only [Bool.and_eq_true, decide_eq_true_eq, List.all_eq_true, List.mem_range] at hok
 obtain ⟨⟨hsel0, hcs⟩, hall0⟩ := hok
 have hsel := fun (j : Nat) (o : Oper) cs b h => Region.noSelect_spec hsel0 j o cs b h
 obtain ⟨o0, h0⟩ : ∃ o, ops[k0]? = some o := by
  unfold okP at hp
  cases h : ops[k0]? with
  | none => rw [h] at hp; cases hp
  | some o => exact ⟨o, rfl⟩
 unfold okP at hp
 rw [h0] at hp
 simp only [Bool.and_eq_true, decide_eq_true_eq, List.all_eq_true, List.mem_range, Option.isNone_iff_eq_none, Bool.or_eq_true, beq_iff_eq] at hp
 obtain ⟨⟨hk0c, hg0⟩, hq0⟩ := hp
 have hqq : ∀ k, k < c → k ≠ k0 → ∀ ok, ops[k]? = some ok → ok.guard = none ∧ isEff mu ok = false ∧ (ok.apart ops o0 = true ∨ k ∈ upOf ops (List.range k0).reverse (edgesOf o0)) := fun k hk hne ok hokk => by
  rcases hq0 k hk with h | h
  ·exact absurd h hne
  ·rw [hokk] at h
   simp only [Bool.and_eq_true, Option.isNone_iff_eq_none, Bool.not_eq_true', Bool.or_eq_true, List.contains_iff_mem] at h
   exact ⟨h.1.1, h.1.2, h.2⟩
 have hedge : ∀ i oi, ops[i]? = some oi → ∀ e ∈ oi.after, Region.binds .any e = true → e.on < i := fun i oi hoi e he hb => by
  have := hall0 i (Array.getElem?_eq_some_iff.1 hoi).1
  rw [hoi] at this
  simp only [Bool.and_eq_true, Array.all_eq_true_iff_forall_mem, Bool.or_eq_true, Bool.not_eq_true', decide_eq_true_eq] at this
  rcases this.1 e he with h | h
  ·rw [hb] at h; cases h
  ·exact h
 have htl : ∀ i oi, ops[i]? = some oi → c ≤ i → ∀ k, k < c → k ∈ upOf ops (List.range i).reverse (edgesOf oi) := fun i oi hoi hci k hk => by
  have := hall0 i (Array.getElem?_eq_some_iff.1 hoi).1
  rw [hoi] at this
  simp only [Bool.and_eq_true, if_pos hci, List.all_eq_true, List.mem_range, List.contains_iff_mem] at this
  exact this.2 k hk
 have hpr : ∀ i oi, ops[i]? = some oi → i < c → ∀ k ok, k < i → ops[k]? = some ok → (∃ e ∈ oi.after, Region.binds .any e = true ∧ e.on = k) ∨ (ok.apart ops oi = true ∧ ¬ (isEff mu ok = true ∧ isEff mu oi = true)) ∨ k ∈ upOf ops (List.range i).reverse (edgesOf oi) := fun i oi hoi hic k ok hk hokk => by
  have := hall0 i (Array.getElem?_eq_some_iff.1 hoi).1
  rw [hoi] at this
  simp only [Bool.and_eq_true, if_neg (show ¬ c ≤ i by omega), List.all_eq_true, List.mem_range] at this
  have h2 := this.2 k hk
  rw [hokk] at h2
  simp only [Bool.or_eq_true, Array.any_eq_true, Bool.and_eq_true, beq_iff_eq, Bool.not_eq_true', List.contains_iff_mem] at h2
  rcases h2 with (h2 | ⟨h2, h3⟩) | h2
  ·obtain ⟨x, hx, h4, h5⟩ := h2
   exact .inl ⟨_, Array.getElem_mem hx, h4, h5⟩
  ·exact .inr (.inl ⟨h2, fun h => by rw [h.1, h.2] at h3; cases h3⟩)
  ·exact .inr (.inr h2)
 intro fuel
 induction fuel with
 | zero => intro l listed f m G a w hlen; omega
 | succ fuel ih =>
  intro l listed f m G a w hlen hsz hsort hmem hk0 htail hchain h hm hSt hZ hQ
  have hk0s : k0 < ops.size := by omega
  refine ⟨fun h1 => ?_, fun i hi => ?_⟩
  ·exfalso
   obtain ⟨i, hi, hmin⟩ := minL (k0 :: l) (by simp)
   have hiu : i < c ∧ listed.getD i true = false := by
    rcases List.mem_cons.1 hi with rfl | hi
    ·exact ⟨hk0c, hk0⟩
    ·exact ⟨((hmem i).1 hi).1, ((hmem i).1 hi).2.2⟩
   have hlt : i < ops.size := by omega
   have : i ∈ Region.ready .any ops listed := mem_ready.2 ⟨hiu.2, ops[i], Array.getElem?_eq_getElem hlt, fun e he hb => by
    have hlt' := hedge i ops[i] (Array.getElem?_eq_getElem hlt) e he hb
    by_cases hl : listed.getD e.on true = true
    ·have : e.on < listed.size := by omega
     simpa [this] using hl
    ·have hin : e.on ∈ k0 :: l := by
       by_cases hek : e.on = k0
       ·rw [hek]; simp
       ·exact List.mem_cons_of_mem _ ((hmem e.on).2 ⟨by omega, hek, by simpa using hl⟩)
     have := hmin _ hin
     omega⟩
   rw [h1] at this
   cases this
  ·obtain ⟨hun, oi, hoi, hedges⟩ := mem_ready.1 hi
   have hlt : i < ops.size := (Array.getElem?_eq_some_iff.1 hoi).1
   have hlisted : ∀ j, (∃ e ∈ oi.after, Region.binds .any e = true ∧ e.on = j) → listed.getD j true = true := fun j ⟨e, he, hb, hj⟩ => by
    have := hedges e he hb
    rw [hj] at this
    have hjl : j < listed.size := by
     rcases Nat.lt_or_ge j listed.size with h' | h'
     ·exact h'
     ·simp [Array.getElem?_eq_none h'] at this
    simpa [hjl] using this
   have hup : ∀ k, k ∈ upOf ops (List.range i).reverse (edgesOf oi) → listed.getD k true = true := fun k hk => upOf_closed (Q := fun j => listed.getD j true = true) hchain _ _ (fun k hk => hlisted k (mem_edgesOf.1 hk)) k hk
   by_cases hic0 : c ≤ i
   ·exfalso
    rw [hup k0 (htl i oi hoi hic0 k0 hk0c)] at hk0
    cases hk0
   have hic : i < c := by omega
   have hchain' : ∀ j oj, ops[j]? = some oj → (listed.setIfInBounds i true).getD j true = true → ∀ k ∈ edgesOf oj, (listed.setIfInBounds i true).getD k true = true := by
    intro j oj hoj hj k hk
    have keep : ∀ k, listed.getD k true = true → (listed.setIfInBounds i true).getD k true = true := fun k hk => by
     by_cases hki : i = k
     ·subst hki
      have : i < listed.size := by omega
      simp [this]
     ·rw [getD_set_ne true hki]; exact hk
    by_cases hji : i = j
    ·subst hji
     rw [hoi] at hoj; cases hoj
     exact keep k (hlisted k (mem_edgesOf.1 hk))
    ·rw [getD_set_ne true hji] at hj
     exact keep k (hchain j oj hoj hj k hk)
   have hbi := hbd i oi hoi
   unfold wpOp
   simp only [hoi]
   by_cases hik : i = k0
   ·subst hik
    rw [h0] at hoi; cases hoi
    rw [if_pos (by simp [Region.wanted, hg0])]
    have hx := aCallP_pull hsel h0 l (fun k hk ok hokk => by
     obtain ⟨q1, q2, q3⟩ := (hmem k).1 hk
     obtain ⟨g1, g2, g3⟩ := hqq k q1 q2 ok hokk
     refine ⟨g1, g2, g3.resolve_right fun h => ?_⟩
     rw [hup k h] at q3
     cases q3) h
    refine .inl (aOp_sound hx hSt hbi (fun v m' G' y w' k1 k2 k3 => ?_) hZ)
    refine aLexC_any hok0 hbd fuel l (listed.setIfInBounds i true) (by omega) (by simpa using hsz) hsort (fun j => ?_) (fun j hj hj2 => by rw [getD_set_ne true (show i ≠ j by omega)]; exact htail j hj hj2) hchain' k1.2 k1.1 k2 (fun f'' m'' G'' a'' w'' r1 r2 r3 => hQ f'' m'' G'' a'' w'' r1 r2 (k3.trans r3))
    by_cases hji : i = j
    ·subst hji
     refine ⟨fun hx => absurd rfl ((hmem i).1 hx).2.1, fun ⟨_, hx⟩ => ?_⟩
     have : i < listed.size := by omega
     simp [this] at hx
    ·rw [getD_set_ne true hji, hmem j]
     exact ⟨fun ⟨r1, _, r2⟩ => ⟨r1, r2⟩, fun ⟨r1, r2⟩ => ⟨r1, Ne.symm hji, r2⟩⟩
   have hil : i ∈ l := (hmem i).2 ⟨hic, hik, hun⟩
   obtain ⟨l1, l2, rfl⟩ := List.append_of_mem hil
   have hsort' := List.pairwise_append.1 hsort
   have hk1 : ∀ k ∈ l1, k < i := fun k hk => hsort'.2.2 k hk i (by simp)
   obtain ⟨hgi, hei, _⟩ := hqq i hic hik oi hoi
   have hpair : ∀ k ∈ l1, OkPair mu ops k i := fun k hk ok oi' hokk hoi' => by
    rw [hoi] at hoi'; cases hoi'
    have hku : listed.getD k true = false := ((hmem k).1 (by simp [hk])).2.2
    rcases hpr i oi hoi hic k ok (hk1 k hk) hokk with h3 | ⟨h3, h4⟩ | h3
    ·rw [hlisted k h3] at hku; cases hku
    ·exact ⟨h3, fun q1 => hei⟩
    ·rw [hup k h3] at hku; cases hku
   have hpk := aLex_peek hsel hbd hoi hei l1 l2 hpair h hm hSt
   rw [if_pos (by simp [Region.wanted, hgi])]
   rcases aG_cases hpk with ⟨hg, v, hv⟩ | ⟨j, want, b, hg, hgu, hx⟩
   ·refine .inl (aOp_sound0 (aQuiet_op (K' := fun v' m' => v' = v ∧ m' = m) hm hv ⟨rfl, rfl⟩) hSt hbi (fun v' m' G' y w' k1 k2 k3 => ?_))
    obtain ⟨rfl, rfl⟩ := k1
    refine ih (l1 ++ l2) (listed.setIfInBounds i true) (by simp at hlen ⊢; omega) (by simpa using hsz) (List.pairwise_append.2 ⟨hsort'.1, (List.pairwise_cons.1 hsort'.2.1).2, fun x hx y hy => hsort'.2.2 x hx y (by simp [hy])⟩) (fun j => ?_) (by rw [getD_set_ne true hik]; exact hk0) (fun j hj hj2 => by rw [getD_set_ne true (show i ≠ j by omega)]; exact htail j hj hj2) hchain' (aLex_erase hsel hoi hei l1 l2 hpair h hm (.inl ⟨hg, hv⟩)) hm k2 (hZ.ext k3) (fun f'' m'' G'' a'' w'' r1 r2 r3 => hQ f'' m'' G'' a'' w'' r1 r2 (k3.trans r3))
    have hjm := hmem j
    by_cases hji : i = j
    ·subst hji
     have hnot1 : i ∉ l1 := fun hx => absurd (hk1 i hx) (Nat.lt_irrefl _)
     have hnot2 : i ∉ l2 := fun hx => absurd ((List.pairwise_cons.1 hsort'.2.1).1 i hx) (Nat.lt_irrefl _)
     refine ⟨fun hx => ?_, fun ⟨_, _, hx⟩ => ?_⟩
     ·rcases List.mem_append.1 hx with hx | hx
      ·exact absurd hx hnot1
      ·exact absurd hx hnot2
     ·have : i < listed.size := by omega
      simp [this] at hx
    ·rw [getD_set_ne true hji, ← hjm]
     simp [Ne.symm hji]
   ·rw [hgi] at hg; cases hg
end
end Go.Proofs.YthhhnfjcaicjnaaGreatDoor
