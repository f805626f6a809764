/-
 Regions that draw their order, where the making of a variable stands free of the calls: it is shown at each place where it may come up.
-/
-- halved
import Derived.Test.YthhhnfjcaicjnaaGreatDoorDwA
set_option linter.unusedVariables false
set_option linter.unusedSimpArgs false
namespace Go.Proofs.YthhhnfjcaicjnaaGreatDoor
open Go Go.RowKit

section
variable {P : Program} {mu : List Nat} {n : Fi} {ds : List Deferred} {ops : Array Oper} {S : M → Prop} {K : F → M → Prop}

def aFl (P : Program) (mu : List Nat) (ops : Array Oper) (S : M → Prop) (K : F → M → Prop) (a : Nat) (tl : List Nat) : List Nat → F → M → Prop
 | [], f, m => aLex P mu ops S K (a :: tl) f m
 | i :: rest, f, m => match ops[i]? with
  | none => False
  | some o => (isEff mu o = true → aLex P mu ops S K (a :: i :: (rest ++ tl)) f m) ∧
    aG ops o f
     (if isEff mu o then aOp P mu noZ o f m fun v m' => S m' ∧ aFl P mu ops S K a tl rest (F.put f o.dst v) m' else ∃ v, aQuiet P mu o f S v ∧ aFl P mu ops S K a tl rest (F.put f o.dst v) m)
     (aFl P mu ops S K a tl rest (F.put f o.dst (.tp [])) m)

theorem aFl_now (hsel : ∀ (j : Nat) (o : Oper) cs b, ops[j]? = some o → o.op ≠ .select cs b) {a : Nat} {oa : Oper} (ha : ops[a]? = some oa) (heff : isEff mu oa = true) {tl : List Nat} :
    ∀ (l : List Nat) {f : F} {m : M}, (∀ k ∈ l, ∀ ok, ops[k]? = some ok → ok.apart ops oa = true) → aFl P mu ops S K a tl l f m → S m → aLex P mu ops S K (a :: (l ++ tl)) f m
 | [], f, m, _, h, _ => h
 | k :: l, f, m, hp, h, hm => by
  simp only [aFl] at h
  cases hk : ops[k]? with
  | none => simp [hk] at h
  | some ok =>
   simp only [hk] at h
   by_cases he : isEff mu ok = true
   ·exact h.1 he
   ·have hne : isEff mu ok = false := by simpa using he
    have rest := fun {z : PV} (hl : aFl P mu ops S K a tl l (F.put f ok.dst z) m) => aFl_now hsel ha heff l (fun k hk => hp k (by simp [hk])) hl hm
    have h2 : aLex P mu ops S K ([k] ++ a :: (l ++ tl)) f m := by
     simp only [List.singleton_append, aLex, hk]
     rcases aG_cases h.2 with ⟨hg, hx⟩ | ⟨j, want, b, hg, hgu, hx⟩
     ·refine aG_mk (.inl ⟨hg, ?_⟩)
      rw [if_neg he] at hx ⊢
      obtain ⟨v, hv, hl⟩ := hx
      exact ⟨v, hv, rest hl⟩
     ·refine aG_mk (.inr ⟨j, want, b, hg, hgu, ?_⟩)
      cases b
      ·simp only [Bool.false_eq_true, if_false] at hx ⊢
       exact rest hx
      ·simp only [if_true] at hx ⊢
       rw [if_neg he] at hx ⊢
       obtain ⟨v, hv, hl⟩ := hx
       exact ⟨v, hv, rest hl⟩
    exact aLex_pull hsel ha heff [k] (l ++ tl) (fun k' hk' ok' oa' q1 q2 => by
     obtain rfl : k' = k := by simpa using hk'
     rw [hk] at q1; rw [ha] at q2
     cases q1; cases q2
     exact ⟨hp k' (by simp) ok hk, fun q => by rw [hne] at q; cases q⟩) h2 hm

theorem aFl_erase (hsel : ∀ (j : Nat) (o : Oper) cs b, ops[j]? = some o → o.op ≠ .select cs b) {a : Nat} {tl : List Nat} {i : Nat} {oi : Oper} (hi : ops[i]? = some oi) (hne : isEff mu oi = false) (hai : OkPair mu ops a i) {u : PV} :
    ∀ (l1 l2 : List Nat) {f : F} {m : M}, (∀ k ∈ l1, OkPair mu ops k i) → aFl P mu ops S K a tl (l1 ++ i :: l2) f m → S m →
     ((oi.guard = none ∧ aQuiet P mu oi f S u) ∨ ∃ j want b, oi.guard = some (j, want) ∧ guardA ops f j want = some b ∧ (if b = true then aQuiet P mu oi f S u else u = .tp [])) → aFl P mu ops S K a tl (l1 ++ l2) (F.put f oi.dst u) m
 | [], l2, f, m, _, h, hm, hu => by
  simp only [List.nil_append, aFl, hi] at h
  rw [List.nil_append]
  rcases aG_cases h.2 with ⟨hg, hx⟩ | ⟨j, want, b, hg, hgu, hx⟩
  ·rcases hu with ⟨_, hu⟩ | ⟨j', want', b', hg', _⟩
   ·rw [if_neg (by simp [hne])] at hx
    obtain ⟨v, hv, hl⟩ := hx
    rwa [aQuiet_unique hm hu hv]
   ·rw [hg] at hg'; cases hg'
  ·rcases hu with ⟨hg', _⟩ | ⟨j', want', b', hg', hgu', hu⟩
   ·rw [hg] at hg'; cases hg'
   ·rw [hg] at hg'; cases hg'
    rw [hgu] at hgu'; cases hgu'
    cases b
    ·simp only [Bool.false_eq_true, if_false] at hx hu
     rw [hu]; exact hx
    ·simp only [if_true, hne, Bool.false_eq_true, if_false] at hx hu
     obtain ⟨v, hv, hl⟩ := hx
     rwa [aQuiet_unique hm hu hv]
 | k :: l1, l2, f, m, hp, h, hm, hu => by
  simp only [List.cons_append, aFl] at h ⊢
  cases hk : ops[k]? with
  | none => simp [hk] at h
  | some ok =>
   simp only [hk] at h ⊢
   have hap := (hp k (by simp) ok oi hk hi).1
   have hap' := apart_symm hap
   obtain ⟨_, hdd, _⟩ := Oper.apart_spec hap
   have hsk := fun cs b => hsel k ok cs b hk
   have hsi := fun cs b => hsel i oi cs b hi
   have carry : ∀ (z : PV), ((oi.guard = none ∧ aQuiet P mu oi (F.put f ok.dst z) S u) ∨ ∃ j want b, oi.guard = some (j, want) ∧ guardA ops (F.put f ok.dst z) j want = some b ∧ (if b = true then aQuiet P mu oi (F.put f ok.dst z) S u else u = .tp [])) := fun z => by
    rcases hu with ⟨hg, hu⟩ | ⟨j, want, b, hg, hgu, hu⟩
    ·exact .inl ⟨hg, (apart_quiet hsi hap f z).2 hu⟩
    ·refine .inr ⟨j, want, b, hg, (apart_guard hap f z hg).trans hgu, ?_⟩
     cases b
     ·simpa using hu
     ·simp only [if_true] at hu ⊢
      exact (apart_quiet hsi hap f z).2 hu
   have rest := fun {z : PV} {m : M} (hl : aFl P mu ops S K a tl (l1 ++ i :: l2) (F.put f ok.dst z) m) (hm : S m) => aFl_erase hsel hi hne hai l1 l2 (fun k hk => hp k (by simp [hk])) hl hm (carry z)
   have comm : ∀ z, F.put (F.put f ok.dst z) oi.dst u = F.put (F.put f oi.dst u) ok.dst z := fun z => F.put_comm f z u (fun d hd => by have := hdd d hd; exact this)
   refine ⟨fun he => ?_, ?_⟩
   ·have h1 := h.1 he
    have : aLex P mu ops S K ((a :: k :: l1) ++ i :: (l2 ++ tl)) f m := by simpa using h1
    have := aLex_erase hsel hi hne (u := u) (a :: k :: l1) (l2 ++ tl) (fun k' hk' => by
     rcases List.mem_cons.1 hk' with rfl | hk'
     ·exact hai
     ·exact hp k' hk') this hm hu
    simpa using this
   have body : (if isEff mu ok then aOp P mu noZ ok f m fun v m' => S m' ∧ aFl P mu ops S K a tl (l1 ++ i :: l2) (F.put f ok.dst v) m' else ∃ v, aQuiet P mu ok f S v ∧ aFl P mu ops S K a tl (l1 ++ i :: l2) (F.put f ok.dst v) m) →
       (if isEff mu ok then aOp P mu noZ ok (F.put f oi.dst u) m fun v m' => S m' ∧ aFl P mu ops S K a tl (l1 ++ l2) (F.put (F.put f oi.dst u) ok.dst v) m' else ∃ v, aQuiet P mu ok (F.put f oi.dst u) S v ∧ aFl P mu ops S K a tl (l1 ++ l2) (F.put (F.put f oi.dst u) ok.dst v) m) := fun hx => by
    by_cases he : isEff mu ok = true
    ·rw [if_pos he] at hx ⊢
     refine (apart_op hsk hap' f u m _).2 (aOp_mono hx fun v m' ⟨hs', hl⟩ => ⟨hs', ?_⟩)
     rw [← comm]
     exact rest hl hs'
    ·rw [if_neg he] at hx ⊢
     obtain ⟨v, hv, hl⟩ := hx
     refine ⟨v, (apart_quiet hsk hap' f u).2 hv, ?_⟩
     rw [← comm]
     exact rest hl hm
   rcases aG_cases h.2 with ⟨hg, hx⟩ | ⟨j, want, b, hg, hgu, hx⟩
   ·exact aG_mk (.inl ⟨hg, body hx⟩)
   ·refine aG_mk (.inr ⟨j, want, b, hg, (apart_guard hap' f u hg).trans hgu, ?_⟩)
    cases b
    ·simp only [Bool.false_eq_true, if_false] at hx ⊢
     rw [← comm]
     exact rest hx hm
    ·simp only [if_true] at hx ⊢
     exact body hx

theorem aFl_pull (hsel : ∀ (j : Nat) (o : Oper) cs b, ops[j]? = some o → o.op ≠ .select cs b) {a : Nat} {tl : List Nat} {i : Nat} {oi : Oper} (hi : ops[i]? = some oi) (heff : isEff mu oi = true) :
    ∀ (l1 l2 : List Nat) {f : F} {m : M}, (∀ k ∈ l1, OkPair mu ops k i) → aFl P mu ops S K a tl (l1 ++ i :: l2) f m → S m →
     aG ops oi f (aOp P mu noZ oi f m fun v m' => S m' ∧ aFl P mu ops S K a tl (l1 ++ l2) (F.put f oi.dst v) m') (aFl P mu ops S K a tl (l1 ++ l2) (F.put f oi.dst (.tp [])) m) ∧ True
 | [], l2, f, m, _, h, _ => by
  simp only [List.nil_append, aFl, hi] at h
  refine ⟨?_, trivial⟩
  rcases aG_cases h.2 with ⟨hg, hx⟩ | ⟨j, want, b, hg, hgu, hx⟩
  ·rw [if_pos heff] at hx
   exact aG_mk (.inl ⟨hg, hx⟩)
  ·refine aG_mk (.inr ⟨j, want, b, hg, hgu, ?_⟩)
   cases b
   ·simpa using hx
   ·simp only [if_true] at hx ⊢
    rwa [if_pos heff] at hx
 | k :: l1, l2, f, m, hp, h, hm => by
  refine ⟨?_, trivial⟩
  simp only [List.cons_append, aFl] at h
  cases hk : ops[k]? with
  | none => simp [hk] at h
  | some ok =>
   simp only [hk] at h
   obtain ⟨hap, hek⟩ := hp k (by simp) ok oi hk hi
   have hap' := apart_symm hap
   obtain ⟨_, hdd, _⟩ := Oper.apart_spec hap
   have hsk := fun cs b => hsel k ok cs b hk
   have hsi := fun cs b => hsel i oi cs b hi
   have hne : isEff mu ok = false := by
    cases q : isEff mu ok
    ·rfl
    ·rw [hek q] at heff; cases heff
   have comm : ∀ z u, F.put (F.put f ok.dst z) oi.dst u = F.put (F.put f oi.dst u) ok.dst z := fun z u => F.put_comm f z u (fun d hd => hdd d hd)
   have rest := fun {z : PV} (hl : aFl P mu ops S K a tl (l1 ++ i :: l2) (F.put f ok.dst z) m) => (aFl_pull hsel hi heff l1 l2 (fun k hk => hp k (by simp [hk])) hl hm).1
   have tail : ∀ (z u : PV) (m' : M), (ok.guard = none ∧ aQuiet P mu ok f S z ∨ ∃ j want b, ok.guard = some (j, want) ∧ guardA ops f j want = some b ∧ (if b = true then aQuiet P mu ok f S z else z = .tp [])) →
       aFl P mu ops S K a tl (l1 ++ l2) (F.put (F.put f ok.dst z) oi.dst u) m' → aFl P mu ops S K a tl (k :: (l1 ++ l2)) (F.put f oi.dst u) m' := fun z u m' hz hl => by
    simp only [aFl, hk]
    refine ⟨(fun he => by rw [hne] at he; cases he), ?_⟩
    rw [comm] at hl
    rcases hz with ⟨hg, hz⟩ | ⟨j, want, b, hg, hgu, hz⟩
    ·refine aG_mk (.inl ⟨hg, ?_⟩)
     rw [if_neg (by simp [hne])]
     exact ⟨z, (apart_quiet hsk hap' f u).2 hz, hl⟩
    ·refine aG_mk (.inr ⟨j, want, b, hg, (apart_guard hap' f u hg).trans hgu, ?_⟩)
     cases b
     ·simp only [Bool.false_eq_true, if_false] at hz ⊢
      rw [hz] at hl
      exact hl
     ·simp only [if_true] at hz ⊢
      rw [if_neg (by simp [hne])]
      exact ⟨z, (apart_quiet hsk hap' f u).2 hz, hl⟩
   have body : ∀ z, (ok.guard = none ∧ aQuiet P mu ok f S z ∨ ∃ j want b, ok.guard = some (j, want) ∧ guardA ops f j want = some b ∧ (if b = true then aQuiet P mu ok f S z else z = .tp [])) →
       aFl P mu ops S K a tl (l1 ++ i :: l2) (F.put f ok.dst z) m → aG ops oi f (aOp P mu noZ oi f m fun v m' => S m' ∧ aFl P mu ops S K a tl (k :: l1 ++ l2) (F.put f oi.dst v) m') (aFl P mu ops S K a tl (k :: l1 ++ l2) (F.put f oi.dst (.tp [])) m) := fun z hz hl => by
    have h1 := rest hl
    rw [show k :: l1 ++ l2 = k :: (l1 ++ l2) from rfl]
    rcases aG_cases h1 with ⟨hg, hx⟩ | ⟨j, want, b, hg, hgu, hx⟩
    ·exact aG_mk (.inl ⟨hg, aOp_mono ((apart_op hsi hap f z m _).1 hx) fun v m' ⟨hs', hl'⟩ => ⟨hs', tail z v m' hz hl'⟩⟩)
    ·refine aG_mk (.inr ⟨j, want, b, hg, (apart_guard hap f z hg).symm.trans hgu, ?_⟩)
     cases b
     ·simp only [Bool.false_eq_true, if_false] at hx ⊢
      exact tail z _ m hz hx
     ·simp only [if_true] at hx ⊢
      exact aOp_mono ((apart_op hsi hap f z m _).1 hx) fun v m' ⟨hs', hl'⟩ => ⟨hs', tail z v m' hz hl'⟩
   rcases aG_cases h.2 with ⟨hg, hx⟩ | ⟨j, want, b, hg, hgu, hx⟩
   ·rw [if_neg (by simp [hne])] at hx
    obtain ⟨v, hv, hl⟩ := hx
    exact body v (.inl ⟨hg, hv⟩) hl
   ·cases b
    ·exact body (.tp []) (.inr ⟨j, want, false, hg, hgu, by simp⟩) (by simpa using hx)
    ·simp only [if_true] at hx
     rw [if_neg (by simp [hne])] at hx
     obtain ⟨v, hv, hl⟩ := hx
     exact body v (.inr ⟨j, want, true, hg, hgu, by simpa using hv⟩) hl

def fltOkC (mu : List Nat) (ops : Array Oper) (a c : Nat) : Bool :=
 Region.noSelect ops && decide (a < c) && decide (c < ops.size) &&
 (match ops[a]? with | some oa => isEff mu oa && oa.guard.isNone | none => false) &&
 ((List.range ops.size).all fun i => match ops[i]? with
  | none => true
  | some oi => oi.after.all (fun e => !Region.binds .any e || e.on < i) && (i == a || (match ops[a]? with | some oa => decide (c ≤ i) || (oi.apart ops oa && oa.apart ops oi) | none => false)) &&
    (i == a || (List.range i).all fun k => k == a || match ops[k]? with
     | none => true
     | some ok => oi.after.any (fun e => Region.binds .any e && e.on == k) || ((ok.apart ops oi) && !(isEff mu ok && isEff mu oi)) || (upOf ops (List.range i).reverse (edgesOf oi)).contains k) &&
    (!(decide (c ≤ i)) || (upOf ops (List.range i).reverse (edgesOf oi)).contains a))

def fltOk (mu : List Nat) (ops : Array Oper) (a : Nat) : Bool := fltOkC mu ops a (ops.size - 1)
structure Flt (mu : List Nat) (ops : Array Oper) (a c : Nat) (oa : Oper) : Prop where
 sel : Region.noSelect ops = true
 lt : a < c
 ltc : c < ops.size
 at_ : ops[a]? = some oa
 eff : isEff mu oa = true
 grd : oa.guard = none
 back : ∀ i oi, ops[i]? = some oi → ∀ e ∈ oi.after, Region.binds .any e = true → e.on < i
 free : ∀ i oi, ops[i]? = some oi → i ≠ a → i < c → oi.apart ops oa = true ∧ oa.apart ops oi = true
 pair : ∀ i oi, ops[i]? = some oi → i ≠ a → ∀ k ok, k < i → k ≠ a → ops[k]? = some ok → (∃ e ∈ oi.after, Region.binds .any e = true ∧ e.on = k) ∨ (ok.apart ops oi = true ∧ ¬ (isEff mu ok = true ∧ isEff mu oi = true)) ∨
     k ∈ upOf ops (List.range i).reverse (edgesOf oi)
 last : ∀ i oi, ops[i]? = some oi → c ≤ i → a ∈ upOf ops (List.range i).reverse (edgesOf oi)
theorem flt_spec {a c : Nat} (h : fltOkC mu ops a c = true) : ∃ oa, Flt mu ops a c oa := by
 unfold fltOkC at h
 simp only [Bool.and_eq_true, decide_eq_true_eq, List.all_eq_true, List.mem_range] at h
 obtain ⟨⟨⟨⟨h1, h2⟩, h2'⟩, h3⟩, h4⟩ := h
 have ha : ops[a]? = some ops[a] := Array.getElem?_eq_getElem (by omega)
 rw [ha] at h3
 simp only [Bool.and_eq_true, Option.isNone_iff_eq_none] at h3
 have all := fun (i : Nat) (oi : Oper) (hi : ops[i]? = some oi) => by
  have hlt : i < ops.size := (Array.getElem?_eq_some_iff.1 hi).1
  have := h4 i hlt
  rw [hi, ha] at this
  simp only [Bool.and_eq_true, Bool.or_eq_true, beq_iff_eq, List.all_eq_true, List.mem_range, Bool.not_eq_true', decide_eq_false_iff_not, decide_eq_true_eq] at this
  exact this
 refine ⟨ops[a], h1, h2, h2', ha, h3.1, h3.2, fun i oi hi e he hb => ?_, fun i oi hi hne hl => ?_, fun i oi hi hne k ok hk hka hok => ?_, fun i oi hi hci => ?_⟩
 ·have := (all i oi hi).1.1.1
  have := Array.all_eq_true_iff_forall_mem.1 this e he
  simpa [hb] using this
 ·rcases (all i oi hi).1.1.2 with h | h | h
  ·exact absurd h hne
  ·omega
  ·exact h
 ·rcases (all i oi hi).1.2 with h | h
  ·exact absurd h hne
  ·rcases h k hk with h | h
   ·exact absurd h hka
   ·rw [hok] at h
    simp only [Bool.or_eq_true, Bool.and_eq_true, Bool.not_eq_true', Bool.and_eq_false_iff] at h
    rcases h with (h | ⟨h, h'⟩) | h
    ·obtain ⟨e, he, hb⟩ := Array.any_eq_true'.1 h
     simp only [Bool.and_eq_true, beq_iff_eq] at hb
     exact .inl ⟨e, he, hb.1, hb.2⟩
    ·refine .inr (.inl ⟨h, fun ⟨q1, q2⟩ => ?_⟩)
     rcases h' with h' | h'
     ·rw [q1] at h'; cases h'
     ·rw [q2] at h'; cases h'
    ·exact .inr (.inr (by simpa using h))
 ·have := (all _ oi hi).2
  rcases this with h | h
  ·exact absurd hci h
  ·simpa using h

theorem aFl_any {Q : Exit → Act → World → Prop} {b c : Nat} {ob : Oper} (hf : Flt mu ops b c ob) (hbd : ∀ (j : Nat) (o : Oper), ops[j]? = some o → dstB n o = true) :
    ∀ (fuel : Nat) (l : List Nat) (listed : Array Bool) {f : F} {m : M} {G : Ghost} {a : Act} {w : World}, l.length + 1 + (ops.size - c) = fuel → listed.size = ops.size → l.Pairwise (· < ·) → (∀ i, i ∈ l ↔ (i < ops.size ∧ listed.getD i true = false) ∧ i ≠ b ∧ i < c) →
     listed.getD b true = false → (∀ i, c ≤ i → i < ops.size → listed.getD i true = false) → (∀ j oj, ops[j]? = some oj → listed.getD j true = true → ∀ k ∈ edgesOf oj, listed.getD k true = true) →
     aFl P mu ops S K b (List.range' c (ops.size - c)) l f m → S m → St n ds G f m a w → (∀ f' m' G' a' w', K f' m' → S m' → St n ds G' f' m' a' w' → Ext G w G' w' → Q .normal a' w') → wpAny P .any ops Q fuel listed a w := by
 have hsel := fun (j : Nat) (o : Oper) cs b h => Region.noSelect_spec hf.sel j o cs b h
 have hlt := hf.lt
 have hltc := hf.ltc
 have hmt : ∀ j, j ∈ List.range' c (ops.size - c) ↔ c ≤ j ∧ j < ops.size := fun j => by
  rw [List.mem_range'_1]; omega
 intro fuel
 induction fuel with
 | zero => intro l listed f m G a w hlen; omega
 | succ fuel ih =>
  intro l listed f m G a w hlen hsz hsort hmem hub hus hchain h hm hSt hQ
  refine ⟨fun h0 => ?_, fun i hi => ?_⟩
  ·exfalso
   have key : ∀ j, j < ops.size → listed.getD j true = false → (∀ k, k < j → listed.getD k true = true) → False := fun j hj hun hmin => by
    have : j ∈ Region.ready .any ops listed := mem_ready.2 ⟨hun, ops[j], Array.getElem?_eq_getElem hj, fun e he hb => by
     have hlt' := hf.back j ops[j] (Array.getElem?_eq_getElem hj) e he hb
     have := hmin e.on hlt'
     have hjl : e.on < listed.size := by omega
     simpa [hjl] using this⟩
    rw [h0] at this
    cases this
   have left : ∀ k, k < ops.size → listed.getD k true = false → k ∈ l ∨ k = b ∨ c ≤ k := fun k hk hu => by
    by_cases h1 : k = b
    ·exact .inr (.inl h1)
    ·by_cases h2 : c ≤ k
     ·exact .inr (.inr h2)
     ·exact .inl ((hmem k).2 ⟨⟨hk, hu⟩, h1, by omega⟩)
   cases l with
   | nil =>
    refine key b (by omega) hub fun k hk => ?_
    cases hq : listed.getD k true with
    | true => rfl
    | false => rcases left k (by omega) hq with h | h | h
               ·cases h
               ·omega
               ·omega
   | cons i l =>
    obtain ⟨⟨hi1, hi2⟩, hi3, hi4⟩ := (hmem i).1 (by simp)
    have hle : ∀ k ∈ i :: l, i ≤ k := fun k hk => by
     rcases List.mem_cons.1 hk with rfl | hk
     ·exact Nat.le_refl _
     ·exact Nat.le_of_lt ((List.pairwise_cons.1 hsort).1 k hk)
    by_cases hib : i < b
    ·refine key i hi1 hi2 fun k hk => ?_
     cases hq : listed.getD k true with
     | true => rfl
     | false => rcases left k (by omega) hq with h | h | h
                ·have := hle k h; omega
                ·omega
                ·omega
    ·refine key b (by omega) hub fun k hk => ?_
     cases hq : listed.getD k true with
     | true => rfl
     | false => rcases left k (by omega) hq with h | h | h
                ·have := hle k h; omega
                ·omega
                ·omega
  ·obtain ⟨hun, oi, hoi, hedges⟩ := mem_ready.1 hi
   have hlti : i < ops.size := (Array.getElem?_eq_some_iff.1 hoi).1
   have hlisted : ∀ j, (∃ e ∈ oi.after, Region.binds .any e = true ∧ e.on = j) → listed.getD j true = true := fun j ⟨e, he, hb, hj⟩ => by
    have := hedges e he hb
    rw [hj] at this
    have hjl : j < listed.size := by
     rcases Nat.lt_or_ge j listed.size with h' | h'
     ·exact h'
     ·simp [Array.getElem?_eq_none h'] at this
    simpa [hjl] using this
   have hchain' : ∀ j oj, ops[j]? = some oj → (listed.setIfInBounds i true).getD j true = true → ∀ k ∈ edgesOf oj, (listed.setIfInBounds i true).getD k true = true := by
    intro j oj hoj hj k hk
    have keep : ∀ k, listed.getD k true = true → (listed.setIfInBounds i true).getD k true = true := fun k hk => by
     by_cases hki : i = k
     ·subst hki
      have : i < listed.size := by omega
      simp [this]
     ·rw [getD_set_ne true hki]; exact hk
    by_cases hji : i = j
    ·subst hji
     rw [hoi] at hoj; cases hoj
     exact keep k (hlisted k (mem_edgesOf.1 hk))
    ·rw [getD_set_ne true hji] at hj
     exact keep k (hchain j oj hoj hj k hk)
   have hbi := hbd i oi hoi
   unfold wpOp
   simp only [hoi]
   by_cases hib : i = b
   ·
    subst hib
    obtain rfl : oi = ob := by have := hf.at_; rw [hoi] at this; exact Option.some.inj this
    have h' := aFl_now hsel hoi hf.eff l (fun k hk ok hok => (hf.free k ok hok ((hmem k).1 hk).2.1 ((hmem k).1 hk).2.2).1) h hm
    simp only [aLex, hoi] at h'
    rcases aG_cases h' with ⟨hg, hx⟩ | ⟨j, want, b', hg, _, _⟩
    ·rw [if_pos hf.eff] at hx
     rw [if_pos (by simp [Region.wanted, hg])]
     refine .inl (aOp_sound0 hx hSt hbi (fun v m' G' y w' k1 k2 k3 => ?_))
     refine aLex_anyU hf.sel hbd fuel (l ++ List.range' c (ops.size - c)) (listed.setIfInBounds i true) (fun k oj hoj hl => ?_) (by simp at hlen ⊢; omega) (by simpa using hsz) ?_ ?_ hchain' k1.2 k1.1 k2 (fun f'' m'' G'' a'' w'' q1 q2 q3 q4 => hQ f'' m'' G'' a'' w'' q1 q2 q3 (k3.trans q4))
     ·have hki : k ≠ i := fun e => by
        subst e
        have : k < listed.size := by omega
        simp [this] at hl
      refine ⟨hf.back k oj hoj, fun k2 ok2 hk2 hl2 hok2 => hf.pair k oj hoj hki k2 ok2 hk2 (fun e => ?_) hok2⟩
      subst e
      have : k2 < listed.size := by omega
      simp [this] at hl2
     ·refine List.pairwise_append.2 ⟨hsort, List.pairwise_lt_range', fun x hx y hy => ?_⟩
      have := (hmem x).1 hx
      have := (hmt y).1 hy
      omega
     ·intro j
      by_cases hji : i = j
      ·subst hji
       have h1 : i < listed.size := by omega
       refine ⟨fun hx => ?_, fun hx => by simp [h1] at hx⟩
       rcases List.mem_append.1 hx with hx | hx
       ·exact absurd rfl ((hmem i).1 hx).2.1
       ·have := (hmt i).1 hx; omega
      ·rw [getD_set_ne true hji, List.mem_append, hmem j]
       constructor
       ·rintro (h1 | h1)
        ·exact h1.1
        ·have h1 := (hmt j).1 h1
         exact ⟨h1.2, hus j h1.1 h1.2⟩
       ·intro h1
        by_cases hjl : c ≤ j
        ·exact .inr ((hmt j).2 ⟨hjl, h1.1⟩)
        ·exact .inl ⟨h1, fun e => hji e.symm, by omega⟩
    ·rw [hf.grd] at hg; cases hg
   ·by_cases hil : c ≤ i
    ·
     exfalso
     have hq := upOf_closed (Q := fun j => listed.getD j true = true) hchain _ _ (fun k hk => hlisted k (mem_edgesOf.1 hk)) b (hf.last i oi hoi hil)
     rw [hq] at hub
     cases hub
    ·replace hil : i < c := by omega
     have hinl : i ∈ l := (hmem i).2 ⟨⟨hlti, hun⟩, hib, hil⟩
     obtain ⟨l1, l2, rfl⟩ := List.append_of_mem hinl
     have hsort' := List.pairwise_append.1 hsort
     have hk1 : ∀ k ∈ l1, k < i := fun k hk => hsort'.2.2 k hk i (by simp)
     have hpair : ∀ k ∈ l1, OkPair mu ops k i := fun k hk ok oi' hokk hoi' => by
      rw [hoi] at hoi'; cases hoi'
      obtain ⟨⟨_, hku⟩, hkb, _⟩ := (hmem k).1 (by simp [hk])
      rcases hf.pair i oi hoi hib k ok (hk1 k hk) hkb hokk with h3 | ⟨h3, h4⟩ | h3
      ·rw [hlisted k h3] at hku; cases hku
      ·refine ⟨h3, fun q1 => ?_⟩
       cases q2 : isEff mu oi
       ·rfl
       ·exact absurd ⟨q1, q2⟩ h4
      ·have := upOf_closed (Q := fun j => listed.getD j true = true) hchain _ _ (fun k hk => hlisted k (mem_edgesOf.1 hk)) k h3
       rw [this] at hku; cases hku
     have hrest : ∀ {f' : F} {m' : M} {G' : Ghost} {a' : Act} {w' : World}, aFl P mu ops S K b (List.range' c (ops.size - c)) (l1 ++ l2) f' m' → S m' → St n ds G' f' m' a' w' → Ext G w G' w' → wpAny P .any ops Q fuel (listed.setIfInBounds i true) a' w' := fun h' hm' hSt' hE => by
      refine ih (l1 ++ l2) (listed.setIfInBounds i true) (by simp at hlen ⊢; omega) (by simpa using hsz) ?_ ?_ ?_ ?_ hchain' h' hm' hSt' (fun f'' m'' G'' a'' w'' k1 k2 k3 k4 => hQ f'' m'' G'' a'' w'' k1 k2 k3 (hE.trans k4))
      ·exact List.pairwise_append.2 ⟨hsort'.1, (List.pairwise_cons.1 hsort'.2.1).2, fun x hx y hy => hsort'.2.2 x hx y (by simp [hy])⟩
      ·intro j
       have hjm := hmem j
       by_cases hji : i = j
       ·subst hji
        have hnot1 : i ∉ l1 := fun hx => absurd (hk1 i hx) (Nat.lt_irrefl _)
        have hnot2 : i ∉ l2 := fun hx => absurd ((List.pairwise_cons.1 hsort'.2.1).1 i hx) (Nat.lt_irrefl _)
        refine ⟨fun hx => ?_, fun ⟨⟨_, hx⟩, _⟩ => ?_⟩
        ·rcases List.mem_append.1 hx with hx | hx
         ·exact absurd hx hnot1
         ·exact absurd hx hnot2
        ·have : i < listed.size := by omega
         simp [this] at hx
       ·rw [getD_set_ne true hji, ← hjm]
        simp [Ne.symm hji]
      ·rw [getD_set_ne true hib]; exact hub
      ·intro j hj hjs; rw [getD_set_ne true (show i ≠ j by omega)]; exact hus j hj hjs
     by_cases he : isEff mu oi = true
     ·have h' := (aFl_pull hsel hoi he l1 l2 hpair h hm).1
      rcases aG_cases h' with ⟨hg, hx⟩ | ⟨j, want, b', hg, hgu, hx⟩
      ·rw [if_pos (by simp [Region.wanted, hg])]
       exact .inl (aOp_sound0 hx hSt hbi (fun v m' G' y w' k1 k2 k3 => hrest k1.2 k1.1 k2 k3))
      ·have hw := guardA_spec hSt.fr hg hgu
       cases b'
       ·rw [if_neg (by simp [hw])]
        exact hrest (by simpa using hx) hm (hSt.put hbi (.tp [] [] rfl (fun j h => by simp at h)) hSt.inv (Ext.refl _ _)) (Ext.refl _ _)
       ·simp only [if_true] at hx
        rw [if_pos hw]
        exact .inl (aOp_sound0 hx hSt hbi (fun v m' G' y w' k1 k2 k3 => hrest k1.2 k1.1 k2 k3))
     ·have he' : isEff mu oi = false := by simpa using he
      have hbi' : OkPair mu ops b i := fun ok oi' hokk hoi' => by
       rw [hoi] at hoi'; cases hoi'
       have := hf.at_
       rw [hokk] at this; cases this
       exact ⟨(hf.free i oi hoi hib hil).2, fun _ => he'⟩
      have hnow := aFl_now hsel hf.at_ hf.eff (l1 ++ i :: l2) (fun k hk ok hok => (hf.free k ok hok ((hmem k).1 hk).2.1 ((hmem k).1 hk).2.2).1) h hm
      have hpk := aLex_peek hsel hbd hoi he' (b :: l1) (l2 ++ List.range' c (ops.size - c)) (fun k hk => by
       rcases List.mem_cons.1 hk with rfl | hk
       ·exact hbi'
       ·exact hpair k hk) (by simpa using hnow) hm hSt
      rcases aG_cases hpk with ⟨hg, v, hv⟩ | ⟨j, want, b', hg, hgu, hx⟩
      ·rw [if_pos (by simp [Region.wanted, hg])]
       refine .inl (aOp_sound0 (aQuiet_op (K' := fun v' m' => v' = v ∧ m' = m) hm hv ⟨rfl, rfl⟩) hSt hbi (fun v' m' G' y w' k1 k2 k3 => ?_))
       obtain ⟨rfl, rfl⟩ := k1
       exact hrest (aFl_erase hsel hoi he' hbi' l1 l2 hpair h hm (.inl ⟨hg, hv⟩)) hm k2 k3
      ·have hw := guardA_spec hSt.fr hg hgu
       cases b'
       ·rw [if_neg (by simp [hw])]
        exact hrest (aFl_erase hsel hoi he' hbi' l1 l2 hpair h hm (.inr ⟨j, want, false, hg, hgu, by simp⟩)) hm (hSt.put hbi (.tp [] [] rfl (fun j h => by simp at h)) hSt.inv (Ext.refl _ _)) (Ext.refl _ _)
       ·simp only [if_true] at hx
        obtain ⟨v, hv⟩ := hx
        rw [if_pos hw]
        refine .inl (aOp_sound0 (aQuiet_op (K' := fun v' m' => v' = v ∧ m' = m) hm hv ⟨rfl, rfl⟩) hSt hbi (fun v' m' G' y w' k1 k2 k3 => ?_))
        obtain ⟨rfl, rfl⟩ := k1
        exact hrest (aFl_erase hsel hoi he' hbi' l1 l2 hpair h hm (.inr ⟨j, want, true, hg, hgu, by simpa using hv⟩)) hm k2 k3
end
end Go.Proofs.YthhhnfjcaicjnaaGreatDoor
