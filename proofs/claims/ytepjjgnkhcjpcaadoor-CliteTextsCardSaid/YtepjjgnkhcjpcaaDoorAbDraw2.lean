/-
  Regions that draw their order: the text's order serves every order.
-/
import Derived.Test.YtepjjgnkhcjpcaaDoorAbDraw
set_option linter.unusedVariables false
set_option linter.unusedSimpArgs false
namespace Go.Proofs.YtepjjgnkhcjpcaaDoor
open Go Go.RowKit

section
variable {P : Program} {mu : List Nat} {n : Fi} {ds : List Deferred} {ops : Array Oper} {S : M → Prop} {K : F → M → Prop}

/-- What turns the state may come up ahead of what is quiet and touches nothing of it. -/
theorem aLex_pull (hsel : ∀ (j : Nat) (o : Oper) cs b, ops[j]? = some o → o.op ≠ .select cs b) {i : Nat} {oi : Oper} (hi : ops[i]? = some oi) (heff : isEff mu oi = true) :
    ∀ (l1 l2 : List Nat) {f : F} {m : M}, (∀ k ∈ l1, OkPair mu ops k i) → aLex P mu ops S K (l1 ++ i :: l2) f m → S m → aLex P mu ops S K (i :: (l1 ++ l2)) f m
  | [], l2, f, m, _, h, _ => h
  | k :: l1, l2, f, m, hp, h, hm => by
    simp only [List.cons_append, aLex] at h
    cases hk : ops[k]? with
    | none => simp [hk] at h
    | some ok =>
      simp only [hk] at h
      obtain ⟨hap, hek⟩ := hp k (by simp) ok oi hk hi
      have hap' := apart_symm hap
      obtain ⟨_, hdd, _⟩ := Oper.apart_spec hap
      have hsk := fun cs b => hsel k ok cs b hk
      have hsi := fun cs b => hsel i oi cs b hi
      have hne : isEff mu ok = false := by
        cases q : isEff mu ok
        · rfl
        · rw [hek q] at heff; cases heff
      have comm : ∀ z u, F.put (F.put f ok.dst z) oi.dst u = F.put (F.put f oi.dst u) ok.dst z := fun z u => F.put_comm f z u (fun d hd => hdd d hd)
      have rest := fun {z : PV} (hl : aLex P mu ops S K (l1 ++ i :: l2) (F.put f ok.dst z) m) => aLex_pull hsel hi heff l1 l2 (fun k hk => hp k (by simp [hk])) hl hm
      -- behind i, k yields what it yielded
      have tail : ∀ (z u : PV) (m' : M), (ok.guard = none ∧ aQuiet P mu ok f S z ∨ ∃ j want b, ok.guard = some (j, want) ∧ guardA ops f j want = some b ∧ (if b = true then aQuiet P mu ok f S z else z = .tp [])) →
          aLex P mu ops S K (l1 ++ l2) (F.put (F.put f ok.dst z) oi.dst u) m' → aLex P mu ops S K (k :: (l1 ++ l2)) (F.put f oi.dst u) m' := fun z u m' hz hl => by
        simp only [aLex, hk]
        rw [comm] at hl
        rcases hz with ⟨hg, hz⟩ | ⟨j, want, b, hg, hgu, hz⟩
        · refine aG_mk (.inl ⟨hg, ?_⟩)
          rw [if_neg (by simp [hne])]
          exact ⟨z, (apart_quiet hsk hap' f u).2 hz, hl⟩
        · refine aG_mk (.inr ⟨j, want, b, hg, (apart_guard hap' f u hg).trans hgu, ?_⟩)
          cases b
          · simp only [Bool.false_eq_true, if_false] at hz ⊢
            rw [hz] at hl
            exact hl
          · simp only [if_true] at hz ⊢
            rw [if_neg (by simp [hne])]
            exact ⟨z, (apart_quiet hsk hap' f u).2 hz, hl⟩
      have body : ∀ z, (ok.guard = none ∧ aQuiet P mu ok f S z ∨ ∃ j want b, ok.guard = some (j, want) ∧ guardA ops f j want = some b ∧ (if b = true then aQuiet P mu ok f S z else z = .tp [])) →
          aLex P mu ops S K (l1 ++ i :: l2) (F.put f ok.dst z) m → aLex P mu ops S K (i :: (k :: l1 ++ l2)) f m := fun z hz hl => by
        have h1 := rest hl
        simp only [aLex, hi] at h1
        rw [show k :: l1 ++ l2 = k :: (l1 ++ l2) from rfl]
        rw [aLex]
        simp only [hi]
        rcases aG_cases h1 with ⟨hg, hx⟩ | ⟨j, want, b, hg, hgu, hx⟩
        · refine aG_mk (.inl ⟨hg, ?_⟩)
          rw [if_pos heff] at hx ⊢
          exact aOp_mono ((apart_op hsi hap f z m _).1 hx) fun v m' ⟨hs', hl'⟩ => ⟨hs', tail z v m' hz hl'⟩
        · refine aG_mk (.inr ⟨j, want, b, hg, (apart_guard hap f z hg).symm.trans hgu, ?_⟩)
          cases b
          · simp only [Bool.false_eq_true, if_false] at hx ⊢
            exact tail z _ m hz hx
          · simp only [if_true] at hx ⊢
            rw [if_pos heff] at hx ⊢
            exact aOp_mono ((apart_op hsi hap f z m _).1 hx) fun v m' ⟨hs', hl'⟩ => ⟨hs', tail z v m' hz hl'⟩
      rcases aG_cases h with ⟨hg, hx⟩ | ⟨j, want, b, hg, hgu, hx⟩
      · rw [if_neg (by simp [hne])] at hx
        obtain ⟨v, hv, hl⟩ := hx
        exact body v (.inl ⟨hg, hv⟩) hl
      · cases b
        · exact body (.tp []) (.inr ⟨j, want, false, hg, hgu, by simp⟩) (by simpa using hx)
        · simp only [if_true] at hx
          rw [if_neg (by simp [hne])] at hx
          obtain ⟨v, hv, hl⟩ := hx
          exact body v (.inr ⟨j, want, true, hg, hgu, by simpa using hv⟩) hl

theorem lexOk_spec (h : lexOk mu ops = true) : Region.noSelect ops = true ∧ ∀ i oi, ops[i]? = some oi → (∀ e ∈ oi.after, Region.binds .any e = true → e.on < i) ∧
    ∀ k ok, k < i → ops[k]? = some ok → (∃ e ∈ oi.after, Region.binds .any e = true ∧ e.on = k) ∨ (ok.apart ops oi = true ∧ ¬ (isEff mu ok = true ∧ isEff mu oi = true)) ∨
      k ∈ upOf ops (List.range i).reverse (edgesOf oi) := by
  unfold lexOk at h
  simp only [Bool.and_eq_true, List.all_eq_true, List.mem_range] at h
  refine ⟨h.1, fun i oi hi => ?_⟩
  have hlt : i < ops.size := (Array.getElem?_eq_some_iff.1 hi).1
  have := h.2 i hlt
  simp only [hi, Bool.and_eq_true, List.all_eq_true, List.mem_range] at this
  obtain ⟨h1, h2⟩ := this
  refine ⟨fun e he hb => ?_, fun k ok hk hok => ?_⟩
  · have := Array.all_eq_true_iff_forall_mem.1 h1 e he
    simpa [hb] using this
  · have := h2 k hk
    simp only [hok, Bool.or_eq_true, Bool.and_eq_true, Bool.not_eq_true', Bool.and_eq_false_iff] at this
    have edge : ∀ j, (oi.after.any fun e => Region.binds .any e && e.on == j) = true → ∃ e ∈ oi.after, Region.binds .any e = true ∧ e.on = j := fun j hj => by
      obtain ⟨e, he, hb⟩ := Array.any_eq_true'.1 hj
      simp only [Bool.and_eq_true, beq_iff_eq] at hb
      exact ⟨e, he, hb.1, hb.2⟩
    rcases this with (h3 | ⟨h3, h4⟩) | h3
    · exact .inl (edge k h3)
    · refine .inr (.inl ⟨h3, fun ⟨q1, q2⟩ => ?_⟩)
      rcases h4 with h4 | h4
      · rw [q1] at h4; cases h4
      · rw [q2] at h4; cases h4
    · exact .inr (.inr (by simpa using h3))

theorem mem_edgesOf {o : Oper} {k : Nat} : k ∈ edgesOf o ↔ ∃ e ∈ o.after, Region.binds .any e = true ∧ e.on = k := by
  unfold edgesOf
  simp [and_assoc]
/-- What is asked of the places that are left. -/
def SpecU (mu : List Nat) (ops : Array Oper) (listed : Array Bool) : Prop := ∀ i oi, ops[i]? = some oi → listed.getD i true = false → (∀ e ∈ oi.after, Region.binds .any e = true → e.on < i) ∧
    ∀ k ok, k < i → listed.getD k true = false → ops[k]? = some ok → (∃ e ∈ oi.after, Region.binds .any e = true ∧ e.on = k) ∨ (ok.apart ops oi = true ∧ ¬ (isEff mu ok = true ∧ isEff mu oi = true)) ∨
      k ∈ upOf ops (List.range i).reverse (edgesOf oi)
theorem SpecU.set {listed : Array Bool} (h : SpecU mu ops listed) (j : Nat) : SpecU mu ops (listed.setIfInBounds j true) := by
  have keep : ∀ k, (listed.setIfInBounds j true).getD k true = false → listed.getD k true = false := fun k hk => by
    by_cases hkj : j = k
    · subst hkj
      rcases Nat.lt_or_ge j listed.size with h' | h'
      · simp [h'] at hk
      · simp [Array.getElem?_eq_none h'] at hk
    · rwa [getD_set_ne true hkj] at hk
  intro i oi hi hl
  obtain ⟨h1, h2⟩ := h i oi hi (keep i hl)
  exact ⟨h1, fun k ok hk hkl => h2 k ok hk (keep k hkl)⟩
theorem aLex_anyU {Q : Exit → Act → World → Prop} (hsel0 : Region.noSelect ops = true) (hbd : ∀ (j : Nat) (o : Oper), ops[j]? = some o → dstB n o = true) :
    ∀ (fuel : Nat) (l : List Nat) (listed : Array Bool) {f : F} {m : M} {G : Ghost} {a : Act} {w : World}, SpecU mu ops listed → l.length = fuel → listed.size = ops.size → l.Pairwise (· < ·) → (∀ i, i ∈ l ↔ i < ops.size ∧ listed.getD i true = false) →
      (∀ j oj, ops[j]? = some oj → listed.getD j true = true → ∀ k ∈ edgesOf oj, listed.getD k true = true) →
      aLex P mu ops S K l f m → S m → St n ds G f m a w → (∀ f' m' G' a' w', K f' m' → S m' → St n ds G' f' m' a' w' → Ext G w G' w' → Q .normal a' w') → wpAny P .any ops Q fuel listed a w := by
  have hsel := fun (j : Nat) (o : Oper) cs b h => Region.noSelect_spec hsel0 j o cs b h
  intro fuel
  have hready0 : ∀ (l : List Nat) (listed : Array Bool), listed.size = ops.size → (∀ i, i ∈ l ↔ i < ops.size ∧ listed.getD i true = false) → l = [] → Region.ready .any ops listed = [] := fun l listed hsz hmem hl => by
    rw [List.eq_nil_iff_forall_not_mem]
    intro i hi
    obtain ⟨h1, o, h2, _⟩ := mem_ready.1 hi
    have := (hmem i).2 ⟨(Array.getElem?_eq_some_iff.1 h2).1, h1⟩
    rw [hl] at this
    cases this
  induction fuel with
  | zero =>
    intro l listed f m G a w _ hlen hsz _ hmem _ h hm hSt hQ
    have hl : l = [] := List.eq_nil_of_length_eq_zero hlen
    subst hl
    exact ⟨hready0 [] listed hsz hmem rfl, hQ f m G a w h hm hSt (Ext.refl _ _)⟩
  | succ fuel ih =>
    intro l listed f m G a w hspec hlen hsz hsort hmem hchain h hm hSt hQ
    refine ⟨fun h0 => ?_, fun i hi => ?_⟩
    · -- the first that is left may come up
      exfalso
      cases l with
      | nil => simp at hlen
      | cons i l =>
        obtain ⟨hlt, hun⟩ := (hmem i).1 (by simp)
        have : i ∈ Region.ready .any ops listed := mem_ready.2 ⟨hun, ops[i], Array.getElem?_eq_getElem hlt, fun e he hb => by
          have hlt' := (hspec i ops[i] (Array.getElem?_eq_getElem hlt) hun).1 e he hb
          by_cases hl : listed.getD e.on true = true
          · have : e.on < listed.size := by omega
            simpa [this] using hl
          · have hin := (hmem e.on).2 ⟨by omega, by simpa using hl⟩
            rcases List.mem_cons.1 hin with e1 | e1
            · omega
            · have := (List.pairwise_cons.1 hsort).1 _ e1
              omega⟩
        rw [h0] at this
        cases this
    · obtain ⟨hun, oi, hoi, hedges⟩ := mem_ready.1 hi
      have hlt : i < ops.size := (Array.getElem?_eq_some_iff.1 hoi).1
      have hil : i ∈ l := (hmem i).2 ⟨hlt, hun⟩
      obtain ⟨l1, l2, rfl⟩ := List.append_of_mem hil
      have hsort' := List.pairwise_append.1 hsort
      have hk1 : ∀ k ∈ l1, k < i := fun k hk => hsort'.2.2 k hk i (by simp)
      have hlisted : ∀ j, (∃ e ∈ oi.after, Region.binds .any e = true ∧ e.on = j) → listed.getD j true = true := fun j ⟨e, he, hb, hj⟩ => by
        have := hedges e he hb
        rw [hj] at this
        have hjl : j < listed.size := by
          rcases Nat.lt_or_ge j listed.size with h' | h'
          · exact h'
          · simp [Array.getElem?_eq_none h'] at this
        simpa [hjl] using this
      have hpair : ∀ k ∈ l1, OkPair mu ops k i := fun k hk ok oi' hokk hoi' => by
        rw [hoi] at hoi'; cases hoi'
        have hku : listed.getD k true = false := ((hmem k).1 (by simp [hk])).2
        rcases (hspec i oi hoi hun).2 k ok (hk1 k hk) hku hokk with h3 | ⟨h3, h4⟩ | h3
        · rw [hlisted k h3] at hku; cases hku
        · refine ⟨h3, fun q1 => ?_⟩
          cases q2 : isEff mu oi
          · rfl
          · exact absurd ⟨q1, q2⟩ h4
        · have := upOf_closed (Q := fun j => listed.getD j true = true) hchain _ _ (fun k hk => ?_) k h3
          · rw [this] at hku; cases hku
          · exact hlisted k (mem_edgesOf.1 hk)
      have hrest : ∀ {f' : F} {m' : M} {G' : Ghost} {a' : Act} {w' : World}, aLex P mu ops S K (l1 ++ l2) f' m' → S m' → St n ds G' f' m' a' w' → Ext G w G' w' → wpAny P .any ops Q fuel (listed.setIfInBounds i true) a' w' := fun h' hm' hSt' hE => by
        refine ih (l1 ++ l2) (listed.setIfInBounds i true) (hspec.set i) (by simp at hlen ⊢; omega) (by simpa using hsz) ?_ ?_ ?_ h' hm' hSt' (fun f'' m'' G'' a'' w'' k1 k2 k3 k4 => hQ f'' m'' G'' a'' w'' k1 k2 k3 (hE.trans k4))
        · refine List.pairwise_append.2 ⟨hsort'.1, (List.pairwise_cons.1 hsort'.2.1).2, fun x hx y hy => hsort'.2.2 x hx y (by simp [hy])⟩
        · intro j
          have hjm := hmem j
          by_cases hji : i = j
          · subst hji
            have hnot1 : i ∉ l1 := fun hx => absurd (hk1 i hx) (Nat.lt_irrefl _)
            have hnot2 : i ∉ l2 := fun hx => absurd ((List.pairwise_cons.1 hsort'.2.1).1 i hx) (Nat.lt_irrefl _)
            refine ⟨fun hx => ?_, fun ⟨_, hx⟩ => ?_⟩
            · rcases List.mem_append.1 hx with hx | hx
              · exact absurd hx hnot1
              · exact absurd hx hnot2
            · have : i < listed.size := by omega
              simp [this] at hx
          · rw [getD_set_ne true hji, ← hjm]
            simp [Ne.symm hji]
        · intro j oj hoj hj k hk
          have keep : ∀ k, listed.getD k true = true → (listed.setIfInBounds i true).getD k true = true := fun k hk => by
            by_cases hki : i = k
            · subst hki
              have : i < listed.size := by omega
              simp [this]
            · rw [getD_set_ne true hki]; exact hk
          by_cases hji : i = j
          · subst hji
            rw [hoi] at hoj; cases hoj
            exact keep k (hlisted k (mem_edgesOf.1 hk))
          · rw [getD_set_ne true hji] at hj
            exact keep k (hchain j oj hoj hj k hk)
      have hbi := hbd i oi hoi
      unfold wpOp
      simp only [hoi]
      by_cases he : isEff mu oi = true
      · have h' := aLex_pull hsel hoi he l1 l2 hpair h hm
        simp only [aLex, hoi] at h'
        rcases aG_cases h' with ⟨hg, hx⟩ | ⟨j, want, b, hg, hgu, hx⟩
        · rw [if_pos he] at hx
          rw [if_pos (by simp [Region.wanted, hg])]
          exact .inl (aOp_sound0 hx hSt hbi (fun v m' G' y w' k1 k2 k3 => hrest k1.2 k1.1 k2 k3))
        · have hw := guardA_spec hSt.fr hg hgu
          cases b
          · rw [if_neg (by simp [hw])]
            exact hrest (by simpa using hx) hm (hSt.put hbi (.tp [] [] rfl (fun j h => by simp at h)) hSt.inv (Ext.refl _ _)) (Ext.refl _ _)
          · simp only [if_true] at hx
            rw [if_pos he] at hx
            rw [if_pos hw]
            exact .inl (aOp_sound0 hx hSt hbi (fun v m' G' y w' k1 k2 k3 => hrest k1.2 k1.1 k2 k3))
      · have he' : isEff mu oi = false := by simpa using he
        have hpk := aLex_peek hsel hbd hoi he' l1 l2 hpair h hm hSt
        rcases aG_cases hpk with ⟨hg, v, hv⟩ | ⟨j, want, b, hg, hgu, hx⟩
        · rw [if_pos (by simp [Region.wanted, hg])]
          refine .inl (aOp_sound0 (aQuiet_op (K' := fun v' m' => v' = v ∧ m' = m) hm hv ⟨rfl, rfl⟩) hSt hbi (fun v' m' G' y w' k1 k2 k3 => ?_))
          obtain ⟨rfl, rfl⟩ := k1
          exact hrest (aLex_erase hsel hoi he' l1 l2 hpair h hm (.inl ⟨hg, hv⟩)) hm k2 k3
        · have hw := guardA_spec hSt.fr hg hgu
          cases b
          · rw [if_neg (by simp [hw])]
            exact hrest (aLex_erase hsel hoi he' l1 l2 hpair h hm (.inr ⟨j, want, false, hg, hgu, by simp⟩)) hm (hSt.put hbi (.tp [] [] rfl (fun j h => by simp at h)) hSt.inv (Ext.refl _ _)) (Ext.refl _ _)
          · simp only [if_true] at hx
            obtain ⟨v, hv⟩ := hx
            rw [if_pos hw]
            refine .inl (aOp_sound0 (aQuiet_op (K' := fun v' m' => v' = v ∧ m' = m) hm hv ⟨rfl, rfl⟩) hSt hbi (fun v' m' G' y w' k1 k2 k3 => ?_))
            obtain ⟨rfl, rfl⟩ := k1
            exact hrest (aLex_erase hsel hoi he' l1 l2 hpair h hm (.inr ⟨j, want, true, hg, hgu, by simpa using hv⟩)) hm k2 k3
theorem aLex_any {Q : Exit → Act → World → Prop} (hok : lexOk mu ops = true) (hbd : ∀ (j : Nat) (o : Oper), ops[j]? = some o → dstB n o = true) :
    ∀ (fuel : Nat) (l : List Nat) (listed : Array Bool) {f : F} {m : M} {G : Ghost} {a : Act} {w : World}, l.length = fuel → listed.size = ops.size → l.Pairwise (· < ·) → (∀ i, i ∈ l ↔ i < ops.size ∧ listed.getD i true = false) →
      (∀ j oj, ops[j]? = some oj → listed.getD j true = true → ∀ k ∈ edgesOf oj, listed.getD k true = true) →
      aLex P mu ops S K l f m → S m → St n ds G f m a w → (∀ f' m' G' a' w', K f' m' → S m' → St n ds G' f' m' a' w' → Ext G w G' w' → Q .normal a' w') → wpAny P .any ops Q fuel listed a w := by
  obtain ⟨hsel0, hspec⟩ := lexOk_spec hok
  intro fuel l listed f m G a w
  exact aLex_anyU hsel0 hbd fuel l listed (fun i oi hi _ => ⟨(hspec i oi hi).1, fun k ok hk _ => (hspec i oi hi).2 k ok hk⟩)
end
end Go.Proofs.YtepjjgnkhcjpcaaDoor
