/-
 Texts that belong together: TeG, TeH, TeI, TeJ.
-/
-- halved
import Derived.Test.YthhhnfjcaicjnaaGreatDoorTuA
import Derived.Test.YthhhnfjcaicjnaaGreatDoorNjA
import Derived.Test.YthhhnfjcaicjnaaGreatDoorMkB
set_option linter.unusedVariables false
namespace Go.Proofs.YthhhnfjcaicjnaaGreatDoor
open Go
def GAQ (E : List En) (DB : List Qu → Prop) (q : Qu) : Prop := QA E q ∧ ∀ x ∈ q.arms, DB x.eqs
def GA (E : List En) : Nat → List Qu → Prop
 | 0 => fun Q => ∀ q ∈ Q, GAQ E (fun _ => False) q
 | d + 1 => fun Q => ∀ q ∈ Q, GAQ E (GA E d) q
theorem gb_ga {E : List En} : ∀ {d : Nat} {V : List Va} {Q : List Qu}, GB E d V Q → GA E d Q
 | 0, V, Q, h => fun q hq => ⟨(h.2 q hq).1, (h.2 q hq).2.2⟩
 | d + 1, V, Q, h => fun q hq => ⟨(h.2 q hq).1, fun a ha => gb_ga ((h.2 q hq).2.2 a ha)⟩
theorem ga_gb {E : List En} : ∀ {d : Nat} {V : List Va} {Q : List Qu}, GA E d Q → NwG d V Q → GB E d V Q
 | 0, V, Q, h, hn => ⟨fun v hv => (hn.2.1 v hv).weak, fun q hq => ⟨(h q hq).1, (hn.2.2.2 q hq).1.weak, (h q hq).2⟩⟩
 | d + 1, V, Q, h, hn => ⟨fun v hv => (hn.2.1 v hv).weak, fun q hq => ⟨(h q hq).1, (hn.2.2.2 q hq).1.weak, fun a ha => ga_gb ((h q hq).2 a ha) ((hn.2.2.2 q hq).2 a ha)⟩⟩
theorem gb_nw {E : List En} : ∀ {d : Nat} {V : List Va} {Q : List Qu}, GB E d V Q → wtF d V Q ≤ 1000000000 → NwB d V Q
 | 0, V, Q, h, hw => by
  have := wt_eqs (fun _ _ => 0) V Q
  have hw2 : wtB (fun _ _ => 0) V Q ≤ 1000000000 := hw
  exact ⟨by omega, h.1, by omega, fun q hq => ⟨(h.2 q hq).2.1, List.eq_nil_iff_forall_not_mem.2 (fun x hx => (h.2 q hq).2.2 x hx)⟩⟩
 | d + 1, V, Q, h, hw => by
  have := wt_eqs (wtF d) V Q
  have hw2 : wtB (wtF d) V Q ≤ 1000000000 := hw
  refine ⟨by omega, h.1, by omega, fun q hq => ⟨(h.2 q hq).2.1, fun a ha => gb_nw ((h.2 q hq).2.2 a ha) ?_⟩⟩
  have h1 := wt_eq (wb := wtF d) (V := V) hq
  have h2 := wt_blk (wb := wtF d) ha
  omega
theorem gb_rs {E : List En} : ∀ (d : Nat) (V : List Va) (Q : List Qu), GA E d Q → RsB d V Q
 | 0, V, Q, h => fun q hq => ⟨(h q hq).1.2, (h q hq).2⟩
 | d + 1, V, Q, h => fun q hq => ⟨(h q hq).1.2, fun a ha => gb_rs d a.vars a.eqs ((h q hq).2 a ha)⟩
theorem gb_ar {E : List En} {d : Nat} {Q : List Qu} (h : GA E d Q) {q : Qu} (hq : q ∈ Q) (hk : q.kind = 1) : q.e.ar E := by
 cases d with
 | zero => exact (h q hq).1.1 hk
 | succ d => exact (h q hq).1.1 hk

mutual
theorem same_ar {E : List En} : ∀ (a b : Ex), a.same b = true → a.ar E → b.ar E
 | .mk k o n nm ns ks _ _, .mk k' o' n' nm' ns' ks' _ _, h, ha => by
  rw [Ex.same] at h
  simp only [Bool.and_eq_true, beq_iff_eq] at h
  obtain ⟨⟨⟨⟨⟨rfl, rfl⟩, rfl⟩, h4⟩, h5⟩, h6⟩ := h
  have e4 : nm = nm' := eqS_iff.1 h4
  subst e4
  rw [Ex.ar] at ha ⊢
  have hl : ns.length = ns'.length := sameL_len h5
  have h7 := h6
  rw [Ex.sames_eq] at h7
  have hk : ks.length = ks'.length := sameL_len h7
  rw [← hl, ← hk]
  exact ⟨ha.1, sames_ar ks ks' h6 ha.2⟩
theorem sames_ar {E : List En} : ∀ (a b : List Ex), Ex.sames a b = true → Ex.ars E a → Ex.ars E b
 | [], [], _, _ => trivial
 | a :: l, b :: r, h, ha => by
  rw [Ex.sames] at h
  simp only [Bool.and_eq_true] at h
  rw [Ex.ars] at ha ⊢
  exact ⟨same_ar a b h.1 ha.1, sames_ar l r h.2 ha.2⟩
 | [], _ :: _, h, _ => by simp [Ex.sames] at h
 | _ :: _, [], h, _ => by simp [Ex.sames] at h
end
theorem smQ_qa {E : List En} {sb : SbT} {a b : Qu} (h : smQ sb a b = true) (ha : QA E a) : QA E b := by
 unfold smQ at h
 simp only [Bool.and_eq_true, beq_iff_eq] at h
 obtain ⟨⟨⟨⟨⟨⟨hk, _⟩, _⟩, _⟩, _⟩, he⟩, har⟩ := h
 refine ⟨fun h1 => same_ar _ _ he (ha.1 (by rw [hk]; exact h1)), fun h5 h0 => ?_⟩
 have hl := sameL_len har
 rw [h0] at hl
 exact ha.2 (by rw [hk]; exact h5) (List.length_eq_zero_iff.1 hl)
theorem smL_mem {α : Type} {R : α → α → Bool} : ∀ {l r : List α}, sameL R l r = true → ∀ y ∈ r, ∃ x ∈ l, R x y = true
 | [], [], _, y, hy => by cases hy
 | a :: l, b :: r, h, y, hy => by
  simp only [sameL, Bool.and_eq_true] at h
  rcases List.mem_cons.1 hy with rfl | hy
  ·exact ⟨a, List.mem_cons_self .., h.1⟩
  ·obtain ⟨x, hx, hr⟩ := smL_mem h.2 y hy
   exact ⟨x, List.mem_cons_of_mem _ hx, hr⟩
 | [], _ :: _, h, _, _ => by simp [sameL] at h
 | _ :: _, [], h, _, _ => by simp [sameL] at h
theorem smQ_arm {sb : SbT} {a b : Qu} (h : smQ sb a b = true) : ∀ y ∈ b.arms, ∃ x ∈ a.arms, sb x.vars x.eqs y.vars y.eqs = true := fun y hy => by
 unfold smQ at h
 simp only [Bool.and_eq_true] at h
 obtain ⟨x, hx, hr⟩ := smL_mem h.2 y hy
 unfold smA at hr
 simp only [Bool.and_eq_true] at hr
 exact ⟨x, hx, hr.1.1.2⟩
theorem smB_eq {sb : SbT} {V : List Va} {Q : List Qu} {V' : List Va} {Q' : List Qu} (h : smB sb V Q V' Q' = true) : sameL (smQ sb) Q Q' = true := by
 unfold smB at h
 simp only [Bool.and_eq_true] at h
 exact h.2
theorem smF_gb {E : List En} : ∀ (d : Nat) (V : List Va) (Q : List Qu) (V' : List Va) (Q' : List Qu), smF d V Q V' Q' = true → GA E d Q → GA E d Q'
 | 0, V, Q, V', Q', h, hg => fun y hy => by
  obtain ⟨x, hx, hr⟩ := smL_mem (smB_eq h) y hy
  exact ⟨smQ_qa hr (hg x hx).1, fun z hz => by obtain ⟨_, _, h0⟩ := smQ_arm hr z hz; cases h0⟩
 | d + 1, V, Q, V', Q', h, hg => fun y hy => by
  obtain ⟨x, hx, hr⟩ := smL_mem (smB_eq h) y hy
  exact ⟨smQ_qa hr (hg x hx).1, fun z hz => by
   obtain ⟨w, hw, h0⟩ := smQ_arm hr z hz
   exact smF_gb d w.vars w.eqs z.vars z.eqs h0 ((hg x hx).2 w hw)⟩

set_option linter.unusedVariables false
set_option linter.unusedSimpArgs false
open Go
def ColAll (E : List En) : Prop := ∀ c ∈ [sRed, sGreen, sBlue], 0 ≤ ctorEn E c
theorem const_ar {E : List En} (hE : ColAll E) {t : Ty} {e : Ex} (h : isConst t e) : e.ar E := by
 rcases h with ⟨_, k, _, rfl⟩ | ⟨_, k, _, rfl⟩ | ⟨_, c, hc, rfl⟩
 ·exact ar_leaf (.inr (.inl rfl))
 ·exact ar_leaf (.inl rfl)
 ·exact ar_leaf (.inr (.inr (.inr (.inr ⟨rfl, hE c hc⟩))))
theorem vc_ar {E : List En} (hE : ColAll E) {l : List Va} {t : Ty} {e : Ex} (h : isVC l t e) : e.ar E := by
 rcases h with ⟨s, _, rfl⟩ | h
 ·exact ar_leaf (.inr (.inr (.inl rfl)))
 ·exact const_ar hE h
theorem ar_parts {E : List En} {k o i : Int} {nm : Str} {l c : Int} {ks : List Ex} (hs : Ex.ars E ks) (h : (k = 8 ∧ ks.length = 3) ∨ ((k = 9 ∨ k = 11) ∧ ks.length = 2) ∨ (k = 10 ∧ ks.length = 1) ∨ (k = 6 ∧ ks.length = 1 ∧ 1 ≤ o ∧ o ≤ 16) ∨ (k = 7 ∧ ks.length = 2 ∧ 1 ≤ o ∧ o ≤ 16)) : (Ex.mk k o i nm [] ks l c).ar E := by
 rw [Ex.ar]
 refine ⟨?_, hs⟩
 unfold arK
 simp only [List.length_nil]
 omega
theorem gex_ar {E : List En} (hE : ColAll E) : ∀ (d : Nat) {s : Sc} {t : Ty} {st : Bool} {e : Ex}, GEx d s t st e → e.ar E
 | 0, s, t, st, e, h => vc_ar hE h
 | d + 1, s, t, st, e, h => by
  rcases h with h | ⟨c, a, b, h1, h2, h3, rfl⟩ | ⟨_, c, b, h1, h2, rfl⟩ | ⟨_, a, b, h1, h2, rfl⟩ | ⟨x, h1, rfl⟩ | ⟨_, a, h1, rfl⟩ | ⟨_, o, a, b, ho, h1, h2, rfl⟩ | ⟨_, a, h1, rfl⟩ | ⟨_, o, u, a, b, ho, h1, h2, rfl⟩ | h
  ·exact vc_ar hE h
  ·exact ar_parts ⟨gex_ar hE d h1, gex_ar hE d h2, gex_ar hE d h3, trivial⟩ (by simp)
  ·exact ar_parts ⟨const_ar hE h1, gex_ar hE d h2, trivial⟩ (by simp)
  ·exact ar_parts ⟨gex_ar hE d h1, ar_parts ⟨gex_ar hE d h2, trivial⟩ (by simp), trivial⟩ (by simp)
  ·exact ar_leaf (.inr (.inr (.inr (.inl rfl))))
  ·exact ar_parts ⟨gex_ar hE d h1, trivial⟩ (by simp)
  ·exact ar_parts ⟨gex_ar hE d h1, gex_ar hE d h2, trivial⟩ (by simp; omega)
  ·exact ar_parts ⟨gex_ar hE d h1, trivial⟩ (by simp)
  ·exact ar_parts ⟨gex_ar hE d h1, gex_ar hE d h2, trivial⟩ (by simp; omega)
  ·exact vc_ar hE h

set_option linter.unusedVariables false
set_option linter.unusedSimpArgs false
set_option linter.unusedSectionVars false
open Go
theorem ar_def {E : List En} {v : Va} {e : Ex} (h : e.ar E) : QA E (defQ v e) := ⟨fun _ => h, fun h5 => absurd h5 (by show ¬ (1 : Int) = 5; decide)⟩
theorem qa_kind {E : List En} {q : Qu} (h1 : q.kind ≠ 1) (h5 : q.kind = 5 → q.arms ≠ []) : QA E q := ⟨fun h => absurd h h1, h5⟩
theorem ar_wh {E : List En} {c : Va} {nm : Str} {e : Ex} (h : e.ar E) : (whE c nm e).ar E := by
 unfold whE
 rw [Ex.ar]
 refine ⟨?_, h, trivial⟩
 simp [arK]
theorem ar_va {E : List En} {w : Va} : (vaE w).ar E := ar_leaf (.inr (.inr (.inl rfl)))
theorem ar_mg {E : List En} {c w : Va} {e k : Ex} (h : e.ar E) (hk : k.ar E) : (mgE c w e k).ar E := by
 unfold mgE
 rw [Ex.ar]
 refine ⟨?_, ar_wh h, ar_va, hk, trivial⟩
 simp [arK]
theorem defs_g {E : List En} (hE : ColAll E) {PB : List Qu → Prop} {s : Sc} : ∀ {outs : List Va} {l : List Qu}, GDefs s outs l → ∀ q ∈ l, GAQ E PB q
 | [], l, h => by cases h; intro q hq; cases hq
 | v :: r, l, ⟨e, l', he, hl, h2⟩ => by
  subst hl
  intro q hq
  rcases List.mem_cons.1 hq with rfl | hq
  ·exact ⟨ar_def (gex_ar hE _ he), fun x hx => by cases hx⟩
  ·exact defs_g hE h2 q hq
theorem chn_p {R : Nat → Nat → Nat → Am → Prop} {Q : Am → Prop} (h : ∀ j n n' a, R j n n' a → Q a) : ∀ (l : List Am) (j n n' : Nat), Chn R j n n' l → ∀ a ∈ l, Q a
 | [], j, n, n', _, a, ha => by cases ha
 | b :: l, j, n, n', ⟨n1, h1, h2⟩, a, ha => by
  rcases List.mem_cons.1 ha with rfl | ha
  ·exact h _ _ _ _ h1
  ·exact chn_p h l _ _ _ h2 a ha
theorem eqs_g {E : List En} (hE : ColAll E) {RB : RBT} {PB : List Qu → Prop} (hB : ∀ n n' s outs b, RB n n' s outs b → PB b.eqs) {subs : Int} {n n' : Nat} {s : Sc} {outs : List Va} {l : List Qu} {vs : List Va} (h : GEqs RB subs n n' s outs l vs) : ∀ q ∈ l, GAQ E PB q := by
 induction h with
 | defs h => exact defs_g hE h
 | @choice n n' s outs x h =>
  obtain ⟨t, ns, e, ar, hns, he, hnm, hc, rfl⟩ := h
  intro q hq
  rw [List.mem_singleton] at hq
  subst hq
  refine ⟨qa_kind (by show ¬ (3 : Int) = 1; decide) (fun h => absurd h (by show ¬ (3 : Int) = 5; decide)), ?_⟩
  refine chn_p (fun j n n' a ⟨nm, l, b, _, _, hb, ha⟩ => ?_) _ _ _ _ hc
  subst ha
  exact hB _ _ _ _ _ hb
 | @auto n n' s outs x h =>
  obtain ⟨nn, ar, hnn, hal, hc, rfl⟩ := h
  intro q hq
  rw [List.mem_singleton] at hq
  subst hq
  refine ⟨qa_kind (by show ¬ (4 : Int) = 1; decide) (fun h => absurd h (by show ¬ (4 : Int) = 5; decide)), ?_⟩
  refine chn_p (fun j n n' a ⟨l, u, b, w, _, _, _, hb, _, ha⟩ => ?_) _ _ _ _ hc
  subst ha
  exact hB _ _ _ _ _ hb
 | @reset n n' s outs x h =>
  obtain ⟨e, b, he, hb, rfl⟩ := h
  intro q hq
  rw [List.mem_singleton] at hq
  subst hq
  refine ⟨qa_kind (by show ¬ (5 : Int) = 1; decide) (fun _ h => by cases h), fun x hx => ?_⟩
  simp only [Qu.arms, List.mem_singleton] at hx
  subst hx
  exact hB _ _ _ _ _ hb
 | @call n n' s outs x y z l vs h h2 ih =>
  obtain ⟨k, a, b, hb, e, _, rfl, rfl, ha, hbx, he, rfl⟩ := h
  intro q hq
  rcases List.mem_cons.1 hq with rfl | hq
  ·exact ⟨qa_kind (by show ¬ (2 : Int) = 1; decide) (fun h => absurd h (by show ¬ (2 : Int) = 5; decide)), fun x hx => by cases hx⟩
  ·exact ih q hq
 | @samp n n' s outs c w z q1 q2 q3 l vs h h2 ih =>
  obtain ⟨e1, e2, e3, k1, kp, rfl, rfl, rfl, g1, g2, g3, hk1, hkp, rfl, rfl, rfl⟩ := h
  have hkx : kp.ar E := by
   rcases hkp with rfl | ⟨k2, hk2, rfl⟩
   ·exact ar_wh (gex_ar hE _ g1)
   ·exact ar_parts ⟨const_ar hE hk2, ar_parts ⟨ar_va, ar_wh (gex_ar hE _ g1), trivial⟩ (by simp), trivial⟩ (by simp)
  intro q hq
  rcases List.mem_cons.1 hq with rfl | hq
  ·exact ⟨ar_def (gex_ar hE _ g3), fun x hx => by cases hx⟩
  rcases List.mem_cons.1 hq with rfl | hq
  ·exact ⟨ar_def hkx, fun x hx => by cases hx⟩
  rcases List.mem_cons.1 hq with rfl | hq
  ·exact ⟨ar_def (ar_mg (gex_ar hE _ g2) (const_ar hE hk1)), fun x hx => by cases hx⟩
  ·exact ih q hq
theorem todo_g {E : List En} (hE : ColAll E) {RB : RBT} {PB : List Qu → Prop} (hB : ∀ n n' s outs b, RB n n' s outs b → PB b.eqs) {subs : Int} {n n' : Nat} {s : Sc} {outs : List Va} {l : List Qu} {vs : List Va} (h : GTodo (GEqs RB subs) n n' s outs l vs) : ∀ q ∈ l, GAQ E PB q := by
 induction h with
 | nil => intro q hq; cases hq
 | @step n n1 n' s a r l vs l' vs' ha1 ha3 h1 h2 ih =>
  intro q hq
  rcases List.mem_append.1 hq with hq | hq
  ·exact eqs_g hE hB h1 q hq
  ·exact ih q hq
theorem bk_g {E : List En} (hE : ColAll E) : ∀ (d : Nat) (subs : Int) (n n' : Nat) (s : Sc) (outs : List Va) (b : Bk), GBk d subs n n' s outs b → GA E d b.eqs
 | 0, subs, n, n', s, outs, b, ⟨own, l, vs, _, _, ht, hb⟩ => by
  subst hb
  exact todo_g hE (PB := fun _ => False) (fun _ _ _ _ _ h => h.elim) ht
 | d + 1, subs, n, n', s, outs, b, ⟨own, l, vs, _, _, ht, hb⟩ => by
  subst hb
  exact todo_g hE (PB := GA E d) (fun n n' s outs b h => bk_g hE d subs n n' s outs b h) ht
theorem made_g {E : List En} (hE : ColAll E) {ns : List No} (h : GNodes ns) : ∀ n ∈ ns, GA E 3 n.b.eqs ∧ n.ins.length ≤ 2 ∧ n.outs.length ≤ 2 := fun n hn => by
 obtain ⟨k, hk, rfl⟩ := List.getElem_of_mem hn
 obtain ⟨l, e, b, n', hle, hn', hb, he⟩ := h k hk
 rw [he]
 exact ⟨bk_g hE 3 _ _ _ _ _ b hb, by simp [nIns], by simp [nOuts]⟩
theorem smE_ctors : ∀ {E E' : List En}, sameL smE E E' = true → E.map En.ctors = E'.map En.ctors
 | [], [], _ => rfl
 | a :: l, b :: r, h => by
  simp only [sameL, smE, Bool.and_eq_true] at h
  have h1 : a.ctors = b.ctors := (sameL_iff (fun a b => eqS_iff)).1 h.1.2
  rw [List.map_cons, List.map_cons, h1, smE_ctors h.2]
 | [], _ :: _, h => by simp [sameL] at h
 | _ :: _, [], h => by simp [sameL] at h
theorem idxF_map {α β : Type} (g : α → β) (p : β → Bool) : ∀ (l : List α) (k : Nat), idxF (fun x => p (g x)) l k = idxF p (l.map g) k
 | [], k => rfl
 | a :: l, k => by
  rw [List.map_cons]
  unfold idxF
  rw [idxF_map g p l]
theorem ctorEn_same {E E' : List En} (h : sameL smE E E' = true) (s : Str) : ctorEn E s = ctorEn E' s := by
 unfold ctorEn
 rw [idxF_map En.ctors (fun l => hasS l s) E, idxF_map En.ctors (fun l => hasS l s) E', smE_ctors h]
mutual
theorem ar_same {E E' : List En} (h : sameL smE E E' = true) : ∀ e : Ex, e.ar E → e.ar E'
 | .mk k o n nm ns ks _ _, ha => by
  rw [Ex.ar] at ha ⊢
  refine ⟨?_, ars_same h ks ha.2⟩
  have h1 := ha.1
  unfold arK at h1 ⊢
  rw [← ctorEn_same h nm]
  exact h1
theorem ars_same {E E' : List En} (h : sameL smE E E' = true) : ∀ l : List Ex, Ex.ars E l → Ex.ars E' l
 | [], _ => trivial
 | e :: r, ha => by
  rw [Ex.ars] at ha ⊢
  exact ⟨ar_same h e ha.1, ars_same h r ha.2⟩
end
theorem qa_same {E E' : List En} (h : sameL smE E E' = true) {q : Qu} (hq : QA E q) : QA E' q := ⟨fun h1 => ar_same h _ (hq.1 h1), hq.2⟩
theorem gb_same {E E' : List En} (h : sameL smE E E' = true) : ∀ (d : Nat) (Q : List Qu), GA E d Q → GA E' d Q
 | 0, Q, hg => fun q hq => ⟨qa_same h (hg q hq).1, (hg q hq).2⟩
 | d + 1, Q, hg => fun q hq => ⟨qa_same h (hg q hq).1, fun a ha => gb_same h d _ ((hg q hq).2 a ha)⟩
theorem colAll_col : ColAll [⟨sCol, [sRed, sGreen, sBlue], 0, 0⟩] := by
 intro c hc
 unfold ctorEn
 simp only [List.mem_cons, List.not_mem_nil, or_false] at hc
 rcases hc with rfl | rfl | rfl <;> exact of_decide_eq_true (by kernel_rfl)
theorem smL_sum {α : Type} {R : α → α → Bool} {f : α → Nat} : ∀ {l r : List α}, (∀ x ∈ l, ∀ y, R x y = true → f x = f y) → sameL R l r = true → (l.map f).sum = (r.map f).sum
 | [], [], _, _ => rfl
 | a :: l, b :: r, hR, h => by
  simp only [sameL, Bool.and_eq_true] at h
  rw [List.map_cons, List.map_cons, List.sum_cons, List.sum_cons, hR a (List.mem_cons_self ..) b h.1, smL_sum (fun x hx => hR x (List.mem_cons_of_mem _ hx)) h.2]
 | [], _ :: _, _, h => by simp [sameL] at h
 | _ :: _, [], _, h => by simp [sameL] at h
theorem smQ_wt {sb : SbT} {wb : WbT} {a b : Qu} (hw : ∀ x ∈ a.arms, ∀ y : Am, sb x.vars x.eqs y.vars y.eqs = true → wb x.vars x.eqs = wb y.vars y.eqs) (h : smQ sb a b = true) : wtQ wb a = wtQ wb b := by
 unfold smQ at h
 simp only [Bool.and_eq_true, beq_iff_eq] at h
 obtain ⟨⟨⟨⟨⟨⟨_, hl⟩, _⟩, ha⟩, _⟩, _⟩, har⟩ := h
 unfold wtQ
 rw [sameL_len hl, sameL_len ha, smL_sum (R := smA sb) (f := wtA wb) (fun x hx y hy => ?_) har]
 unfold smA at hy
 simp only [Bool.and_eq_true] at hy
 unfold wtA
 rw [hw x hx y hy.1.1.2, sameL_len hy.1.2, sameL_len hy.2]
theorem smF_wt : ∀ (d : Nat) (V : List Va) (Q : List Qu) (V' : List Va) (Q' : List Qu), smF d V Q V' Q' = true → wtF d V Q = wtF d V' Q'
 | 0, V, Q, V', Q', h => by
  have h1 := smB_eq h
  unfold smF smB at h
  simp only [Bool.and_eq_true] at h
  show V.length + _ = V'.length + _
  rw [sameL_len h.1, smL_sum (R := smQ (fun _ _ _ _ => false)) (f := wtQ (fun _ _ => 0)) (fun x hx y hy => smQ_wt (fun _ _ _ _ => rfl) hy) h1]
 | d + 1, V, Q, V', Q', h => by
  have h1 := smB_eq h
  unfold smF smB at h
  simp only [Bool.and_eq_true] at h
  show V.length + _ = V'.length + _
  rw [sameL_len h.1, smL_sum (R := smQ (smF d)) (f := wtQ (wtF d)) (fun x hx y hy => smQ_wt (fun z hz w hw => smF_wt d _ _ _ _ hw) hy) h1]
theorem smN_gb {E E' : List En} {d W : Nat} {ns l : List No} (hE : sameL smE E E' = true) (hs : sameL (smN d) ns l = true) (h : ∀ n ∈ ns, GA E d n.b.eqs ∧ wtF d n.b.vars n.b.eqs ≤ W ∧ n.ins.length ≤ W ∧ n.outs.length ≤ W) : ∀ n ∈ l, GA E' d n.b.eqs ∧ wtF d n.b.vars n.b.eqs ≤ W ∧ n.ins.length ≤ W ∧ n.outs.length ≤ W := by
 intro y hy
 obtain ⟨x, hx, hr⟩ := smL_mem hs y hy
 obtain ⟨h1, h2, h3, h4⟩ := h x hx
 unfold smN at hr
 simp only [Bool.and_eq_true] at hr
 refine ⟨gb_same hE d _ (smF_gb d _ _ _ _ hr.2 h1), by rw [← smF_wt d _ _ _ _ hr.2]; exact h2, by rw [← sameL_len hr.1.1.2]; exact h3, by rw [← sameL_len hr.1.2]; exact h4⟩
theorem sum_leW {α : Type} (f : α → Nat) (W : Nat) : ∀ (l : List α), (∀ x ∈ l, f x ≤ W) → (l.map f).sum ≤ l.length * W
 | [], _ => by simp
 | a :: l, h => by
  rw [List.map_cons, List.sum_cons, List.length_cons, Nat.add_mul]
  have h1 := h a (List.mem_cons_self ..)
  have h2 := sum_leW f W l (fun x hx => h x (List.mem_cons_of_mem _ hx))
  omega
end Go.Proofs.YthhhnfjcaicjnaaGreatDoor
