/-
 Texts that belong together: NmD, NmP.
-/
-- halved
import Derived.Test.YteiaedmipkcfeaaDoorAbFr
import Derived.Test.YteiaedmipkcfeaaDoorNvA
/-
 What is made has its names: expressions, equations, blocks, and what they define.
-/
set_option linter.unusedVariables false
set_option linter.unusedSimpArgs false
set_option linter.unusedSectionVars false
namespace Go.Proofs.YteiaedmipkcfeaaDoor
open Go

abbrev cols : List Str := [sRed, sGreen, sBlue]
/-- A variable that is there; one that has a last value. -/
def InV (E : List Va) (s : Str) : Prop := ∃ k, k < E.length ∧ findVar E s = (k : Int)
def LaV (E : List Va) (s : Str) : Prop := ∃ k, ∃ h : k < E.length, findVar E s = (k : Int) ∧ E[k].last = true
def NmK (E : List Va) (e : Ex) : Prop :=
 (e.kind ≠ 3 ∧ e.kind ≠ 4 ∧ e.kind ≠ 5 ∧ e.kind ≠ 12 ∧ e.kind ≠ 13) ∨ (e.kind = 3 ∧ e.name ∈ cols) ∨ (e.kind = 4 ∧ InV E e.name) ∨ (e.kind = 5 ∧ LaV E e.name) ∨
 ((e.kind = 12 ∨ e.kind = 13) ∧ InV E e.name ∧ ∀ c ∈ e.names, c ∈ cols)
inductive NmE (E : List Va) : Ex → Prop
 | mk {e : Ex} (hk : ∀ i (h : i < e.kids.length), NmE E e.kids[i]) (h : NmK E e) : NmE E e
/-- A variable is right. -/
def NvT (E : List Va) (v : Va) : Prop := (v.t.kind = 3 → v.t.name = sCol) ∧ (v.last = true → ∀ F, NmE F v.first) ∧ ∀ o ∈ v.clock, InV E o.var ∧ o.ctor ∈ cols
def NmW (E : List Va) (ns : List Str) (l : List Tr) : Prop := ∀ t ∈ l, NmE E t.e ∧ t.to ∈ ns
/-- The nodes that can be called. -/
def NsN (ns : List No) : Prop := ns.length ≤ 3 ∧ ∀ k (h : k < ns.length), ns[k].name = nameS ⟨#[102]⟩ k
/-- Arms that define all of D, or less of it by last values. -/
def NmA (PB : List Va → List Str → List Va → List Qu → Prop) (E : List Va) (D : List Str) (ar : List Am) : Prop :=
 ar.length ≤ 3 ∧ ∃ Dr : List (List Str), (D :: Dr).length = ar.length ∧ ∀ i (h : i < (D :: Dr).length) (h' : i < ar.length), PB E (D :: Dr)[i] ar[i].vars ar[i].eqs ∧ (∀ x ∈ (D :: Dr)[i], x ∈ D) ∧ (∀ x ∈ D, x ∈ (D :: Dr)[i] ∨ LaV E x) ∧
  NmW E (ar.map Am.name) ar[i].unl ∧ NmW (E ++ ar[i].vars) (ar.map Am.name) ar[i].til
/-- An equation that is right and defines D, its blocks being so. -/
def NmQ (ns : List No) (PB : List Va → List Str → List Va → List Qu → Prop) (E : List Va) (D : List Str) (q : Qu) : Prop :=
 (q.kind = 1 ∧ q.lhs = D ∧ NmE E q.e) ∨
 (q.kind = 2 ∧ (∃ k, k < ns.length ∧ q.name = nameS ⟨#[102]⟩ k) ∧ q.lhs = D ∧ (∀ e ∈ q.args, NmE E e) ∧ (q.has = true → NmE E q.e)) ∨
 (q.kind = 5 ∧ q.lhs = [] ∧ (∃ a r, q.arms = a :: r ∧ PB E D a.vars a.eqs) ∧ NmE E q.e) ∨
 (((q.kind = 3 ∧ NmE E q.e) ∨ (q.kind = 4 ∧ ∀ i j (hi : i < q.arms.length) (hj : j < q.arms.length), i < j → q.arms[i].name ≠ q.arms[j].name)) ∧ q.lhs = [] ∧ NmA PB E D q.arms)
def NmQs (ns : List No) (PB : List Va → List Str → List Va → List Qu → Prop) (E : List Va) : List Qu → List Str → Prop
 | [], D => D = []
 | q :: l, D => ∃ D1 D2, D = D1 ++ D2 ∧ D1.Nodup ∧ D1.length ≤ 100 ∧ NmQ ns PB E D1 q ∧ NmQs ns PB E l D2
/-- A block that is right and defines D beside its own variables. -/
def NmBs (ns : List No) (PB : List Va → List Str → List Va → List Qu → Prop) (E : List Va) (D : List Str) (V : List Va) (Q : List Qu) : Prop :=
 D.length ≤ 100 ∧ E.length + V.length ≤ 2 ^ 29 ∧ ((E ++ V).map Va.name).Nodup ∧ (∀ v ∈ V, NvT (E ++ V) v) ∧ ∃ D', NmQs ns PB (E ++ V) Q D' ∧ D'.Nodup ∧ D'.Perm (V.map Va.name ++ D)
def NmB (ns : List No) : Nat → List Va → List Str → List Va → List Qu → Prop
 | 0 => NmBs ns (fun _ _ _ _ => False)
 | d + 1 => NmBs ns (NmB ns d)
end Go.Proofs.YteiaedmipkcfeaaDoor

/-
 What is made has its names.
-/
set_option linter.unusedVariables false
set_option linter.unusedSimpArgs false
set_option linter.unusedSectionVars false
namespace Go.Proofs.YteiaedmipkcfeaaDoor
open Go

theorem nd_mem {E : List Va} (hd : (E.map Va.name).Nodup) {i j : Nat} (hi : i < E.length) (hj : j < E.length) (h : E[i].name = E[j].name) : i = j := by
 have hp := List.pairwise_iff_getElem.1 hd
 rcases Nat.lt_trichotomy i j with hij | hij | hij
 ·exact absurd (by rw [List.getElem_map, List.getElem_map]; exact h) (hp i j (by simpa using hi) (by simpa using hj) hij)
 ·exact hij
 ·exact absurd (by rw [List.getElem_map, List.getElem_map]; exact h.symm) (hp j i (by simpa using hj) (by simpa using hi) hij)
theorem inV_mem {E : List Va} {v : Va} (hv : v ∈ E) : InV E v.name := by
 rcases findVar_spec E v.name with ⟨_, h2⟩ | ⟨k, hk, h1, _⟩
 ·exact absurd rfl (h2 v hv)
 ·exact ⟨k, hk, h1⟩
theorem laV_mem {E : List Va} (hd : (E.map Va.name).Nodup) {v : Va} (hv : v ∈ E) (hl : v.last = true) : LaV E v.name := by
 rcases findVar_spec E v.name with ⟨_, h2⟩ | ⟨k, hk, h1, h2, _⟩
 ·exact absurd rfl (h2 v hv)
 ·obtain ⟨j, hj, rfl⟩ := List.getElem_of_mem hv
  have := nd_mem hd hk hj h2
  subst this
  exact ⟨k, hk, h1, hl⟩
theorem isLess_sub : ∀ {a l : List Va}, isLess a l → ∀ v ∈ l, v ∈ a
 | [], l, h, v, hv => by cases h; exact hv
 | w :: r, l, h, v, hv => by
  rcases h with ⟨l', rfl, h⟩ | ⟨_, h⟩
  ·rcases List.mem_cons.1 hv with rfl | hv
   ·exact List.mem_cons_self ..
   ·exact List.mem_cons_of_mem _ (isLess_sub h v hv)
  ·exact List.mem_cons_of_mem _ (isLess_sub h v hv)
theorem isLess_last : ∀ {a l : List Va}, isLess a l → ∀ v ∈ a, v ∈ l ∨ v.last = true
 | [], l, h, v, hv => by simp at hv
 | w :: r, l, h, v, hv => by
  rcases h with ⟨l', rfl, h⟩ | ⟨hw, h⟩
  ·rcases List.mem_cons.1 hv with rfl | hv
   ·exact .inl (List.mem_cons_self ..)
   ·exact (isLess_last h v hv).imp (List.mem_cons_of_mem _) id
  ·rcases List.mem_cons.1 hv with rfl | hv
   ·exact .inr hw
   ·exact isLess_last h v hv
theorem isLess_nd : ∀ {a l : List Va}, isLess a l → (a.map Va.name).Nodup → (l.map Va.name).Nodup
 | [], l, h, hn => by cases h; exact List.nodup_nil
 | w :: r, l, h, hn => by
  rw [List.map_cons, List.nodup_cons] at hn
  rcases h with ⟨l', rfl, h⟩ | ⟨_, h⟩
  ·rw [List.map_cons, List.nodup_cons]
   refine ⟨fun hm => hn.1 ?_, isLess_nd h hn.2⟩
   obtain ⟨v, hv, he⟩ := List.mem_map.1 hm
   exact List.mem_map.2 ⟨v, isLess_sub h v hv, he⟩
  ·exact isLess_nd h hn.2
theorem addLasts_sub : ∀ {t l : List Va}, ∀ v ∈ addLasts l t, v ∈ l ∨ (v ∈ t ∧ v.last = true)
 | [], l, v, hv => .inl hv
 | w :: t, l, v, hv => by
  rw [addLasts] at hv
  rcases addLasts_sub v hv with h | h
  ·split at h
   ·rename_i hw
    rcases List.mem_append.1 h with h | h
    ·exact .inl h
    ·rw [List.mem_singleton] at h; subst h
     rw [Bool.and_eq_true] at hw
     exact .inr ⟨List.mem_cons_self .., hw.1⟩
   ·exact .inl h
  ·exact .inr ⟨List.mem_cons_of_mem _ h.1, h.2⟩
structure ScN (E : List Va) (s : Sc) : Prop where
 ready : ∀ v ∈ s.ready, v ∈ E
 all : ∀ v ∈ s.all, v ∈ E
 lasts : ∀ v ∈ s.lasts, v ∈ E ∧ v.last = true
theorem ScN.more {E : List Va} {s : Sc} {l : List Va} (h : ScN E s) (hl : ∀ v ∈ l, v ∈ E) : ScN E (s.more l) :=
 ⟨fun v hv => by rcases List.mem_append.1 hv with hv | hv; exact h.ready v hv; exact hl v hv, h.all, h.lasts⟩
theorem ScN.arm {E : List Va} {s : Sc} (h : ScN E s) : ScN E s.arm := ⟨h.ready, (fun v hv => by simp [Sc.arm] at hv), h.lasts⟩
theorem ScN.toAll {E : List Va} {s : Sc} (h : ScN E s) : ScN E s.toAll := ⟨h.all, h.all, h.lasts⟩
theorem ScN.ext {E F : List Va} {s : Sc} (h : ScN E s) : ScN (E ++ F) s := ⟨fun v hv => List.mem_append_left _ (h.ready v hv), fun v hv => List.mem_append_left _ (h.all v hv), fun v hv => ⟨List.mem_append_left _ (h.lasts v hv).1, (h.lasts v hv).2⟩⟩
section
variable {E : List Va}
theorem nm_kids {e : Ex} (hk : ∀ a ∈ e.kids, NmE E a) (h : NmK E e) : NmE E e := .mk (fun i hi => hk _ (List.getElem_mem hi)) h
theorem nm_const {t : Ty} {e : Ex} (h : isConst t e) : NmE E e := by
 rcases h with ⟨rfl, k, _, rfl⟩ | ⟨rfl, k, _, rfl⟩ | ⟨rfl, c, hc, rfl⟩ <;> refine nm_kids (fun a ha => by simp [Ex.sc, Ex.kids] at ha) ?_
 ·exact .inl (by simp [Ex.sc, Ex.kind])
 ·exact .inl (by simp [Ex.sc, Ex.kind])
 ·exact .inr (.inl ⟨rfl, hc⟩)
theorem nm_rd {l : List Va} {t : Ty} {s : Str} (hl : ∀ v ∈ l, v ∈ E) (h : isVar l t s) : NmE E (Ex.sc 4 0 0 s) := by
 obtain ⟨v, hv, _, _, rfl⟩ := h
 exact nm_kids (fun a ha => by simp [Ex.sc, Ex.kids] at ha) (.inr (.inr (.inl ⟨rfl, inV_mem (hl v hv)⟩)))
theorem nm_vc {l : List Va} {t : Ty} {e : Ex} (hl : ∀ v ∈ l, v ∈ E) (h : isVC l t e) : NmE E e := by
 rcases h with ⟨x, hx, rfl⟩ | h
 ·exact nm_rd hl hx
 ·exact nm_const h
theorem nm_un {k o n : Int} {s : Str} {ns : List Str} {l : List Ex} {ln cl : Int} (hk : k ≠ 3 ∧ k ≠ 4 ∧ k ≠ 5 ∧ k ≠ 12 ∧ k ≠ 13) (hl : ∀ a ∈ l, NmE E a) : NmE E (.mk k o n s ns l ln cl) := nm_kids hl (.inl hk)
theorem nm_ex (hd : (E.map Va.name).Nodup) : ∀ (d : Nat) (s : Sc) (t : Ty) (st : Bool) (e : Ex), ScN E s → GEx d s t st e → NmE E e
 | 0, s, t, st, e, hs, h => nm_vc hs.ready h
 | d + 1, s, t, st, e, hs, h => by
  have ih := nm_ex hd d
  rcases h with h | ⟨c, a, b, hc, ha, hb, rfl⟩ | ⟨_, c, b, hc, hb, rfl⟩ | ⟨_, a, b, ha, hb, rfl⟩ | ⟨x, hx, rfl⟩ | h
  ·exact nm_vc hs.ready h
  ·refine nm_un (by omega) (fun e he => ?_)
   simp only [List.mem_cons, List.not_mem_nil, or_false] at he
   rcases he with rfl | rfl | rfl
   ·exact ih _ _ _ _ hs hc
   ·exact ih _ _ _ _ hs ha
   ·exact ih _ _ _ _ hs hb
  ·refine nm_un (by omega) (fun e he => ?_)
   simp only [List.mem_cons, List.not_mem_nil, or_false] at he
   rcases he with rfl | rfl
   ·exact nm_const hc
   ·exact ih _ _ _ _ hs.toAll hb
  ·refine nm_un (by omega) (fun e he => ?_)
   simp only [List.mem_cons, List.not_mem_nil, or_false] at he
   rcases he with rfl | rfl
   ·exact ih _ _ _ _ hs ha
   ·exact nm_un (by omega) (fun e he => by rw [List.mem_singleton] at he; subst he; exact ih _ _ _ _ hs.toAll hb)
  ·obtain ⟨v, hv, _, _, rfl⟩ := hx
   exact nm_kids (fun a ha => by simp [Ex.sc, Ex.kids] at ha) (.inr (.inr (.inr (.inl ⟨rfl, laV_mem hd (hs.lasts v hv).1 (hs.lasts v hv).2⟩))))
  ·rcases h with ⟨_, a, ha, rfl⟩ | ⟨_, o, a, b, _, ha, hb, rfl⟩ | ⟨_, a, ha, rfl⟩ | ⟨_, o, u, a, b, _, ha, hb, rfl⟩ | h
   ·exact nm_un (by omega) (fun e he => by rw [List.mem_singleton] at he; subst he; exact ih _ _ _ _ hs ha)
   ·refine nm_un (by omega) (fun e he => ?_)
    simp only [List.mem_cons, List.not_mem_nil, or_false] at he
    rcases he with rfl | rfl
    ·exact ih _ _ _ _ hs ha
    ·exact ih _ _ _ _ hs hb
   ·exact nm_un (by omega) (fun e he => by rw [List.mem_singleton] at he; subst he; exact ih _ _ _ _ hs ha)
   ·refine nm_un (by omega) (fun e he => ?_)
    simp only [List.mem_cons, List.not_mem_nil, or_false] at he
    rcases he with rfl | rfl
    ·exact ih _ _ _ _ hs ha
    ·exact ih _ _ _ _ hs hb
   ·exact nm_vc hs.ready h
end
/-- No name between two counts is there but these. -/
def NoIn (E : List Va) (n n' : Nat) (vs : List Va) : Prop := ∀ x ∈ E, ∀ k, isNm x.name k → n < k → k ≤ n' → x ∈ vs
theorem nd_app {E V : List Va} {n n' : Nat} (hd : (E.map Va.name).Nodup) (hi : Inc n n' V) (hno : NoIn E n n' []) : ((E ++ V).map Va.name).Nodup := by
 rw [List.map_append, List.nodup_append]
 refine ⟨hd, hi.nd, fun a ha b hb e => ?_⟩
 obtain ⟨x, hx, rfl⟩ := List.mem_map.1 ha
 obtain ⟨v, hv, rfl⟩ := List.mem_map.1 hb
 obtain ⟨k, k1, k2, k3⟩ := hi.nm v hv
 have := hno x hx k (by rw [e]; exact k3) k1 k2
 simp at this
theorem chn_ix {R : Nat → Nat → Nat → Am → Prop} (hR : ∀ j n n' a, R j n n' a → n ≤ n') {lo hi : Nat} : ∀ (l : List Am) (j n n' : Nat), Chn R j n n' l → lo ≤ n → n' ≤ hi → ∀ i (h : i < l.length), ∃ n1 n2, R (j + i) n1 n2 l[i] ∧ lo ≤ n1 ∧ n2 ≤ hi
 | [], _, _, _, _, _, _, i, h => by simp at h
 | b :: l, j, n, n', ⟨n1, h1, h2⟩, hlo, hhi, i, h => by
  have e1 := hR _ _ _ _ h1
  have e2 := chn_le hR h2
  cases i with
  | zero => exact ⟨n, n1, h1, hlo, by omega⟩
  | succ i =>
   obtain ⟨a, b, h3, h4, h5⟩ := chn_ix hR (lo := lo) (hi := hi) l (j + 1) n1 n' h2 (by omega) hhi i (by simpa using h)
   exact ⟨a, b, by rw [show j + (i + 1) = j + 1 + i by omega]; exact h3, h4, h5⟩
/-- Arms, out of what holds of each. -/
theorem nmA_of {PB : List Va → List Str → List Va → List Qu → Prop} {E : List Va} {outs : List Va} {ar : List Am} (h0 : ar ≠ []) (h3 : ar.length ≤ 3) (hlast : ∀ v ∈ outs, v.last = true → LaV E v.name)
    (h : ∀ i (h : i < ar.length), ∃ l, isLess outs l ∧ (i = 0 → l = outs) ∧ PB E (l.map Va.name) ar[i].vars ar[i].eqs ∧ NmW E (ar.map Am.name) ar[i].unl ∧ NmW (E ++ ar[i].vars) (ar.map Am.name) ar[i].til) : NmA PB E (outs.map Va.name) ar := by
 have hc : ∃ f : Nat → List Va, ∀ i (h : i < ar.length), isLess outs (f i) ∧ (i = 0 → f i = outs) ∧ PB E ((f i).map Va.name) ar[i].vars ar[i].eqs ∧ NmW E (ar.map Am.name) ar[i].unl ∧ NmW (E ++ ar[i].vars) (ar.map Am.name) ar[i].til := by
  refine ⟨fun i => if h' : i < ar.length then Classical.choose (h i h') else [], fun i hi => ?_⟩
  simp only [dif_pos hi]
  exact Classical.choose_spec (h i hi)
 obtain ⟨f, hf⟩ := hc
 cases ar with
 | nil => exact absurd rfl h0
 | cons a r =>
  have e0 := (hf 0 (by simp)).2.1 rfl
  refine ⟨h3, (List.range r.length).map fun i => (f (i + 1)).map Va.name, by simp, fun i h1 h2 => ?_⟩
  have hD : (outs.map Va.name :: (List.range r.length).map fun i => (f (i + 1)).map Va.name)[i] = (f i).map Va.name := by
   cases i with
   | zero => rw [e0]; rfl
   | succ i => simp
  rw [hD]
  obtain ⟨g1, g2, g3, g4, g5⟩ := hf i h2
  refine ⟨g3, fun x hx => ?_, fun x hx => ?_, g4, g5⟩
  ·obtain ⟨v, hv, rfl⟩ := List.mem_map.1 hx
   exact List.mem_map.2 ⟨v, isLess_sub g1 v hv, rfl⟩
  ·obtain ⟨v, hv, rfl⟩ := List.mem_map.1 hx
   rcases isLess_last g1 v hv with h | h
   ·exact .inl (List.mem_map.2 ⟨v, h, rfl⟩)
   ·exact .inr (hlast v hv h)
theorem nm_ways {E : List Va} (hd : (E.map Va.name).Nodup) {s : Sc} {nn : Nat} {ns : List Str} (hns : ∀ k, k < nn → nameS ⟨#[83]⟩ k ∈ ns) {l : List Tr} (hs : ScN E s) (h : GWays s nn l) : NmW E ns l := fun t ht => by
 obtain ⟨e, k, b, he, hk, rfl⟩ := h.2 t ht
 exact ⟨nm_ex hd _ ⟨s.ready, [], s.lasts⟩ _ _ _ ⟨hs.ready, (fun v hv => by cases hv), hs.lasts⟩ he, hns k (by omega)⟩
theorem nmQs_app {ns : List No} {PB : List Va → List Str → List Va → List Qu → Prop} {E : List Va} : ∀ {l r : List Qu} {D D' : List Str}, NmQs ns PB E l D → NmQs ns PB E r D' → NmQs ns PB E (l ++ r) (D ++ D')
 | [], r, D, D', h, h' => by cases h; exact h'
 | q :: l, r, D, D', ⟨D1, D2, e, h0, h0', h1, h2⟩, h' => ⟨D1, D2 ++ D', by rw [e, List.append_assoc], h0, h0', h1, nmQs_app h2 h'⟩
theorem perm_ins {A D O V : List Str} (h : D.Perm (O ++ V)) : (A ++ D).Perm (O ++ (A ++ V)) := (h.append_left A).trans (by rw [← List.append_assoc, ← List.append_assoc]; exact List.perm_append_comm.append_right V)
theorem perm_four {D1 D2 A V R W : List Str} (h1 : D1.Perm (A ++ V)) (h2 : D2.Perm (R ++ W)) : (D1 ++ D2).Perm ((A ++ R) ++ (V ++ W)) := (h1.append h2).trans (by
 rw [List.append_assoc, List.append_assoc]
 refine List.Perm.append_left A ?_
 rw [← List.append_assoc, ← List.append_assoc]
 exact List.perm_append_comm.append_right W)
/-- Of what is made for a block: its type is there; it has no last value; it is sampled by a colour of the block, or not. -/
def VsN (vs : List Va) : Prop := ∀ v ∈ vs, (v.t.kind = 3 → v.t.name = sCol) ∧ v.last = false ∧ (v.clock = [] ∨ ∃ c ∈ vs, v.clock = [⟨sRed, c.name⟩])
theorem eqs_vn {RB : RBT} {subs : Int} {n n' : Nat} {s : Sc} {outs : List Va} {l : List Qu} {vs : List Va} (h : GEqs RB subs n n' s outs l vs) : VsN vs := by
 induction h with
 | defs h => intro v hv; simp at hv
 | choice h => intro v hv; simp at hv
 | auto h => intro v hv; simp at hv
 | reset h => intro v hv; simp at hv
 | call h _ ih =>
  obtain ⟨k, a, b, hb, e, _, rfl, rfl, _⟩ := h
  intro v hv
  rcases List.mem_cons.1 hv with rfl | hv
  ·exact ⟨(fun h => by cases h), rfl, .inl rfl⟩
  rcases List.mem_cons.1 hv with rfl | hv
  ·exact ⟨fun _ => rfl, rfl, .inl rfl⟩
  ·obtain ⟨ht, h0, h | ⟨c, hc, h2⟩⟩ := ih v hv
   ·exact ⟨ht, h0, .inl h⟩
   ·exact ⟨ht, h0, .inr ⟨c, List.mem_cons_of_mem _ (List.mem_cons_of_mem _ hc), h2⟩⟩
 | samp h _ ih =>
  obtain ⟨e1, e2, e3, k1, kp, rfl, rfl, rfl, _⟩ := h
  intro v hv
  rcases List.mem_cons.1 hv with rfl | hv
  ·exact ⟨fun _ => rfl, rfl, .inl rfl⟩
  rcases List.mem_cons.1 hv with rfl | hv
  ·exact ⟨(fun h => by cases h), rfl, .inr ⟨_, List.mem_cons_self .., rfl⟩⟩
  rcases List.mem_cons.1 hv with rfl | hv
  ·exact ⟨(fun h => by cases h), rfl, .inl rfl⟩
  ·obtain ⟨ht, h0, h | ⟨c, hc, h2⟩⟩ := ih v hv
   ·exact ⟨ht, h0, .inl h⟩
   ·exact ⟨ht, h0, .inr ⟨c, List.mem_cons_of_mem _ (List.mem_cons_of_mem _ (List.mem_cons_of_mem _ hc)), h2⟩⟩
theorem todo_vn {RB : RBT} {subs : Int} {n n' : Nat} {s : Sc} {outs : List Va} {l : List Qu} {vs : List Va} (h : GTodo (GEqs RB subs) n n' s outs l vs) : VsN vs := by
 induction h with
 | nil => intro v hv; simp at hv
 | step _ _ h _ ih =>
  intro v hv
  rcases List.mem_append.1 hv with hv | hv
  ·obtain ⟨ht, h0, h | ⟨c, hc, h2⟩⟩ := eqs_vn h v hv
   ·exact ⟨ht, h0, .inl h⟩
   ·exact ⟨ht, h0, .inr ⟨c, List.mem_append_left _ hc, h2⟩⟩
  ·obtain ⟨ht, h0, h | ⟨c, hc, h2⟩⟩ := ih v hv
   ·exact ⟨ht, h0, .inl h⟩
   ·exact ⟨ht, h0, .inr ⟨c, List.mem_append_right _ hc, h2⟩⟩
theorem ty_col {t : Ty} (h : isTy t) (hk : t.kind = 3) : t.name = sCol := by
 rcases h with rfl | rfl | rfl
 ·cases hk
 ·cases hk
 ·rfl
theorem own_vn (E : List Va) : ∀ {l : List Va} {n : Nat}, GOwn n l → ∀ v ∈ l, NvT E v
 | [], n, _, v, hv => by simp at hv
 | w :: l, n, ⟨h1, h2⟩, v, hv => by
  rcases List.mem_cons.1 hv with rfl | hv
  ·obtain ⟨t, la, e, ht, hl, rfl⟩ := h1
   refine ⟨ty_col ht, fun hla => ?_, fun o ho => by simp at ho⟩
   rcases hl with ⟨rfl, _⟩ | ⟨_, hc⟩
   ·cases hla
   ·exact fun F => nm_const hc
  ·exact own_vn E h2 v hv
section
variable {RB : RBT} {PB : List Va → List Str → List Va → List Qu → Prop} {K J : Nat} (ns : List No) (subs : Int) (hsub : subs ≤ ns.length) (hJ100 : J ≤ 100)
 (hinc : ∀ n n' s outs b, RB n n' s outs b → Inc n n' b.vars)
 (hRB : ∀ n n' s outs b, RB n n' s outs b → n' ≤ 4000000 → outs.length ≤ J → ∀ (E : List Va), E.length ≤ K → (E.map Va.name).Nodup → ScN E s → (∀ v ∈ outs, v ∈ E) → (outs.map Va.name).Nodup → NoIn E n n' [] → PB E (outs.map Va.name) b.vars b.eqs)
include hsub hJ100 hinc hRB
theorem nmQs_defs {E : List Va} (hd : (E.map Va.name).Nodup) {s : Sc} (hs : ScN E s) : ∀ (outs : List Va) (l : List Qu), GDefs s outs l → NmQs ns PB E l (outs.map Va.name)
 | [], l, h => by cases h; rfl
 | v :: r, l, ⟨e, l', he, hl, h2⟩ => by
  subst hl
  exact ⟨[v.name], r.map Va.name, rfl, (by simp), (by simp), .inl ⟨rfl, rfl, nm_ex hd _ _ _ _ _ hs he⟩, nmQs_defs hd hs r l' h2⟩
theorem eqs_nm {n n' : Nat} {s : Sc} {outs : List Va} {l : List Qu} {vs : List Va} (h : GEqs RB subs n n' s outs l vs) : n' ≤ 4000000 → outs.length ≤ J → ∀ (E : List Va), E.length ≤ K → (E.map Va.name).Nodup → ScN E s → (∀ v ∈ outs, v ∈ E) → (outs.map Va.name).Nodup → (∀ v ∈ vs, v ∈ E) → NoIn E n n' vs → ∃ D', NmQs ns PB E l D' ∧ D'.Perm ((outs ++ vs).map Va.name) := by
 induction h with
 | defs h => intro _ _ E _ hd hs ho hon _ _; exact ⟨_, nmQs_defs ns subs hsub hJ100 hinc hRB hd hs _ _ h, by rw [List.append_nil]⟩
 | @choice n n' s outs x h =>
  intro hn hJ E hE hd hs ho hon hv hno
  obtain ⟨t, nms, e, ar, hns, he, har, hc, rfl⟩ := h
  refine ⟨outs.map Va.name, ⟨_, [], by rw [List.append_nil], hon, (by rw [List.length_map]; omega), .inr (.inr (.inr ⟨.inl ⟨rfl, nm_ex hd _ _ _ _ _ hs he⟩, rfl, ?_⟩)), rfl⟩, by rw [List.append_nil]⟩
  have hix := chn_ix (fun j n n' a ⟨nm, l, b, _, _, hb, _⟩ => (hinc _ _ _ _ _ hb).le) (lo := n) (hi := n') _ _ _ _ hc (Nat.le_refl _) (Nat.le_refl _)
  refine nmA_of (ar := ar) ?_ ?_ (fun v hv hl => laV_mem hd (ho v hv) hl) (fun i hi => ?_)
  ·rintro rfl
   rcases hns with ⟨_, rfl⟩ | ⟨_, rfl⟩ <;> cases har
  ·have h5 := congrArg List.length har
   rw [List.length_map] at h5
   rcases hns with ⟨_, rfl⟩ | ⟨_, rfl⟩ <;> simp at h5 <;> omega
  ·obtain ⟨n1, n2, ⟨nm, l, b, hl1, hl2, hb, ha⟩, hlo, hhi⟩ := hix i hi
   refine ⟨l, hl1, fun h0 => hl2 (by omega), ?_, ?_, ?_⟩
   ·rw [ha]
    exact hRB _ _ _ _ _ hb (by omega) (Nat.le_trans (isLess_len hl1) hJ) E hE hd hs.arm (fun v hv => ho v (isLess_sub hl1 v hv)) (isLess_nd hl1 hon) (fun x hx k hk k1 k2 => hno x hx k hk (by omega) (by omega))
   ·rw [ha]; intro t ht; simp [Am.unl] at ht
   ·rw [ha]; intro t ht; simp [Am.til] at ht
 | @auto n n' s outs x h =>
  intro hn hJ E hE hd hs ho hon hv hno
  obtain ⟨nn, ar, ⟨hn1, hn3⟩, hlen, hc, rfl⟩ := h
  have hix := chn_ix (fun j n n' a ⟨l, u, b, w, _, _, _, hb, _, _⟩ => (hinc _ _ _ _ _ hb).le) (lo := n) (hi := n') _ _ _ _ hc (Nat.le_refl _) (Nat.le_refl _)
  have hnm : ∀ i (h : i < ar.length), ar[i].name = nameS ⟨#[83]⟩ i := fun i h => by
   obtain ⟨n1, n2, ⟨l, u, b, w, _, _, _, _, _, ha⟩, _, _⟩ := hix i h
   rw [ha, Nat.zero_add]; rfl
  have hns : ∀ k, k < nn → nameS ⟨#[83]⟩ k ∈ ar.map Am.name := fun k hk => by
   rw [← hnm k (by omega)]; exact List.mem_map_of_mem (List.getElem_mem _)
  refine ⟨outs.map Va.name, ⟨_, [], by rw [List.append_nil], hon, (by rw [List.length_map]; omega), .inr (.inr (.inr ⟨.inr ⟨rfl, fun i j hi hj hij he => ?_⟩, rfl, ?_⟩)), rfl⟩, by rw [List.append_nil]⟩
  ·have hi' : i < ar.length := hi
   have hj' : j < ar.length := hj
   have he' : ar[i].name = ar[j].name := he
   rw [hnm i hi', hnm j hj'] at he'
   have := (nm_inj he').2
   omega
  refine nmA_of (ar := ar) ?_ ?_ (fun v hv hl => laV_mem hd (ho v hv) hl) (fun i hi => ?_)
  ·rintro rfl
   simp at hlen; omega
  ·omega
  ·obtain ⟨n1, n2, ⟨l, u, b, w, hl1, hl2, hu, hb, hw, ha⟩, hlo, hhi⟩ := hix i hi
   have hno1 : NoIn E n1 n2 [] := fun x hx k hk k1 k2 => hno x hx k hk (by omega) (by omega)
   have hol1 : ∀ v ∈ l, v ∈ E := fun v hv => ho v (isLess_sub hl1 v hv)
   refine ⟨l, hl1, fun h0 => hl2 (by omega), ?_, ?_, ?_⟩
   ·rw [ha]
    exact hRB _ _ _ _ _ hb (by omega) (Nat.le_trans (isLess_len hl1) hJ) E hE hd hs.arm hol1 (isLess_nd hl1 hon) hno1
   ·rw [ha]; exact nm_ways hd hns hs hu
   ·rw [ha]; exact nm_ways (nd_app hd (hinc _ _ _ _ _ hb) hno1) hns (hs.more hol1).ext hw
 | @reset n n' s outs x h =>
  intro hn hJ E hE hd hs ho hon hv hno
  obtain ⟨e, b, he, hb, rfl⟩ := h
  exact ⟨outs.map Va.name, ⟨_, [], by rw [List.append_nil], hon, (by rw [List.length_map]; omega), .inr (.inr (.inl ⟨rfl, rfl, ⟨_, [], rfl, hRB _ _ _ _ _ hb hn hJ E hE hd hs ho hon hno⟩, nm_ex hd _ _ _ _ _ hs he⟩)), rfl⟩, by rw [List.append_nil]⟩
 | @call n n' s outs x y z l vs h _ ih =>
  intro hn hJ E hE hd hs ho hon hv hno
  obtain ⟨k, a, b, hb, e, hk, rfl, rfl, ha, hbx, he, rfl⟩ := h
  have vx := hv _ (List.mem_cons_self ..)
  have vy := hv _ (List.mem_cons_of_mem _ (List.mem_cons_self ..))
  obtain ⟨D, h1, h2⟩ := ih hn hJ E hE hd (hs.more fun w hw => by
      simp only [List.mem_cons, List.not_mem_nil, or_false] at hw
      rcases hw with rfl | rfl
      ·exact vx
      ·exact vy) ho hon (fun w hw => hv w (List.mem_cons_of_mem _ (List.mem_cons_of_mem _ hw))) (fun w hw k hk k1 k2 => by
      have hv2 := hno w hw k hk (by omega) k2
      simp only [List.mem_cons] at hv2
      rcases hv2 with rfl | rfl | hv2
      ·have := isNm_inj hk (isNm_of _ _); omega
      ·have := isNm_inj hk (isNm_of _ _); omega
      ·exact hv2)
  refine ⟨_, ⟨[_, _], D, rfl, ?_, (by simp), .inr (.inl ⟨rfl, ⟨k, by omega, rfl⟩, rfl, fun e he => ?_, fun hh => ?_⟩), h1⟩, ?_⟩
  ·rw [List.nodup_cons]
   refine ⟨fun hm => ?_, (by simp)⟩
   rw [List.mem_singleton] at hm
   have := (nm_inj hm).2
   omega
  ·simp only [Qu.args, List.mem_cons, List.not_mem_nil, or_false] at he
   rcases he with rfl | rfl
   ·exact nm_ex hd _ _ _ _ _ hs ha
   ·exact nm_ex hd _ _ _ _ _ hs hbx
  ·rcases he with ⟨hz, _⟩ | ⟨_, he⟩
   ·simp only [Qu.has] at hh; rw [hz] at hh; cases hh
   ·exact nm_ex hd _ _ _ _ _ hs he
  ·rw [List.map_append] at h2 ⊢
   exact perm_ins (A := [_, _]) h2
 | @samp n n' s outs c w z q1 q2 q3 l vs h _ ih =>
  intro hn hJ E hE hd hs ho hon hv hno
  obtain ⟨e1, e2, e3, k1, kp, rfl, rfl, rfl, g1, g2, g3, hk1, hkp, rfl, rfl, rfl⟩ := h
  have vc := hv _ (List.mem_cons_self ..)
  have vw := hv _ (List.mem_cons_of_mem _ (List.mem_cons_self ..))
  have vz := hv _ (List.mem_cons_of_mem _ (List.mem_cons_of_mem _ (List.mem_cons_self ..)))
  have x1 := nm_ex hd _ _ _ _ _ hs g1
  have x2 := nm_ex hd _ _ _ _ _ hs g2
  have x3 := nm_ex hd _ _ _ _ _ hs g3
  have xw : NmE E (vaE (clVa (nameS ⟨#[119]⟩ (n + 2)) tyI [⟨sRed, nameS ⟨#[99]⟩ (n + 1)⟩])) := nm_kids (fun a ha => by simp [vaE, Ex.kids] at ha) (.inr (.inr (.inl ⟨rfl, inV_mem vw⟩)))
  have wh : ∀ (nm : Str) (e : Ex), nm ∈ cols → NmE E e → NmE E (whE (mkVa (nameS ⟨#[99]⟩ (n + 1)) tyC) nm e) := fun nm e hnm he =>
   nm_kids (fun a ha => by simp only [whE, Ex.kids, List.mem_singleton] at ha; subst ha; exact he) (.inr (.inr (.inr (.inr ⟨.inl rfl, inV_mem vc, fun c hc => by simp only [whE, Ex.names, List.mem_singleton] at hc; subst hc; exact hnm⟩))))
  obtain ⟨D, h1, h2⟩ := ih hn hJ E hE hd (hs.more fun w hw => by
      simp only [List.mem_cons, List.not_mem_nil, or_false] at hw
      rcases hw with rfl | rfl
      ·exact vc
      ·exact vz) ho hon (fun w hw => hv w (List.mem_cons_of_mem _ (List.mem_cons_of_mem _ (List.mem_cons_of_mem _ hw)))) (fun w hw k hk k1 k2 => by
      have hv2 := hno w hw k hk (by omega) k2
      simp only [List.mem_cons] at hv2
      rcases hv2 with rfl | rfl | rfl | hv2
      ·have := isNm_inj hk (isNm_of _ _); omega
      ·have := isNm_inj hk (isNm_of _ _); omega
      ·have := isNm_inj hk (isNm_of _ _); omega
      ·exact hv2)
  refine ⟨_, ⟨[_], _, rfl, (by simp), (by simp), .inl ⟨rfl, rfl, x3⟩, ⟨[_], _, rfl, (by simp), (by simp), .inl ⟨rfl, rfl, ?_⟩, ⟨[_], D, rfl, (by simp), (by simp), .inl ⟨rfl, rfl, ?_⟩, h1⟩⟩⟩, ?_⟩
  ·rcases hkp with rfl | ⟨k2, hk2, rfl⟩
   ·exact wh sRed e1 (by simp) x1
   ·refine nm_un (by omega) (fun e he => ?_)
    simp only [List.mem_cons, List.not_mem_nil, or_false] at he
    rcases he with rfl | rfl
    ·exact nm_const hk2
    ·refine nm_un (by omega) (fun e he => ?_)
     simp only [List.mem_cons, List.not_mem_nil, or_false] at he
     rcases he with rfl | rfl
     ·exact xw
     ·exact wh sRed e1 (by simp) x1
  ·refine nm_kids (fun a ha => ?_) (.inr (.inr (.inr (.inr ⟨.inr rfl, inV_mem vc, fun c hc => by
     have hc' : c ∈ [sGreen, sRed, sBlue] := hc
     simp only [List.mem_cons, List.not_mem_nil, or_false] at hc' ⊢
     rcases hc' with h | h | h <;> simp [h]⟩))))
   have ha' : a ∈ [whE (mkVa (nameS ⟨#[99]⟩ (n + 1)) tyC) sGreen e2, vaE (clVa (nameS ⟨#[119]⟩ (n + 2)) tyI [⟨sRed, nameS ⟨#[99]⟩ (n + 1)⟩]), k1] := ha
   simp only [List.mem_cons, List.not_mem_nil, or_false] at ha'
   rcases ha' with rfl | rfl | rfl
   ·exact wh sGreen e2 (by simp) x2
   ·exact xw
   ·exact nm_const hk1
  ·rw [List.map_append] at h2 ⊢
   exact perm_ins (A := [_, _, _]) h2
theorem todo_nm {n n' : Nat} {s : Sc} {outs : List Va} {l : List Qu} {vs : List Va} (h : GTodo (GEqs RB subs) n n' s outs l vs) : n' ≤ 4000000 → outs.length ≤ J → ∀ (E : List Va), E.length ≤ K → (E.map Va.name).Nodup → ScN E s → (∀ v ∈ outs, v ∈ E) → (outs.map Va.name).Nodup → (∀ v ∈ vs, v ∈ E) → NoIn E n n' vs → ∃ D', NmQs ns PB E l D' ∧ D'.Perm ((outs ++ vs).map Va.name) := by
 have hle : ∀ n n' s outs b, RB n n' s outs b → n ≤ n' := fun n n' s outs b h => (hinc _ _ _ _ _ h).le
 induction h with
 | nil => intro _ _ E _ _ _ _ _ _ _; exact ⟨[], rfl, .refl _⟩
 | @step n n1 n' s a r l vs l' vs' ha1 ha h h2 ih =>
  intro hn hJ E hE hd hs ho hon hv hno
  have i1 := eqs_inc hle h
  have i2 := todo_inc hle h2
  have hle2 := i2.le
  have hle1 := i1.le
  have hoa : ∀ v ∈ a, v ∈ E := fun v hv => ho v (List.mem_append_left _ hv)
  rw [List.map_append, List.nodup_append] at hon
  obtain ⟨D1, q1, p1⟩ := eqs_nm ns subs hsub hJ100 hinc hRB h (by omega) (by rw [List.length_append] at hJ; omega) E hE hd hs hoa hon.1 (fun v hv2 => hv v (List.mem_append_left _ hv2)) (fun x hx k hk k1 k2 => by
      rcases List.mem_append.1 (hno x hx k hk k1 (by omega)) with hv2 | hv2
      ·exact hv2
      ·obtain ⟨j, j1, j2, j3⟩ := i2.nm x hv2
       have := isNm_inj hk j3
       omega)
  obtain ⟨D2, q2, p2⟩ := ih hn (by rw [List.length_append] at hJ; omega) E hE hd (hs.more hoa) (fun v hv2 => ho v (List.mem_append_right _ hv2)) hon.2.1 (fun v hv2 => hv v (List.mem_append_right _ hv2)) (fun x hx k hk k1 k2 => by
      rcases List.mem_append.1 (hno x hx k hk (by omega) k2) with hv2 | hv2
      ·obtain ⟨j, j1, j2, j3⟩ := i1.nm x hv2
       have := isNm_inj hk j3
       omega
      ·exact hv2)
  refine ⟨D1 ++ D2, nmQs_app q1 q2, ?_⟩
  simp only [List.map_append] at p1 p2 ⊢
  exact perm_four p1 p2
theorem blk_nm {n n' : Nat} {s : Sc} {outs : List Va} {b : Bk} (h : GBlk (GEqs RB subs) n n' s outs b) (hn : n' ≤ 4000000) (hJ : outs.length + 3 ≤ J) (E : List Va) (hE : E.length + 4000000 ≤ K) (hK : K ≤ 2 ^ 29) (hd : (E.map Va.name).Nodup) (hs : ScN E s) (ho : ∀ v ∈ outs, v ∈ E) (hon : (outs.map Va.name).Nodup) (hno : NoIn E n n' []) :
    NmBs ns PB E (outs.map Va.name) b.vars b.eqs := by
 have hle : ∀ n n' s outs b, RB n n' s outs b → n ≤ n' := fun n n' s outs b h => (hinc _ _ _ _ _ h).le
 have hic := blk_inc hle h
 obtain ⟨own, l, vs, hownl, hown, ht, rfl⟩ := h
 have hlen := hic.len
 simp only [] at hic hlen ⊢
 obtain ⟨V, hV⟩ : ∃ V, own ++ vs = V := ⟨_, rfl⟩
 rw [hV] at hic hlen ⊢
 have hdV := nd_app hd hic hno
 have hoV : ∀ v ∈ own, v ∈ E ++ V := fun v hv => List.mem_append_right _ (by rw [← hV]; exact List.mem_append_left _ hv)
 have hvV : ∀ v ∈ vs, v ∈ E ++ V := fun v hv => List.mem_append_right _ (by rw [← hV]; exact List.mem_append_right _ hv)
 have hout : ∀ v ∈ outs, v ∈ E ++ V := fun v hv => List.mem_append_left _ (ho v hv)
 have hoo : ∀ v ∈ own ++ outs, v ∈ E ++ V := fun v hv => (List.mem_append.1 hv).elim (hoV v) (hout v)
 have hs2 : ScN (E ++ V) ⟨s.ready, s.ready ++ own ++ outs, addLasts s.lasts (own ++ outs)⟩ := by
  refine ⟨fun v hv => List.mem_append_left _ (hs.ready v hv), fun v hv => ?_, fun v hv => ?_⟩
  ·rw [List.append_assoc] at hv
   rcases List.mem_append.1 hv with hv | hv
   ·exact List.mem_append_left _ (hs.ready v hv)
   ·exact hoo v hv
  ·rcases addLasts_sub v hv with hv | hv
   ·exact ⟨List.mem_append_left _ (hs.lasts v hv).1, (hs.lasts v hv).2⟩
   ·exact ⟨hoo v hv.1, hv.2⟩
 have hio := Inc.own hown
 have hno2 : NoIn (E ++ V) (n + own.length) n' vs := fun x hx k hk k1 k2 => by
  rcases List.mem_append.1 hx with hx | hx
  ·have := hno x hx k hk (by omega) k2
   simp at this
  ·rw [← hV] at hx
   rcases List.mem_append.1 hx with hx | hx
   ·obtain ⟨j, j1, j2, j3⟩ := hio.nm x hx
    have := isNm_inj hk j3
    omega
   ·exact hx
 have hdd := hdV
 rw [List.map_append, List.nodup_append] at hdd
 have hVo : (V.map Va.name ++ outs.map Va.name).Nodup := by
  rw [List.nodup_append]
  refine ⟨hdd.2.1, hon, fun a ha b hb e => ?_⟩
  obtain ⟨v, hv, rfl⟩ := List.mem_map.1 hb
  exact hdd.2.2 v.name (List.mem_map_of_mem (ho v hv)) a ha e.symm
 have hoon : ((own ++ outs).map Va.name).Nodup := by
  have h1 : ((own ++ vs).map Va.name ++ outs.map Va.name).Nodup := by rw [hV]; exact hVo
  rw [List.map_append, List.append_assoc, List.nodup_append] at h1
  obtain ⟨h2, h3, h4⟩ := h1
  rw [List.nodup_append] at h3
  rw [List.map_append, List.nodup_append]
  exact ⟨h2, h3.2.1, fun a ha b hb => h4 a ha b (List.mem_append_right _ hb)⟩
 obtain ⟨D', q1, p1⟩ := todo_nm ns subs hsub hJ100 hinc hRB ht hn (by rw [List.length_append]; omega) (E ++ V) (by rw [List.length_append]; omega) hdV hs2 hoo hoon hvV hno2
 have pp : D'.Perm (V.map Va.name ++ outs.map Va.name) := p1.trans (by
  rw [← hV]
  simp only [List.map_append, List.append_assoc]
  exact List.Perm.append_left _ List.perm_append_comm)
 refine ⟨by rw [List.length_map]; omega, by omega, hdV, fun v hv => ?_, D', q1, pp.nodup_iff.2 hVo, pp⟩
 rw [← hV] at hv
 rcases List.mem_append.1 hv with hv | hv
 ·exact own_vn _ hown v hv
 ·obtain ⟨htt, h0, hc⟩ := todo_vn ht v hv
  refine ⟨htt, (fun hl => by rw [h0] at hl; cases hl), fun o ho => ?_⟩
  rcases hc with hc | ⟨c, hcv, h2⟩
  ·rw [hc] at ho; simp at ho
  ·rw [h2, List.mem_singleton] at ho
   subst ho
   exact ⟨inV_mem (hvV c hcv), by simp⟩
end
theorem bk_nm (ns : List No) (subs : Int) (hsub : subs ≤ ns.length) : ∀ (d : Nat) (n n' : Nat) (s : Sc) (outs : List Va) (b : Bk), GBk d subs n n' s outs b → n' ≤ 4000000 → outs.length ≤ 97 - 3 * d → d ≤ 10 → ∀ (E : List Va), E.length + (d + 1) * 4000000 ≤ 2 ^ 29 → (E.map Va.name).Nodup → ScN E s → (∀ v ∈ outs, v ∈ E) → (outs.map Va.name).Nodup → NoIn E n n' [] → NmB ns d E (outs.map Va.name) b.vars b.eqs
 | 0, n, n', s, outs, b, h, hn, hj, hd10, E, hE, hd, hs, ho, hon, hno =>
  blk_nm (RB := fun _ _ _ _ _ => False) (PB := fun _ _ _ _ => False) (K := 2 ^ 29) (J := 100) ns subs hsub (Nat.le_refl _) (fun _ _ _ _ _ h => h.elim) (fun _ _ _ _ _ h => h.elim) h hn (by omega) E (by omega) (Nat.le_refl _) hd hs ho hon hno
 | d + 1, n, n', s, outs, b, h, hn, hj, hd10, E, hE, hd, hs, ho, hon, hno =>
  blk_nm (RB := GBk d subs) (PB := NmB ns d) (K := 2 ^ 29 - (d + 1) * 4000000) (J := 97 - 3 * d) ns subs hsub (by omega) (fun n n' s outs b h => bk_inc d subs n n' s outs b h) (fun n n' s outs b h hn hj E hE hd hs ho hon hno => bk_nm ns subs hsub d n n' s outs b h hn hj (by omega) E (by omega) hd hs ho hon hno) h hn (by omega) E (by omega) (by omega) hd hs ho hon hno
end Go.Proofs.YteiaedmipkcfeaaDoor
