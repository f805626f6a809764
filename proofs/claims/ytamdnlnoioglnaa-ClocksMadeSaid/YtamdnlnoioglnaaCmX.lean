/-
  Texts that belong together: CmD, CmP, CmQ.
-/
import Derived.Test.YtamdnlnoioglnaaAbFr
import Derived.Test.YtamdnlnoioglnaaMkH
/-
  What is made is on its clocks: expressions, equations, blocks.
-/
set_option linter.unusedVariables false
set_option linter.unusedSimpArgs false
set_option linter.unusedSectionVars false
namespace Go.Proofs.Ytamdnlnoioglnaa
open Go

/-- A variable that can be seen. -/
structure Sn where
  name : Str
  lv : Int
  ck : List On
def Sn.cs (x : Sn) : List PV := [pS x.name, pI x.lv, .sl .no (x.ck.map On.pv)]
def Sn.pv (x : Sn) : PV := .ag x.cs
theorem Sn.cells_pv (t : Sn) : t.pv.cells = t.cs := rfl
theorem Sn.settle_pv (t : Sn) : t.pv.settle = t.pv := rfl
theorem Sn.pure_pv (t : Sn) : t.pv.pure = true := rfl
def lookN : List Sn → Str → Option Sn
  | [], _ => none
  | x :: l, s => if eqS x.name s = true then some x else lookN l s
def ofN (G : List Sn) (lv : Int) (s : Str) : List On × Bool := match lookN G s with
  | some x => (x.ck, x.lv == lv || x.ck.length == 0)
  | none => ([], false)
def onN (G : List Sn) (lv : Int) (s : Str) (ck : List On) : Bool := (ofN G lv s).2 && sameL On.eq (ofN G lv s).1 ck
/-- An expression is on a clock. -/
inductive EOk (G : List Sn) (lv : Int) : List On → Ex → Prop
  | rd {ck : List On} {k o n : Int} {nm ns ks ln cl} : (k = 4 ∨ k = 5) → onN G lv nm ck = true → EOk G lv ck (.mk k o n nm ns ks ln cl)
  | wh {ck c o n nm ns a ks ln cl} : onN G lv nm ck = true → EOk G lv ck a → EOk G lv (ck ++ [⟨c, nm⟩]) (.mk 12 o n nm (c :: ns) (a :: ks) ln cl)
  | mg {ck o n nm ns ks ln cl} : ck.length ≤ 1000 → onN G lv nm ck = true → ns.length = ks.length → (∀ i (h : i < ks.length) (h' : i < ns.length), EOk G lv (ck ++ [⟨ns[i], nm⟩]) ks[i]) → EOk G lv ck (.mk 13 o n nm ns ks ln cl)
  | ot {ck : List On} {k o n : Int} {nm ns ks ln cl} : k ≠ 4 → k ≠ 5 → k ≠ 12 → k ≠ 13 → (∀ i (h : i < ks.length), EOk G lv ck ks[i]) → EOk G lv ck (.mk k o n nm ns ks ln cl)
/-- What an equation defines lies in a list. -/
def DfQ (PD : List Va → List Qu → List Str → Prop) (q : Qu) (T : List Str) : Prop := q.lhs.length ≤ 100 ∧ (∀ x ∈ q.lhs, x ∈ T) ∧ ∀ a ∈ q.arms, PD a.vars a.eqs T
def DfB : Nat → List Va → List Qu → List Str → Prop
  | 0, V, Q, T => ∀ q ∈ Q, ∃ Tq, Tq.length ≤ 100 ∧ (∀ x ∈ Tq, x ∈ T ∨ x ∈ V.map Va.name) ∧ DfQ (fun _ _ _ => False) q Tq
  | d + 1, V, Q, T => ∀ q ∈ Q, ∃ Tq, Tq.length ≤ 100 ∧ (∀ x ∈ Tq, x ∈ T ∨ x ∈ V.map Va.name) ∧ DfQ (DfB d) q Tq
def snOf (lv : Int) (V : List Va) : List Sn := V.map fun v => ⟨v.name, lv, v.clock⟩
/-- What arms define is on the block's own clock. -/
def WhOk (d : Nat) (G : List Sn) (lv : Int) (q : Qu) : Prop := ∃ T, T.length ≤ 100 ∧ DfQ (DfB d) q T ∧ ∀ x ∈ T, onN G lv x [] = true
/-- An equation that is right, its blocks being so. -/
def CkQ (d : Nat) (PB : List Sn → Int → List Va → List Qu → Prop) (G : List Sn) (lv : Int) (q : Qu) : Prop :=
  (q.kind = 1 ∧ ∃ x ck, q.lhs = [x] ∧ ofN G lv x = (ck, true) ∧ ck.length ≤ 10 ∧ EOk G lv ck q.e) ∨
  (q.kind = 2 ∧ (∃ x r, q.lhs = x :: r) ∧ (∀ x ∈ q.lhs, ofN G lv x = ([], true)) ∧ (∀ e ∈ q.args, EOk G lv [] e) ∧ (q.has = true → EOk G lv [] q.e)) ∨
  (q.kind = 5 ∧ (∃ a r, q.arms = a :: r ∧ PB G (lv + 1) a.vars a.eqs) ∧ EOk G lv [] q.e ∧ WhOk d G lv q) ∨
  (q.kind = 3 ∧ EOk G lv [] q.e ∧ (∀ a ∈ q.arms, PB G (lv + 1) a.vars a.eqs) ∧ WhOk d G lv q) ∨
  (q.kind = 4 ∧ (∀ a ∈ q.arms, (∀ t ∈ a.unl, EOk G lv [] t.e) ∧ PB G (lv + 1) a.vars a.eqs ∧ (∀ t ∈ a.til, EOk (G ++ snOf (lv + 1) a.vars) (lv + 1) [] t.e)) ∧ WhOk d G lv q)
/-- A block's variables are on their clocks. -/
def VaOk (G : List Sn) (lv : Int) (V : List Va) : Prop := G.length + V.length ≤ 2 ^ 30 ∧ ∀ v ∈ V, v.clock.length ≤ 10 ∧ ∀ i (h : i < v.clock.length), onN (G ++ snOf lv V) lv (v.clock[i]).var (v.clock.take i) = true
def CkB : Nat → List Sn → Int → List Va → List Qu → Prop
  | 0, G, lv, V, Q => (0 ≤ lv ∧ lv < 1000) ∧ VaOk G lv V ∧ ∀ q ∈ Q, CkQ 0 (fun _ _ _ _ => False) (G ++ snOf lv V) lv q
  | d + 1, G, lv, V, Q => (0 ≤ lv ∧ lv < 1000) ∧ VaOk G lv V ∧ ∀ q ∈ Q, CkQ d (CkB d) (G ++ snOf lv V) lv q
end Go.Proofs.Ytamdnlnoioglnaa

/-
  What is made is on its clocks.
-/
set_option linter.unusedVariables false
set_option linter.unusedSimpArgs false
set_option linter.unusedSectionVars false
namespace Go.Proofs.Ytamdnlnoioglnaa
open Go

theorem lookN_app {G H : List Sn} {s : Str} : lookN (G ++ H) s = match lookN G s with | some x => some x | none => lookN H s := by
  induction G with
  | nil => rfl
  | cons x G ih =>
    rw [List.cons_append, lookN, lookN]
    split
    · rfl
    · exact ih
theorem lookN_none {G : List Sn} {s : Str} (h : ∀ x ∈ G, x.name ≠ s) : lookN G s = none := by
  induction G with
  | nil => rfl
  | cons x G ih =>
    rw [lookN, if_neg (fun e => h x (List.mem_cons_self ..) (eqS_iff.1 e))]
    exact ih fun y hy => h y (List.mem_cons_of_mem _ hy)
theorem lookN_mem {G : List Sn} {s : Str} {x : Sn} (h : lookN G s = some x) : x ∈ G ∧ x.name = s := by
  induction G with
  | nil => cases h
  | cons y G ih =>
    rw [lookN] at h
    split at h
    · rename_i he
      cases h
      exact ⟨List.mem_cons_self .., eqS_iff.1 he⟩
    · exact ⟨List.mem_cons_of_mem _ (ih h).1, (ih h).2⟩
theorem lookN_nd {lv : Int} : ∀ {V : List Va}, (V.map Va.name).Nodup → ∀ v ∈ V, lookN (snOf lv V) v.name = some ⟨v.name, lv, v.clock⟩
  | [], _, v, hv => by simp at hv
  | w :: V, hd, v, hv => by
    rw [List.map_cons, List.nodup_cons] at hd
    show lookN (⟨w.name, lv, w.clock⟩ :: snOf lv V) v.name = _
    rw [lookN]
    by_cases he : eqS w.name v.name = true
    · rw [if_pos he]
      have hn := eqS_iff.1 he
      rcases List.mem_cons.1 hv with rfl | hv
      · rfl
      · exact absurd (List.mem_map.2 ⟨v, hv, hn.symm⟩) hd.1
    · rw [if_neg he]
      rcases List.mem_cons.1 hv with rfl | hv
      · exact absurd (eqS_iff.2 rfl) he
      · exact lookN_nd hd.2 v hv
/-- These can be read. -/
def RdN (G : List Sn) (lv : Int) (l : List Va) : Prop := ∀ v ∈ l, onN G lv v.name [] = true
theorem on_look {G : List Sn} {lv : Int} {s : Str} : onN G lv s [] = true ↔ ∃ x, lookN G s = some x ∧ x.ck = [] := by
  unfold onN ofN
  cases h : lookN G s with
  | none => simp
  | some x =>
    constructor
    · intro h2
      simp only [Bool.and_eq_true] at h2
      refine ⟨x, rfl, ?_⟩
      have := sameL_len h2.2
      exact List.length_eq_zero_iff.1 this
    · rintro ⟨y, hy, hc⟩
      cases hy
      simp [hc, sameL]
theorem on_of {G : List Sn} {lv : Int} {s : Str} (h : onN G lv s [] = true) : ofN G lv s = ([], true) := by
  obtain ⟨x, hx, hc⟩ := on_look.1 h
  unfold ofN
  rw [hx]
  simp [hc]
theorem sameOn_self : ∀ l : List On, sameL On.eq l l = true
  | [] => rfl
  | a :: l => by
    have e : On.eq a a = true := by simp [On.eq, eqS]
    rw [sameL, e, sameOn_self l]; rfl
theorem of_on {G : List Sn} {lv : Int} {s : Str} {ck : List On} (h : ofN G lv s = (ck, true)) : onN G lv s ck = true := by
  unfold onN
  rw [h, sameOn_self]; rfl
/-- What can be read in a block can be read in one within. -/
theorem on_ext {G H : List Sn} {lv lv' : Int} {s : Str} (h : onN G lv s [] = true) : onN (G ++ H) lv' s [] = true := by
  obtain ⟨x, hx, hc⟩ := on_look.1 h
  exact on_look.2 ⟨x, by rw [lookN_app, hx], hc⟩
structure ScN (G : List Sn) (lv : Int) (s : Sc) : Prop where
  ready : RdN G lv s.ready
  all : RdN G lv s.all
  lasts : RdN G lv s.lasts
theorem ScN.more {G : List Sn} {lv : Int} {s : Sc} {l : List Va} (h : ScN G lv s) (hl : RdN G lv l) : ScN G lv (s.more l) :=
  ⟨fun v hv => by rcases List.mem_append.1 hv with hv | hv; exact h.ready v hv; exact hl v hv, h.all, h.lasts⟩
theorem ScN.arm {G : List Sn} {lv : Int} {s : Sc} (h : ScN G lv s) : ScN G lv s.arm := ⟨h.ready, fun v hv => by simp [Sc.arm] at hv, h.lasts⟩
theorem ScN.toAll {G : List Sn} {lv : Int} {s : Sc} (h : ScN G lv s) : ScN G lv s.toAll := ⟨h.all, h.all, h.lasts⟩
theorem ScN.ext {G H : List Sn} {lv lv' : Int} {s : Sc} (h : ScN G lv s) : ScN (G ++ H) lv' s := ⟨fun v hv => on_ext (h.ready v hv), fun v hv => on_ext (h.all v hv), fun v hv => on_ext (h.lasts v hv)⟩
section
variable {G : List Sn} {lv : Int}
theorem eok_mk {k o n : Int} {s : Str} {ns : List Str} {ks : List Ex} {ln cl : Int} {ck : List On} (hk : k ≠ 4 ∧ k ≠ 5 ∧ k ≠ 12 ∧ k ≠ 13) (h : ∀ e ∈ ks, EOk G lv ck e) : EOk G lv ck (.mk k o n s ns ks ln cl) := .ot hk.1 hk.2.1 hk.2.2.1 hk.2.2.2 fun i hi => h _ (List.getElem_mem hi)
theorem eok_const {t : Ty} {e : Ex} {ck : List On} (h : isConst t e) : EOk G lv ck e := by
  rcases h with ⟨_, k, _, rfl⟩ | ⟨_, k, _, rfl⟩ | ⟨_, c, _, rfl⟩ <;> exact eok_mk ⟨by omega, by omega, by omega, by omega⟩ (fun e he => by simp at he)
theorem eok_rd {l : List Va} {t : Ty} {s : Str} {k : Int} (hk : k = 4 ∨ k = 5) (hl : RdN G lv l) (h : isVar l t s) : EOk G lv [] (Ex.sc k 0 0 s) := by
  obtain ⟨v, hv, _, _, rfl⟩ := h
  exact .rd hk (hl v hv)
theorem eok_vc {l : List Va} {t : Ty} {e : Ex} (hl : RdN G lv l) (h : isVC l t e) : EOk G lv [] e := by
  rcases h with ⟨x, hx, rfl⟩ | h
  · exact eok_rd (.inl rfl) hl hx
  · exact eok_const h
theorem eok_two {k o : Int} {a b : Ex} {ck : List On} (hk : k ≠ 4 ∧ k ≠ 5 ∧ k ≠ 12 ∧ k ≠ 13) (ha : EOk G lv ck a) (hb : EOk G lv ck b) : EOk G lv ck (Ex.two k o a b) := eok_mk hk (fun e he => by
  simp only [List.mem_cons, List.not_mem_nil, or_false] at he
  rcases he with rfl | rfl
  · exact ha
  · exact hb)
theorem eok_un {k o : Int} {l : List Ex} {ck : List On} (hk : k ≠ 4 ∧ k ≠ 5 ∧ k ≠ 12 ∧ k ≠ 13) (h : ∀ e ∈ l, EOk G lv ck e) : EOk G lv ck (Ex.un k o l) := eok_mk hk h
theorem eok_ex : ∀ (d : Nat) (s : Sc) (t : Ty) (st : Bool) (e : Ex), ScN G lv s → GEx d s t st e → EOk G lv [] e
  | 0, s, t, st, e, hs, h => eok_vc hs.ready h
  | d + 1, s, t, st, e, hs, h => by
    have ih := eok_ex d
    rcases h with h | ⟨c, a, b, hc, ha, hb, rfl⟩ | ⟨_, c, b, hc, hb, rfl⟩ | ⟨_, a, b, ha, hb, rfl⟩ | ⟨x, hx, rfl⟩ | h
    · exact eok_vc hs.ready h
    · refine eok_un ⟨by omega, by omega, by omega, by omega⟩ (fun e he => ?_)
      simp only [List.mem_cons, List.not_mem_nil, or_false] at he
      rcases he with rfl | rfl | rfl
      · exact ih _ _ _ _ hs hc
      · exact ih _ _ _ _ hs ha
      · exact ih _ _ _ _ hs hb
    · exact eok_two ⟨by omega, by omega, by omega, by omega⟩ (eok_const hc) (ih _ _ _ _ hs.toAll hb)
    · refine eok_two ⟨by omega, by omega, by omega, by omega⟩ (ih _ _ _ _ hs ha) (eok_un ⟨by omega, by omega, by omega, by omega⟩ (fun e he => ?_))
      rw [List.mem_singleton] at he; subst he; exact ih _ _ _ _ hs.toAll hb
    · exact eok_rd (.inr rfl) hs.lasts hx
    · rcases h with ⟨_, a, ha, rfl⟩ | ⟨_, o, a, b, _, ha, hb, rfl⟩ | ⟨_, a, ha, rfl⟩ | ⟨_, o, u, a, b, _, ha, hb, rfl⟩ | h
      · exact eok_un ⟨by omega, by omega, by omega, by omega⟩ (fun e he => by rw [List.mem_singleton] at he; subst he; exact ih _ _ _ _ hs ha)
      · exact eok_two ⟨by omega, by omega, by omega, by omega⟩ (ih _ _ _ _ hs ha) (ih _ _ _ _ hs hb)
      · exact eok_un ⟨by omega, by omega, by omega, by omega⟩ (fun e he => by rw [List.mem_singleton] at he; subst he; exact ih _ _ _ _ hs ha)
      · exact eok_two ⟨by omega, by omega, by omega, by omega⟩ (ih _ _ _ _ hs ha) (ih _ _ _ _ hs hb)
      · exact eok_vc hs.ready h
theorem eok_wh {c : Va} {nm : Str} {e : Ex} (hc : onN G lv c.name [] = true) (h : EOk G lv [] e) : EOk G lv [⟨nm, c.name⟩] (whE c nm e) := .wh (ck := []) hc h
theorem eok_ways {s : Sc} {nn : Int} {l : List Tr} (hs : ScN G lv s) (h : GWays s nn l) : ∀ t ∈ l, EOk G lv [] t.e := fun t ht => by
  obtain ⟨e, k, b, he, _, rfl⟩ := h.2 t ht
  exact eok_ex _ ⟨s.ready, [], s.lasts⟩ _ _ _ ⟨hs.ready, (fun v hv => by cases hv), hs.lasts⟩ he
end
end Go.Proofs.Ytamdnlnoioglnaa

/-
  Blocks that are made are on their clocks.
-/
set_option linter.unusedVariables false
set_option linter.unusedSimpArgs false
set_option linter.unusedSectionVars false
namespace Go.Proofs.Ytamdnlnoioglnaa
open Go

theorem isLess_sub : ∀ {a l : List Va}, isLess a l → ∀ v ∈ l, v ∈ a
  | [], l, h, v, hv => by cases h; exact hv
  | w :: r, l, h, v, hv => by
    rcases h with ⟨l', rfl, h⟩ | ⟨_, h⟩
    · rcases List.mem_cons.1 hv with rfl | hv
      · exact List.mem_cons_self ..
      · exact List.mem_cons_of_mem _ (isLess_sub h v hv)
    · exact List.mem_cons_of_mem _ (isLess_sub h v hv)
theorem addLasts_sub : ∀ {t l : List Va}, ∀ v ∈ addLasts l t, v ∈ l ∨ v ∈ t
  | [], l, v, hv => .inl hv
  | w :: t, l, v, hv => by
    rw [addLasts] at hv
    rcases addLasts_sub v hv with h | h
    · split at h
      · rcases List.mem_append.1 h with h | h
        · exact .inl h
        · rw [List.mem_singleton] at h; subst h; exact .inr (List.mem_cons_self ..)
      · exact .inl h
    · exact .inr (List.mem_cons_of_mem _ h)
theorem own_ck : ∀ {l : List Va} {n : Nat}, GOwn n l → ∀ v ∈ l, v.clock = []
  | [], n, _, v, hv => by simp at hv
  | w :: l, n, ⟨h1, h2⟩, v, hv => by
    rcases List.mem_cons.1 hv with rfl | hv
    · obtain ⟨t, la, e, _, _, rfl⟩ := h1; rfl
    · exact own_ck h2 v hv
/-- No name between two counts is seen but these. -/
def NoIn (G : List Sn) (n n' : Nat) (vs : List Va) : Prop := ∀ x ∈ G, ∀ k, isNm x.name k → n < k → k ≤ n' → ∃ v ∈ vs, v.name = x.name
def VsN (G : List Sn) (lv : Int) (vs : List Va) : Prop := ∀ v ∈ vs, ofN G lv v.name = (v.clock, true)
/-- Of what is made for a block some are sampled, by others of it. -/
def VsC (vs : List Va) : Prop := ∀ v ∈ vs, v.clock = [] ∨ ∃ c ∈ vs, c.clock = [] ∧ v.clock = [⟨sRed, c.name⟩]
theorem rd_of {G : List Sn} {lv : Int} {v : Va} (h : ofN G lv v.name = (v.clock, true)) (hc : v.clock = []) : onN G lv v.name [] = true := by
  have := of_on h
  rwa [hc] at this
theorem rd_lv {G : List Sn} {lv lv' : Int} {l : List Va} (h : RdN G lv l) : RdN G lv' l := fun v hv => on_look.2 (on_look.1 (h v hv))
theorem sc_lv {G : List Sn} {lv lv' : Int} {s : Sc} (h : ScN G lv s) : ScN G lv' s := ⟨rd_lv h.ready, rd_lv h.all, rd_lv h.lasts⟩
section
variable {RB : RBT} {PB : List Sn → Int → List Va → List Qu → Prop} {L : Int} {K : Nat} (d : Nat)
  (hle : ∀ n n' s outs b, RB n n' s outs b → n ≤ n')
  (hRB : ∀ n n' s outs b, RB n n' s outs b → n' ≤ 4000000 → outs.length ≤ 3 → ∀ (G : List Sn) (lv : Int), 0 ≤ lv → lv ≤ L → G.length ≤ K → ScN G lv s → RdN G lv outs → NoIn G n n' [] → PB G lv b.vars b.eqs ∧ DfB d b.vars b.eqs (outs.map Va.name))
include hle hRB
theorem DfB_mono : ∀ (d : Nat) {V : List Va} {Q : List Qu} {T T' : List Str}, DfB d V Q T → (∀ x ∈ T, x ∈ T') → DfB d V Q T'
  | 0, V, Q, T, T', h, hs => fun q hq => by
    obtain ⟨Tq, h1, h2, h3⟩ := h q hq
    exact ⟨Tq, h1, fun x hx => (h2 x hx).imp (hs x) id, h3⟩
  | d + 1, V, Q, T, T', h, hs => fun q hq => by
    obtain ⟨Tq, h1, h2, h3⟩ := h q hq
    exact ⟨Tq, h1, fun x hx => (h2 x hx).imp (hs x) id, h3⟩
theorem chn_ck {R : Nat → Nat → Nat → Am → Prop} {Q : Am → Prop} (hR : ∀ j n n' a, R j n n' a → n ≤ n') {lo hi : Nat} (h : ∀ j n n' a, R j n n' a → lo ≤ n → n' ≤ hi → Q a) : ∀ (l : List Am) (j n n' : Nat), Chn R j n n' l → lo ≤ n → n' ≤ hi → ∀ a ∈ l, Q a
  | [], _, _, _, _, _, _, a, ha => by simp at ha
  | b :: l, j, n, n', ⟨n1, h1, h2⟩, hlo, hhi, a, ha => by
    have e1 := hR _ _ _ _ h1
    have e2 := chn_le hR h2
    rcases List.mem_cons.1 ha with rfl | ha
    · exact h _ _ _ _ h1 hlo (by omega)
    · exact chn_ck hR h l _ _ _ h2 (by omega) hhi a ha
theorem ckq_def {G : List Sn} {lv : Int} {v : Va} {e : Ex} {ck : List On} (ho : ofN G lv v.name = (ck, true)) (hl : ck.length ≤ 10) (h : EOk G lv ck e) : CkQ d PB G lv (defQ v e) := .inl ⟨rfl, v.name, ck, rfl, ho, hl, h⟩
theorem ckq_defs {G : List Sn} {lv : Int} {s : Sc} (hs : ScN G lv s) : ∀ (outs : List Va) (l : List Qu), RdN G lv outs → GDefs s outs l → ∀ q ∈ l, CkQ d PB G lv q
  | [], l, _, h, q, hq => by cases h; simp at hq
  | v :: r, l, ho, ⟨e, l', he, hl, h2⟩, q, hq => by
    subst hl
    rcases List.mem_cons.1 hq with rfl | hq
    · exact ckq_def d hle hRB (on_of (ho v (List.mem_cons_self ..))) (by simp) (eok_ex _ _ _ _ _ hs he)
    · exact ckq_defs hs r l' (fun w hw => ho w (List.mem_cons_of_mem _ hw)) h2 q hq
theorem eqs_ck {subs : Int} {n n' : Nat} {s : Sc} {outs : List Va} {l : List Qu} {vs : List Va} (h : GEqs RB subs n n' s outs l vs) : n' ≤ 4000000 → outs.length ≤ 3 → ∀ (G : List Sn) (lv : Int), 0 ≤ lv → lv + 1 ≤ L → G.length ≤ K → ScN G lv s → RdN G lv outs → VsN G lv vs → NoIn G n n' vs → ∀ q ∈ l, CkQ d PB G lv q := by
  induction h with
  | defs h => intro _ _ G lv _ _ _ hs ho _ _; exact ckq_defs d hle hRB hs _ _ ho h
  | @choice n n' s outs x h =>
    intro hn hol G lv h0 h1 hG hs ho hv hno q hq
    rw [List.mem_singleton] at hq
    subst hq
    obtain ⟨t, ns, e, ar, _, he, _, hc, rfl⟩ := h
    have harm : ∀ a ∈ ar, PB G (lv + 1) a.vars a.eqs ∧ DfB d a.vars a.eqs (outs.map Va.name) :=
      chn_ck d hle hRB (lo := n) (hi := n') (fun j n n' a ⟨nm, l, b, _, _, hb, _⟩ => hle _ _ _ _ _ hb) (fun j n1 n2 a ⟨nm, l, b, hl1, hl2, hb, ha⟩ hlo hhi => by
        subst ha
        have hlen := isLess_len hl1
        obtain ⟨p1, p2⟩ := hRB _ _ _ _ _ hb (by omega) (by omega) G (lv + 1) (by omega) (by omega) hG (sc_lv hs.arm) (rd_lv fun v hv => ho v (isLess_sub hl1 v hv)) (fun x hx k hk k1 k2 => by
          obtain ⟨v, hv, _⟩ := hno x hx k hk (by omega) (by omega)
          simp at hv)
        exact ⟨p1, DfB_mono d hle hRB d p2 fun x hx => by
          obtain ⟨v, hv, rfl⟩ := List.mem_map.1 hx
          exact List.mem_map.2 ⟨v, isLess_sub hl1 v hv, rfl⟩⟩) _ _ _ _ hc (Nat.le_refl _) (Nat.le_refl _)
    refine .inr (.inr (.inr (.inl ⟨rfl, eok_ex _ _ _ _ _ hs he, fun a ha => (harm a ha).1, outs.map Va.name, by simp; omega, ⟨by simp [Qu.lhs], by simp [Qu.lhs], fun a ha => (harm a ha).2⟩, fun x hx => ?_⟩)))
    obtain ⟨v, hv, rfl⟩ := List.mem_map.1 hx
    exact ho v hv
  | @auto n n' s outs x h =>
    intro hn hol G lv h0 h1 hG hs ho hv hno q hq
    rw [List.mem_singleton] at hq
    subst hq
    obtain ⟨nn, ar, _, _, hc, rfl⟩ := h
    have harm : ∀ a ∈ ar, ((∀ t ∈ a.unl, EOk G lv [] t.e) ∧ PB G (lv + 1) a.vars a.eqs ∧ (∀ t ∈ a.til, EOk (G ++ snOf (lv + 1) a.vars) (lv + 1) [] t.e)) ∧ DfB d a.vars a.eqs (outs.map Va.name) :=
      chn_ck d hle hRB (lo := n) (hi := n') (fun j n n' a ⟨l, u, b, w, _, _, _, hb, _, _⟩ => hle _ _ _ _ _ hb) (fun j n1 n2 a ⟨l, u, b, w, hl1, hl2, hu, hb, hw, ha⟩ hlo hhi => by
        subst ha
        have hlen := isLess_len hl1
        have hol1 : RdN G lv l := fun v hv => ho v (isLess_sub hl1 v hv)
        obtain ⟨p1, p2⟩ := hRB _ _ _ _ _ hb (by omega) (by omega) G (lv + 1) (by omega) (by omega) hG (sc_lv hs.arm) (rd_lv hol1) (fun x hx k hk k1 k2 => by
          obtain ⟨v, hv, _⟩ := hno x hx k hk (by omega) (by omega)
          simp at hv)
        exact ⟨⟨eok_ways hs hu, p1, eok_ways (hs.more hol1).ext hw⟩, DfB_mono d hle hRB d p2 fun x hx => by
          obtain ⟨v, hv, rfl⟩ := List.mem_map.1 hx
          exact List.mem_map.2 ⟨v, isLess_sub hl1 v hv, rfl⟩⟩) _ _ _ _ hc (Nat.le_refl _) (Nat.le_refl _)
    refine .inr (.inr (.inr (.inr ⟨rfl, fun a ha => (harm a ha).1, outs.map Va.name, by simp; omega, ⟨by simp [Qu.lhs], by simp [Qu.lhs], fun a ha => (harm a ha).2⟩, fun x hx => ?_⟩)))
    obtain ⟨v, hv, rfl⟩ := List.mem_map.1 hx
    exact ho v hv
  | @reset n n' s outs x h =>
    intro hn hol G lv h0 h1 hG hs ho hv hno q hq
    rw [List.mem_singleton] at hq
    subst hq
    obtain ⟨e, b, he, hb, rfl⟩ := h
    obtain ⟨p1, p2⟩ := hRB _ _ _ _ _ hb hn hol G (lv + 1) (by omega) (by omega) hG (sc_lv hs) (rd_lv ho) (fun x hx k hk k1 k2 => by
      obtain ⟨v, hv, _⟩ := hno x hx k hk k1 k2
      simp at hv)
    refine .inr (.inr (.inl ⟨rfl, ⟨_, [], rfl, p1⟩, eok_ex _ _ _ _ _ hs he, outs.map Va.name, by simp; omega, ⟨by simp [Qu.lhs], by simp [Qu.lhs], fun a ha => ?_⟩, fun x hx => ?_⟩))
    · simp only [Qu.arms, List.mem_singleton] at ha
      subst ha
      exact p2
    · obtain ⟨v, hv, rfl⟩ := List.mem_map.1 hx
      exact ho v hv
  | @call n n' s outs x y z l vs h _ ih =>
    intro hn hol G lv h0 h1 hG hs ho hv hno q hq
    obtain ⟨k, a, b, hb, e, _, rfl, rfl, ha, hbx, he, rfl⟩ := h
    have vx := hv _ (List.mem_cons_self ..)
    have vy := hv _ (List.mem_cons_of_mem _ (List.mem_cons_self ..))
    rcases List.mem_cons.1 hq with rfl | hq
    · refine .inr (.inl ⟨rfl, ⟨_, _, rfl⟩, fun w hw => ?_, fun e he => ?_, fun hh => ?_⟩)
      · simp only [Qu.lhs, List.mem_cons, List.not_mem_nil, or_false] at hw
        rcases hw with rfl | rfl
        · exact vx
        · exact vy
      · simp only [Qu.args, List.mem_cons, List.not_mem_nil, or_false] at he
        rcases he with rfl | rfl
        · exact eok_ex _ _ _ _ _ hs ha
        · exact eok_ex _ _ _ _ _ hs hbx
      · rcases he with ⟨hz, _⟩ | ⟨_, he⟩
        · simp only [Qu.has] at hh; rw [hz] at hh; cases hh
        · exact eok_ex _ _ _ _ _ hs he
    · refine ih hn hol G lv h0 h1 hG (hs.more fun w hw => ?_) ho (fun w hw => hv w (List.mem_cons_of_mem _ (List.mem_cons_of_mem _ hw))) (fun w hw k hk k1 k2 => ?_) q hq
      · simp only [List.mem_cons, List.not_mem_nil, or_false] at hw
        rcases hw with rfl | rfl
        · exact rd_of vx rfl
        · exact rd_of vy rfl
      · obtain ⟨v, hv2, he2⟩ := hno w hw k hk (by omega) k2
        rw [← he2] at hk
        simp only [List.mem_cons] at hv2
        rcases hv2 with rfl | rfl | hv2
        · have := isNm_inj hk (isNm_of _ _); omega
        · have := isNm_inj hk (isNm_of _ _); omega
        · exact ⟨v, hv2, he2⟩
  | @samp n n' s outs c w z q1 q2 q3 l vs h _ ih =>
    intro hn hol G lv h0 h1 hG hs ho hv hno q hq
    obtain ⟨e1, e2, e3, k1, kp, rfl, rfl, rfl, g1, g2, g3, hk1, hkp, rfl, rfl, rfl⟩ := h
    have vc := hv _ (List.mem_cons_self ..)
    have vw := hv _ (List.mem_cons_of_mem _ (List.mem_cons_self ..))
    have vz := hv _ (List.mem_cons_of_mem _ (List.mem_cons_of_mem _ (List.mem_cons_self ..)))
    have rc := rd_of vc rfl
    have x1 := eok_ex _ _ _ _ _ hs g1
    have x2 := eok_ex _ _ _ _ _ hs g2
    have x3 := eok_ex _ _ _ _ _ hs g3
    have xw : EOk G lv [⟨sRed, nameS ⟨#[99]⟩ (n + 1)⟩] (vaE (clVa (nameS ⟨#[119]⟩ (n + 2)) tyI [⟨sRed, nameS ⟨#[99]⟩ (n + 1)⟩])) := .rd (.inl rfl) (of_on vw)
    rcases List.mem_cons.1 hq with rfl | hq
    · exact ckq_def d hle hRB vc (by simp [mkVa]) x3
    rcases List.mem_cons.1 hq with rfl | hq
    · refine ckq_def d hle hRB vw (by simp [clVa]) ?_
      rcases hkp with rfl | ⟨k2, hk2, rfl⟩
      · exact eok_wh rc x1
      · exact eok_two ⟨by omega, by omega, by omega, by omega⟩ (eok_const hk2) (eok_two ⟨by omega, by omega, by omega, by omega⟩ xw (eok_wh rc x1))
    rcases List.mem_cons.1 hq with rfl | hq
    · refine ckq_def d hle hRB vz (by simp [mkVa]) (.mg (by simp [mkVa]) rc rfl fun i hi hi' => ?_)
      match i, hi, hi' with
      | 0, _, _ => exact eok_wh rc x2
      | 1, _, _ => exact xw
      | 2, _, _ => exact eok_const hk1
    · refine ih hn hol G lv h0 h1 hG (hs.more fun w hw => ?_) ho (fun w hw => hv w (List.mem_cons_of_mem _ (List.mem_cons_of_mem _ (List.mem_cons_of_mem _ hw)))) (fun w hw k hk k1 k2 => ?_) q hq
      · simp only [List.mem_cons, List.not_mem_nil, or_false] at hw
        rcases hw with rfl | rfl
        · exact rc
        · exact rd_of vz rfl
      · obtain ⟨v, hv2, he2⟩ := hno w hw k hk (by omega) k2
        rw [← he2] at hk
        simp only [List.mem_cons] at hv2
        rcases hv2 with rfl | rfl | rfl | hv2
        · have := isNm_inj hk (isNm_of _ _); omega
        · have := isNm_inj hk (isNm_of _ _); omega
        · have := isNm_inj hk (isNm_of _ _); omega
        · exact ⟨v, hv2, he2⟩
theorem eqs_df {subs : Int} {n n' : Nat} {s : Sc} {outs : List Va} {l : List Qu} {vs : List Va} (h : GEqs RB subs n n' s outs l vs) : n' ≤ 4000000 → outs.length ≤ 3 → ∀ (G : List Sn) (lv : Int), 0 ≤ lv → lv + 1 ≤ L → G.length ≤ K → ScN G lv s → RdN G lv outs → VsN G lv vs → NoIn G n n' vs → ∀ q ∈ l, ∃ Tq : List Str, Tq.length ≤ 100 ∧ (∀ x ∈ Tq, x ∈ outs.map Va.name ∨ x ∈ vs.map Va.name) ∧ DfQ (DfB d) q Tq := by
  induction h with
  | @defs n s outs l h =>
    intro _ hol G lv _ _ _ _ _ _ _
    have : ∀ (outs : List Va) (l : List Qu), GDefs s outs l → ∀ q ∈ l, ∃ v ∈ outs, q.lhs = [v.name] ∧ q.arms = [] := by
      intro outs
      induction outs with
      | nil => intro l h q hq; cases h; simp at hq
      | cons v r ih =>
        intro l ⟨e, l', he, hl, h2⟩ q hq
        subst hl
        rcases List.mem_cons.1 hq with rfl | hq
        · exact ⟨v, List.mem_cons_self .., rfl, rfl⟩
        · obtain ⟨w, hw, h3⟩ := ih l' h2 q hq
          exact ⟨w, List.mem_cons_of_mem _ hw, h3⟩
    intro q hq
    obtain ⟨v, hv, h1, h2⟩ := this _ _ h q hq
    exact ⟨[v.name], by simp, fun x hx => .inl (by rw [List.mem_singleton] at hx; subst hx; exact List.mem_map.2 ⟨v, hv, rfl⟩), by rw [h1]; simp, fun x hx => by rw [h1] at hx; exact hx, fun a ha => by rw [h2] at ha; simp at ha⟩
  | @choice n n' s outs x h =>
    intro hn hol G lv h0 h1 hG hs ho hv hno q hq
    obtain ⟨t, ns, e, ar, _, he, _, hc, rfl⟩ := h
    rw [List.mem_singleton] at hq
    subst hq
    have harm : ∀ a ∈ ar, DfB d a.vars a.eqs (outs.map Va.name) :=
      chn_ck d hle hRB (lo := n) (hi := n') (fun j n n' a ⟨nm, l, b, _, _, hb, _⟩ => hle _ _ _ _ _ hb) (fun j n1 n2 a ⟨nm, l, b, hl1, hl2, hb, ha⟩ hlo hhi => by
        subst ha
        have hlen := isLess_len hl1
        obtain ⟨p1, p2⟩ := hRB _ _ _ _ _ hb (by omega) (by omega) G (lv + 1) (by omega) (by omega) hG (sc_lv hs.arm) (rd_lv fun v hv => ho v (isLess_sub hl1 v hv)) (fun x hx k hk k1 k2 => by
          obtain ⟨v, hv, _⟩ := hno x hx k hk (by omega) (by omega)
          simp at hv)
        exact DfB_mono d hle hRB d p2 fun x hx => by
          obtain ⟨v, hv, rfl⟩ := List.mem_map.1 hx
          exact List.mem_map.2 ⟨v, isLess_sub hl1 v hv, rfl⟩) _ _ _ _ hc (Nat.le_refl _) (Nat.le_refl _)
    exact ⟨outs.map Va.name, by simp; omega, fun x hx => .inl hx, by simp [Qu.lhs], by simp [Qu.lhs], harm⟩
  | @auto n n' s outs x h =>
    intro hn hol G lv h0 h1 hG hs ho hv hno q hq
    obtain ⟨nn, ar, _, _, hc, rfl⟩ := h
    rw [List.mem_singleton] at hq
    subst hq
    have harm : ∀ a ∈ ar, DfB d a.vars a.eqs (outs.map Va.name) :=
      chn_ck d hle hRB (lo := n) (hi := n') (fun j n n' a ⟨l, u, b, w, _, _, _, hb, _, _⟩ => hle _ _ _ _ _ hb) (fun j n1 n2 a ⟨l, u, b, w, hl1, hl2, hu, hb, hw, ha⟩ hlo hhi => by
        subst ha
        have hlen := isLess_len hl1
        obtain ⟨p1, p2⟩ := hRB _ _ _ _ _ hb (by omega) (by omega) G (lv + 1) (by omega) (by omega) hG (sc_lv hs.arm) (rd_lv fun v hv => ho v (isLess_sub hl1 v hv)) (fun x hx k hk k1 k2 => by
          obtain ⟨v, hv, _⟩ := hno x hx k hk (by omega) (by omega)
          simp at hv)
        exact DfB_mono d hle hRB d p2 fun x hx => by
          obtain ⟨v, hv, rfl⟩ := List.mem_map.1 hx
          exact List.mem_map.2 ⟨v, isLess_sub hl1 v hv, rfl⟩) _ _ _ _ hc (Nat.le_refl _) (Nat.le_refl _)
    exact ⟨outs.map Va.name, by simp; omega, fun x hx => .inl hx, by simp [Qu.lhs], by simp [Qu.lhs], harm⟩
  | @reset n n' s outs x h =>
    intro hn hol G lv h0 h1 hG hs ho hv hno q hq
    rw [List.mem_singleton] at hq
    subst hq
    obtain ⟨e, b, he, hb, rfl⟩ := h
    obtain ⟨p1, p2⟩ := hRB _ _ _ _ _ hb hn hol G (lv + 1) (by omega) (by omega) hG (sc_lv hs) (rd_lv ho) (fun x hx k hk k1 k2 => by
      obtain ⟨v, hv, _⟩ := hno x hx k hk k1 k2
      simp at hv)
    refine ⟨outs.map Va.name, by simp; omega, fun x hx => .inl hx, by simp [Qu.lhs], by simp [Qu.lhs], fun a ha => ?_⟩
    simp only [Qu.arms, List.mem_singleton] at ha
    subst ha
    exact p2
  | @call n n' s outs x y z l vs h _ ih =>
    intro hn hol G lv h0 h1 hG hs ho hv hno q hq
    obtain ⟨k, a, b, hb, e, _, rfl, rfl, ha, hbx, he, rfl⟩ := h
    have vx := hv _ (List.mem_cons_self ..)
    have vy := hv _ (List.mem_cons_of_mem _ (List.mem_cons_self ..))
    rcases List.mem_cons.1 hq with rfl | hq
    · refine ⟨_, ?_, ?_, ?_, fun x hx => hx, fun a ha => by simp [Qu.arms] at ha⟩
      · simp [Qu.lhs]
      · intro x hx
        simp only [Qu.lhs, List.mem_cons, List.not_mem_nil, or_false] at hx
        refine .inr ?_
        rcases hx with rfl | rfl
        · simp
        · simp
      · simp [Qu.lhs]
    · obtain ⟨Tq, t1, t2, t3⟩ := ih hn hol G lv h0 h1 hG (hs.more fun w hw => by
        simp only [List.mem_cons, List.not_mem_nil, or_false] at hw
        rcases hw with rfl | rfl
        · exact rd_of vx rfl
        · exact rd_of vy rfl) ho (fun w hw => hv w (List.mem_cons_of_mem _ (List.mem_cons_of_mem _ hw))) (fun w hw k hk k1 k2 => by
        obtain ⟨v, hv2, he2⟩ := hno w hw k hk (by omega) k2
        rw [← he2] at hk
        simp only [List.mem_cons] at hv2
        rcases hv2 with rfl | rfl | hv2
        · have := isNm_inj hk (isNm_of _ _); omega
        · have := isNm_inj hk (isNm_of _ _); omega
        · exact ⟨v, hv2, he2⟩) q hq
      exact ⟨Tq, t1, fun x hx => (t2 x hx).imp id fun h => List.mem_cons_of_mem _ (List.mem_cons_of_mem _ h), t3⟩
  | @samp n n' s outs c w z q1 q2 q3 l vs h _ ih =>
    intro hn hol G lv h0 h1 hG hs ho hv hno q hq
    obtain ⟨e1, e2, e3, k1, kp, rfl, rfl, rfl, g1, g2, g3, hk1, hkp, rfl, rfl, rfl⟩ := h
    have vc := hv _ (List.mem_cons_self ..)
    have vz := hv _ (List.mem_cons_of_mem _ (List.mem_cons_of_mem _ (List.mem_cons_self ..)))
    have one : ∀ (v : Va) (e : Ex) (vs : List Va), v ∈ vs → ∃ Tq : List Str, Tq.length ≤ 100 ∧ (∀ x ∈ Tq, x ∈ outs.map Va.name ∨ x ∈ vs.map Va.name) ∧ DfQ (DfB d) (defQ v e) Tq := fun v e vs hv =>
      ⟨[v.name], by simp, fun x hx => .inr (by rw [List.mem_singleton] at hx; subst hx; exact List.mem_map.2 ⟨v, hv, rfl⟩), by simp [defQ, Qu.lhs], fun x hx => hx, fun a ha => by simp [defQ, Qu.arms] at ha⟩
    rcases List.mem_cons.1 hq with rfl | hq
    · exact one _ _ _ (List.mem_cons_self ..)
    rcases List.mem_cons.1 hq with rfl | hq
    · exact one _ _ _ (List.mem_cons_of_mem _ (List.mem_cons_self ..))
    rcases List.mem_cons.1 hq with rfl | hq
    · exact one _ _ _ (List.mem_cons_of_mem _ (List.mem_cons_of_mem _ (List.mem_cons_self ..)))
    · obtain ⟨Tq, t1, t2, t3⟩ := ih hn hol G lv h0 h1 hG (hs.more fun w hw => by
        simp only [List.mem_cons, List.not_mem_nil, or_false] at hw
        rcases hw with rfl | rfl
        · exact rd_of vc rfl
        · exact rd_of vz rfl) ho (fun w hw => hv w (List.mem_cons_of_mem _ (List.mem_cons_of_mem _ (List.mem_cons_of_mem _ hw)))) (fun w hw k hk k1 k2 => by
        obtain ⟨v, hv2, he2⟩ := hno w hw k hk (by omega) k2
        rw [← he2] at hk
        simp only [List.mem_cons] at hv2
        rcases hv2 with rfl | rfl | rfl | hv2
        · have := isNm_inj hk (isNm_of _ _); omega
        · have := isNm_inj hk (isNm_of _ _); omega
        · have := isNm_inj hk (isNm_of _ _); omega
        · exact ⟨v, hv2, he2⟩) q hq
      exact ⟨Tq, t1, fun x hx => (t2 x hx).imp id fun h => List.mem_cons_of_mem _ (List.mem_cons_of_mem _ (List.mem_cons_of_mem _ h)), t3⟩
theorem todo_ck {subs : Int} {n n' : Nat} {s : Sc} {outs : List Va} {l : List Qu} {vs : List Va} (h : GTodo (GEqs RB subs) n n' s outs l vs) : n' ≤ 4000000 → ∀ (G : List Sn) (lv : Int), 0 ≤ lv → lv + 1 ≤ L → G.length ≤ K → ScN G lv s → RdN G lv outs → VsN G lv vs → NoIn G n n' vs → ∀ q ∈ l, CkQ d PB G lv q ∧ ∃ Tq : List Str, Tq.length ≤ 100 ∧ (∀ x ∈ Tq, x ∈ outs.map Va.name ∨ x ∈ vs.map Va.name) ∧ DfQ (DfB d) q Tq := by
  induction h with
  | nil => intro _ G lv _ _ _ _ _ _ _ q hq; simp at hq
  | @step n n1 n' s a r l vs l' vs' ha1 ha h h2 ih =>
    intro hn G lv h0 h1 hG hs ho hv hno q hq
    have i1 := eqs_inc hle h
    have i2 := todo_inc hle h2
    have hle2 := i2.le
    have hle1 := i1.le
    have hoa : RdN G lv a := fun v hv => ho v (List.mem_append_left _ hv)
    rcases List.mem_append.1 hq with hq | hq
    · have hno1 : NoIn G n n1 vs := fun x hx k hk k1 k2 => by
        obtain ⟨v, hv2, he⟩ := hno x hx k hk k1 (by omega)
        rcases List.mem_append.1 hv2 with hv2 | hv2
        · exact ⟨v, hv2, he⟩
        · obtain ⟨j, j1, j2, j3⟩ := i2.nm v hv2
          rw [he] at j3
          have := isNm_inj hk j3
          omega
      have hv1 : VsN G lv vs := fun v hv2 => hv v (List.mem_append_left _ hv2)
      obtain ⟨Tq, t1, t2, t3⟩ := eqs_df d hle hRB h (by omega) ha G lv h0 h1 hG hs hoa hv1 hno1 q hq
      refine ⟨eqs_ck d hle hRB h (by omega) ha G lv h0 h1 hG hs hoa hv1 hno1 q hq, Tq, t1, fun x hx => ?_, t3⟩
      rw [List.map_append, List.map_append]
      exact (t2 x hx).imp (List.mem_append_left _) (List.mem_append_left _)
    · obtain ⟨c1, Tq, t1, t2, t3⟩ := ih hn G lv h0 h1 hG (hs.more hoa) (fun v hv2 => ho v (List.mem_append_right _ hv2)) (fun v hv2 => hv v (List.mem_append_right _ hv2)) (fun x hx k hk k1 k2 => by
        obtain ⟨v, hv2, he⟩ := hno x hx k hk (by omega) k2
        rcases List.mem_append.1 hv2 with hv2 | hv2
        · obtain ⟨j, j1, j2, j3⟩ := i1.nm v hv2
          rw [he] at j3
          have := isNm_inj hk j3
          omega
        · exact ⟨v, hv2, he⟩) q hq
      refine ⟨c1, Tq, t1, fun x hx => ?_, t3⟩
      rw [List.map_append, List.map_append]
      exact (t2 x hx).imp (List.mem_append_right _) (List.mem_append_right _)
omit hRB in
theorem eqs_vc {subs : Int} {n n' : Nat} {s : Sc} {outs : List Va} {l : List Qu} {vs : List Va} (h : GEqs RB subs n n' s outs l vs) : VsC vs := by
  induction h with
  | defs h => intro v hv; simp at hv
  | choice h => intro v hv; simp at hv
  | auto h => intro v hv; simp at hv
  | reset h => intro v hv; simp at hv
  | call h _ ih =>
    obtain ⟨k, a, b, hb, e, _, rfl, rfl, _⟩ := h
    intro v hv
    rcases List.mem_cons.1 hv with rfl | hv
    · exact .inl rfl
    rcases List.mem_cons.1 hv with rfl | hv
    · exact .inl rfl
    · rcases ih v hv with h | ⟨c, hc, h1, h2⟩
      · exact .inl h
      · exact .inr ⟨c, List.mem_cons_of_mem _ (List.mem_cons_of_mem _ hc), h1, h2⟩
  | samp h _ ih =>
    obtain ⟨e1, e2, e3, k1, kp, rfl, rfl, rfl, _⟩ := h
    intro v hv
    rcases List.mem_cons.1 hv with rfl | hv
    · exact .inl rfl
    rcases List.mem_cons.1 hv with rfl | hv
    · exact .inr ⟨_, List.mem_cons_self .., rfl, rfl⟩
    rcases List.mem_cons.1 hv with rfl | hv
    · exact .inl rfl
    · rcases ih v hv with h | ⟨c, hc, h1, h2⟩
      · exact .inl h
      · exact .inr ⟨c, List.mem_cons_of_mem _ (List.mem_cons_of_mem _ (List.mem_cons_of_mem _ hc)), h1, h2⟩
omit hRB in
theorem todo_vc {subs : Int} {n n' : Nat} {s : Sc} {outs : List Va} {l : List Qu} {vs : List Va} (h : GTodo (GEqs RB subs) n n' s outs l vs) : VsC vs := by
  induction h with
  | nil => intro v hv; simp at hv
  | step _ _ h _ ih =>
    intro v hv
    rcases List.mem_append.1 hv with hv | hv
    · rcases eqs_vc hle h v hv with h | ⟨c, hc, h1, h2⟩
      · exact .inl h
      · exact .inr ⟨c, List.mem_append_left _ hc, h1, h2⟩
    · rcases ih v hv with h | ⟨c, hc, h1, h2⟩
      · exact .inl h
      · exact .inr ⟨c, List.mem_append_right _ hc, h1, h2⟩
theorem blk_ck {subs : Int} {n n' : Nat} {s : Sc} {outs : List Va} {b : Bk} (h : GBlk (GEqs RB subs) n n' s outs b) (hn : n' ≤ 4000000) (hol : outs.length ≤ 3) (G : List Sn) (lv : Int) (h0 : 0 ≤ lv) (h1 : lv + 1 ≤ L) (hG : G.length + 4000000 ≤ K) (hK : K ≤ 2 ^ 30) (hs : ScN G lv s) (ho : RdN G lv outs) (hno : NoIn G n n' []) :
    (VaOk G lv b.vars ∧ ∀ q ∈ b.eqs, CkQ d PB (G ++ snOf lv b.vars) lv q) ∧ ∀ q ∈ b.eqs, ∃ Tq : List Str, Tq.length ≤ 100 ∧ (∀ x ∈ Tq, x ∈ outs.map Va.name ∨ x ∈ b.vars.map Va.name) ∧ DfQ (DfB d) q Tq := by
  have hinc := blk_inc hle h
  obtain ⟨own, l, vs, hownl, hown, ht, rfl⟩ := h
  have hlen := hinc.len
  simp only [] at hinc hlen ⊢
  obtain ⟨V, hV⟩ : ∃ V, own ++ vs = V := ⟨_, rfl⟩
  rw [hV] at hinc hlen ⊢
  have hvs : VsN (G ++ snOf lv V) lv V := fun v hv => by
    have hn1 : lookN G v.name = none := lookN_none fun x hx e => by
      obtain ⟨k, k1, k2, k3⟩ := hinc.nm v hv
      obtain ⟨w, hw, _⟩ := hno x hx k (by rw [e]; exact k3) k1 k2
      simp at hw
    have hn2 := lookN_nd (lv := lv) hinc.nd v hv
    unfold ofN
    rw [lookN_app, hn1, hn2]
    simp
  have hown2 := own_ck hown
  have hrown : RdN (G ++ snOf lv V) lv own := fun v hv => rd_of (hvs v (by rw [← hV]; exact List.mem_append_left _ hv)) (hown2 v hv)
  have hrout : RdN (G ++ snOf lv V) lv outs := fun v hv => on_ext (ho v hv)
  have hs2 : ScN (G ++ snOf lv V) lv ⟨s.ready, s.ready ++ own ++ outs, addLasts s.lasts (own ++ outs)⟩ := by
    refine ⟨fun v hv => on_ext (hs.ready v hv), fun v hv => ?_, fun v hv => ?_⟩
    · rcases List.mem_append.1 hv with hv | hv
      · rcases List.mem_append.1 hv with hv | hv
        · exact on_ext (hs.ready v hv)
        · exact hrown v hv
      · exact hrout v hv
    · rcases addLasts_sub v hv with hv | hv
      · exact on_ext (hs.lasts v hv)
      · rcases List.mem_append.1 hv with hv | hv
        · exact hrown v hv
        · exact hrout v hv
  have hsl : (snOf lv V).length = V.length := by simp [snOf]
  have hio := Inc.own hown
  have hno2 : NoIn (G ++ snOf lv V) (n + own.length) n' vs := fun x hx k hk k1 k2 => by
    rcases List.mem_append.1 hx with hx | hx
    · obtain ⟨w, hw, _⟩ := hno x hx k hk (by omega) k2
      simp at hw
    · obtain ⟨v, hv, rfl⟩ := List.mem_map.1 hx
      rw [← hV] at hv
      rcases List.mem_append.1 hv with hv | hv
      · obtain ⟨j, j1, j2, j3⟩ := hio.nm v hv
        have := isNm_inj hk j3
        omega
      · exact ⟨v, hv, rfl⟩
  have htd := todo_ck d hle hRB ht hn (G ++ snOf lv V) lv h0 h1 (by rw [List.length_append, hsl]; omega) hs2 (fun v hv => by
    rcases List.mem_append.1 hv with hv | hv
    · exact hrown v hv
    · exact hrout v hv) (fun v hv => hvs v (by rw [← hV]; exact List.mem_append_right _ hv)) hno2
  refine ⟨⟨⟨by omega, fun v hv => ?_⟩, fun q hq => (htd q hq).1⟩, fun q hq => ?_⟩
  · have hc : v.clock = [] ∨ ∃ c ∈ V, c.clock = [] ∧ v.clock = [⟨sRed, c.name⟩] := by
      rw [← hV] at hv
      rcases List.mem_append.1 hv with hv | hv
      · exact .inl (hown2 v hv)
      · rcases todo_vc hle ht v hv with h | ⟨c, hc, h2, h3⟩
        · exact .inl h
        · exact .inr ⟨c, by rw [← hV]; exact List.mem_append_right _ hc, h2, h3⟩
    rcases hc with hc | ⟨c, hcV, h2, h3⟩
    · rw [hc]
      exact ⟨by simp, fun i hi => by simp at hi⟩
    · rw [h3]
      refine ⟨by simp, fun i hi => ?_⟩
      match i, hi with
      | 0, _ => exact rd_of (hvs c hcV) h2
  · obtain ⟨_, Tq, t1, t2, t3⟩ := htd q hq
    refine ⟨Tq, t1, fun x hx => ?_, t3⟩
    rcases t2 x hx with h | h
    · rw [List.map_append] at h
      rcases List.mem_append.1 h with h | h
      · exact .inr (by rw [← hV, List.map_append]; exact List.mem_append_left _ h)
      · exact .inl h
    · exact .inr (by rw [← hV, List.map_append]; exact List.mem_append_right _ h)
end
theorem eqs0_arms {subs : Int} {n n' : Nat} {s : Sc} {outs : List Va} {l : List Qu} {vs : List Va} (h : GEqs (fun _ _ _ _ _ => False) subs n n' s outs l vs) : ∀ q ∈ l, q.arms = [] := by
  induction h with
  | @defs n s outs l h =>
    have : ∀ (outs : List Va) (l : List Qu), GDefs s outs l → ∀ q ∈ l, q.arms = [] := by
      intro outs
      induction outs with
      | nil => intro l h q hq; cases h; simp at hq
      | cons v r ih =>
        intro l ⟨e, l', he, hl, h2⟩ q hq
        subst hl
        rcases List.mem_cons.1 hq with rfl | hq
        · rfl
        · exact ih l' h2 q hq
    exact this _ _ h
  | choice h =>
    obtain ⟨t, ns, e, ar, hns, _, har, hc, rfl⟩ := h
    cases ar with
    | nil => rcases hns with ⟨_, rfl⟩ | ⟨_, rfl⟩ <;> simp at har
    | cons a r =>
      obtain ⟨n1, ⟨nm, l, b, _, _, hb, _⟩, _⟩ := hc
      exact hb.elim
  | auto h =>
    obtain ⟨nn, ar, hnn, har, hc, rfl⟩ := h
    cases ar with
    | nil => simp at har; omega
    | cons a r =>
      obtain ⟨n1, ⟨l, u, b, w, _, _, _, hb, _⟩, _⟩ := hc
      exact hb.elim
  | reset h => obtain ⟨e, b, _, hb, _⟩ := h; exact hb.elim
  | call h _ ih =>
    obtain ⟨k, a, b, hb, e, _, rfl, rfl, _, _, _, rfl⟩ := h
    intro q hq
    rcases List.mem_cons.1 hq with rfl | hq
    · rfl
    · exact ih q hq
  | samp h _ ih =>
    obtain ⟨e1, e2, e3, k1, kp, rfl, rfl, rfl, _, _, _, _, _, rfl, rfl, rfl⟩ := h
    intro q hq
    rcases List.mem_cons.1 hq with rfl | hq
    · rfl
    rcases List.mem_cons.1 hq with rfl | hq
    · rfl
    rcases List.mem_cons.1 hq with rfl | hq
    · rfl
    · exact ih q hq
theorem todo0_arms {subs : Int} {n n' : Nat} {s : Sc} {outs : List Va} {l : List Qu} {vs : List Va} (h : GTodo (GEqs (fun _ _ _ _ _ => False) subs) n n' s outs l vs) : ∀ q ∈ l, q.arms = [] := by
  induction h with
  | nil => intro q hq; simp at hq
  | step _ _ h _ ih =>
    intro q hq
    rcases List.mem_append.1 hq with hq | hq
    · exact eqs0_arms h q hq
    · exact ih q hq
theorem bk_ck : ∀ (d : Nat) (subs : Int) (n n' : Nat) (s : Sc) (outs : List Va) (b : Bk), GBk d subs n n' s outs b → n' ≤ 4000000 → outs.length ≤ 3 → ∀ (G : List Sn) (lv : Int), 0 ≤ lv → lv + d + 1 ≤ 900 → G.length + (d + 1) * 4000000 ≤ 2 ^ 30 → ScN G lv s → RdN G lv outs → NoIn G n n' [] → CkB d G lv b.vars b.eqs ∧ DfB d b.vars b.eqs (outs.map Va.name)
  | 0, subs, n, n', s, outs, b, h, hn, hol, G, lv, h0, h1, hG, hs, ho, hno => by
    obtain ⟨⟨p1, p2⟩, p3⟩ := blk_ck (RB := fun _ _ _ _ _ => False) (PB := fun _ _ _ _ => False) (L := 900) (K := 2 ^ 30) 0 (fun _ _ _ _ _ h => h.elim) (fun _ _ _ _ _ h => h.elim) h hn hol G lv h0 (by omega) (by omega) (Nat.le_refl _) hs ho hno
    obtain ⟨own, l, vs, _, _, ht, rfl⟩ := h
    refine ⟨⟨⟨h0, by omega⟩, p1, p2⟩, fun q hq => ?_⟩
    obtain ⟨Tq, t1, t2, t3, t4, t5⟩ := p3 q hq
    exact ⟨Tq, t1, t2, t3, t4, fun a ha => by rw [todo0_arms ht q hq] at ha; simp at ha⟩
  | d + 1, subs, n, n', s, outs, b, h, hn, hol, G, lv, h0, h1, hG, hs, ho, hno => by
    obtain ⟨⟨p1, p2⟩, p3⟩ := blk_ck (RB := GBk d subs) (PB := CkB d) (L := 900 - (d + 1)) (K := 2 ^ 30 - (d + 1) * 4000000) d (fun n n' s outs b h => bk_le d subs n n' s outs b h) (fun n n' s outs b h hn hol G lv h0 h1 hG hs ho hno => bk_ck d subs n n' s outs b h hn hol G lv h0 (by omega) (by omega) hs ho hno) h hn hol G lv h0 (by omega) (by omega) (by omega) hs ho hno
    exact ⟨⟨⟨h0, by omega⟩, p1, p2⟩, p3⟩
end Go.Proofs.Ytamdnlnoioglnaa
