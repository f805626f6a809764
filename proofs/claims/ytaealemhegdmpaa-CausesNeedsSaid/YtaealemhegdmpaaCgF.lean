/-
 Texts that belong together: CsLv, CsE.
-/
-- halved
import Derived.Test.YtaealemhegdmpaaLwA
import Derived.Test.YtaealemhegdmpaaCsD
import Derived.Test.YtaealemhegdmpaaCsR
/-
 What a call leaves behind, cut back.
-/
set_option linter.unusedVariables false
set_option linter.unusedSimpArgs false
namespace Go.Proofs.Ytaealemhegdmpaa
open Go Go.RowKit

theorem ACalls.leave {P : Program} {g : FuncId} {args : List PV} {m : M} {R R2 : PV → M → Prop} (h : ACalls P g args m R) (hl : ∀ v m', R v m' → ∃ v2 m2, Leave m m' v v2 m2 ∧ R2 v2 m2) : ACalls P g args m R2 := by
 refine ⟨h.1, fun G w vs hI hlen hr => (h.2 G w vs hI hlen hr).mono ?_⟩
 rintro e w' (⟨y, v', m', G', rfl, hR, h3, h4, h5⟩ | ⟨_, _, _, _, _, hz, _⟩)
 ·obtain ⟨v2, m2, hv, hR2⟩ := hl _ _ hR
  obtain ⟨G2, g1, g2, g3⟩ := hv.sound hI h5 h4 h3
  exact .inl ⟨y, v2, m2, G2, rfl, hR2, g1, g2, g3⟩
 ·exact hz.elim
end Go.Proofs.Ytaealemhegdmpaa

/-
 causes: the graph of a block, plainly; the state it stands in; what expressions read.
-/
set_option linter.unusedVariables false
set_option linter.unusedSimpArgs false
namespace Go.Proofs.Ytaealemhegdmpaa
open Nat renaming reduceEqDiff → jA, reduceAdd → jB, reduceMul → jC, reduceLT → jD, reduceLeDiff → jE, reduceBEq → jF, reduceBNe → jG
open Int renaming reduceLE → jH, reduceLT → jI, reduceToNat → jJ, reduceEq → jK
open Go
set_option maxRecDepth 20000
-- TNAMES: int; uint8; int32; string; bool; []string; []api.Expr; api.Expr; api.Pos; api.Type; api.On; []api.On; api.Var; []api.Var; []int; [][]int; causes.graph; []causes.vertex; causes.vertex; causes.scope; *causes.graph


structure Vx where
 name : Str
 line : Int
 col : Int
/-- Vertices, and which needs which. -/
structure Gs where
 vs : List Vx
 E : Nat → Nat → Prop
abbrev nmG (g : Gs) : List Str := g.vs.map Vx.name
def Gs.put (g : Gs) (v : Va) : Gs := ⟨g.vs ++ [⟨v.name, v.line, v.col⟩], g.E⟩
def Gs.need (g : Gs) (i : Int) (O : Int → Prop) : Gs := ⟨g.vs, fun a b => g.E a b ∨ ((a : Int) = i ∧ O (b : Int))⟩
def rdL (ns : List Str) (see : List Nat) (es : List Ex) : List Int := es.flatMap fun e => (e.reads true []).map (fndN ns see)
def exQ (q : Qu) : List Ex := (if q.kind = 4 then q.arms.flatMap fun a => a.unl.map Tr.e else if q.kind ≠ 2 ∨ q.has = true then [q.e] else []) ++ q.args
abbrev BlT := Gs → List Nat → List Va → List Qu → (Int → Prop) → Gs
def gDef (see : List Nat) (O : Int → Prop) (g : Gs) (l : List Str) : Gs := l.foldl (fun g x => g.need (fndN (nmG g) see x) O) g
def gArms (bl : BlT) (see : List Nat) (O : Int → Prop) (g : Gs) (ar : List Am) : Gs := ar.foldl (fun g a => bl g see a.vars a.eqs O) g
def gEq (df : DfT) (bl : BlT) (see : List Nat) (O : Int → Prop) (g : Gs) (q : Qu) : Gs :=
 gArms bl see (fun x => O x ∨ x ∈ rdL (nmG g) see (exQ q)) (gDef see (fun x => O x ∨ x ∈ rdL (nmG g) see (exQ q)) g (dfQ df q)) q.arms
def gVars (p : Gs × List Nat) (V : List Va) : Gs × List Nat := V.foldl (fun p v => (p.1.put v, p.2 ++ [p.1.vs.length])) p
def gCk1 (see : List Nat) (v : Va) (g : Gs) (l : List On) : Gs := l.foldl (fun g o => g.need (fndN (nmG g) see v.name) (fun x => x = fndN (nmG g) see o.var)) g
def gCk (see : List Nat) (g : Gs) (V : List Va) : Gs := V.foldl (fun g v => gCk1 see v g v.clock) g
def gBlk (df : DfT) (bl : BlT) : BlT := fun g see V Q O =>
 Q.foldl (gEq df bl (gVars (g, see) V).2 O) (gCk (gVars (g, see) V).2 (gVars (g, see) V).1 V)
def gBk : Nat → BlT
 | 0 => gBlk (fun _ _ => []) (fun g _ _ _ _ => g)
 | d + 1 => gBlk (dfF d) (gBk d)

/-! What stays -/
theorem gDef_vs (see : List Nat) (O : Int → Prop) : ∀ (l : List Str) (g : Gs), (gDef see O g l).vs = g.vs
 | [], g => rfl
 | x :: l, g => gDef_vs see O l _
theorem gCk1_vs (see : List Nat) (v : Va) : ∀ (l : List On) (g : Gs), (gCk1 see v g l).vs = g.vs
 | [], g => rfl
 | x :: l, g => gCk1_vs see v l _
theorem gCk_vs (see : List Nat) : ∀ (V : List Va) (g : Gs), (gCk see g V).vs = g.vs
 | [], g => rfl
 | v :: V, g => (gCk_vs see V _).trans (gCk1_vs see v v.clock g)
theorem gDef_take {see : List Nat} {O : Int → Prop} {g : Gs} {l : List Str} {k : Nat} (h : k < l.length) : gDef see O g (l.take (k + 1)) = (gDef see O g (l.take k)).need (fndN (nmG g) see l[k]) O := by
 have e : nmG (gDef see O g (l.take k)) = nmG g := by unfold nmG; rw [gDef_vs]
 rw [← e]
 unfold gDef
 rw [List.take_succ_eq_append_getElem h, List.foldl_append]
 rfl
theorem gArms_take {bl : BlT} {see : List Nat} {O : Int → Prop} {g : Gs} {l : List Am} {k : Nat} (h : k < l.length) : gArms bl see O g (l.take (k + 1)) = bl (gArms bl see O g (l.take k)) see l[k].vars l[k].eqs O := by
 unfold gArms; rw [List.take_succ_eq_append_getElem h, List.foldl_append]; rfl
theorem gVars_take {p : Gs × List Nat} {V : List Va} {k : Nat} (h : k < V.length) : gVars p (V.take (k + 1)) = ((gVars p (V.take k)).1.put V[k], (gVars p (V.take k)).2 ++ [(gVars p (V.take k)).1.vs.length]) := by
 unfold gVars; rw [List.take_succ_eq_append_getElem h, List.foldl_append]; rfl
theorem gVars_eq : ∀ (V : List Va) (g : Gs) (see : List Nat), (gVars (g, see) V).1.vs = g.vs ++ V.map (fun v => ⟨v.name, v.line, v.col⟩) ∧ (gVars (g, see) V).1.E = g.E ∧ (gVars (g, see) V).2 = see ++ (List.range V.length).map (g.vs.length + ·)
 | [], g, see => by simp [gVars]
 | v :: V, g, see => by
  obtain ⟨h1, h2, h3⟩ := gVars_eq V (g.put v) (see ++ [g.vs.length])
  refine ⟨?_, h2, ?_⟩
  ·show (gVars (g.put v, see ++ [g.vs.length]) V).1.vs = _
   rw [h1]; simp [Gs.put]
  ·show (gVars (g.put v, see ++ [g.vs.length]) V).2 = _
   rw [h3, List.length_cons, List.range_succ_eq_map, List.map_cons, List.map_map, List.append_assoc]
   simp only [Gs.put, List.length_append, List.length_singleton, Nat.add_zero, List.singleton_append]
   congr 2
   refine List.map_congr_left fun x _ => ?_
   simp only [Function.comp_apply]
   omega
/-- The names that can be seen. -/
def seeNm (ns : List Str) (see : List Nat) : List Str := see.map fun i => ns.getD i ⟨#[]⟩
theorem fndN_at (ns : List Str) (s : Str) : ∀ (see : List Nat), (fndN ns see s = -1 ∧ ¬ s ∈ seeNm ns see) ∨ ∃ i ∈ see, fndN ns see s = (i : Int) ∧ ns.getD i ⟨#[]⟩ = s := by
 have key : ∀ r : List Nat, (fndN ns r.reverse s = -1 ∧ ¬ s ∈ seeNm ns r.reverse) ∨ ∃ i ∈ r.reverse, fndN ns r.reverse s = (i : Int) ∧ ns.getD i ⟨#[]⟩ = s := by
  intro r
  induction r with
  | nil => exact .inl ⟨rfl, by simp [seeNm]⟩
  | cons i r ih =>
   rw [List.reverse_cons, fndN_snoc]
   by_cases he : eqS (ns.getD i ⟨#[]⟩) s = true
   ·rw [if_pos he]
    exact .inr ⟨i, by simp, rfl, eqS_iff.1 he⟩
   ·rw [if_neg he]
    rcases ih with ⟨h1, h2⟩ | ⟨j, hj, h1, h2⟩
    ·refine .inl ⟨h1, fun hm => ?_⟩
     unfold seeNm at hm h2
     rw [List.map_append, List.mem_append] at hm
     rcases hm with hm | hm
     ·exact h2 hm
     ·simp only [List.map_cons, List.map_nil, List.mem_singleton] at hm
      exact he (eqS_iff.2 hm.symm)
    ·exact .inr ⟨j, by simp at hj ⊢; exact .inl hj, h1, h2⟩
 intro see
 have := key see.reverse
 rwa [List.reverse_reverse] at this
theorem fndN_lt {ns : List Str} {see : List Nat} (h : ∀ i ∈ see, i < ns.length) (s : Str) : fndN ns see s < (ns.length : Int) := by
 rcases fndN_at ns s see with ⟨h1, _⟩ | ⟨i, hi, h1, _⟩
 ·rw [h1]; omega
 ·have := h i hi
  rw [h1]; omega
theorem fndN_in {ns : List Str} {see : List Nat} (h : ∀ i ∈ see, i < ns.length) {s : Str} (hs : s ∈ seeNm ns see) : ∃ i : Nat, i < ns.length ∧ fndN ns see s = (i : Int) ∧ ns.getD i ⟨#[]⟩ = s := by
 rcases fndN_at ns s see with ⟨_, h2⟩ | ⟨i, hi, h1, h2⟩
 ·exact absurd hs h2
 ·exact ⟨i, h i hi, h1, h2⟩
theorem rdL_lt {ns : List Str} {see : List Nat} (h : ∀ i ∈ see, i < ns.length) (es : List Ex) : ∀ k ∈ rdL ns see es, k < (ns.length : Int) := fun k hk => by
 obtain ⟨e, _, he⟩ := List.mem_flatMap.1 hk
 obtain ⟨s, _, rfl⟩ := List.mem_map.1 he
 exact fndN_lt h s
theorem seeNm_ext (ns ms : List Str) (see : List Nat) (h : ∀ i ∈ see, i < ns.length) : seeNm (ns ++ ms) see = seeNm ns see := by
 unfold seeNm
 refine List.map_congr_left fun i hi => ?_
 simp [List.getD, List.getElem?_append_left (h i hi)]

/-! The state -/
def Vm.vx (x : Vm) : Vx := ⟨x.name, x.line, x.col⟩
/-- What stands in memory is this graph. -/
structure GsR (g : Gs) (L : List Vm) : Prop where
 vs : L.map Vm.vx = g.vs
 ok : ∀ i (h : i < L.length), NdOk L.length L[i].l
 ed : ∀ i (h : i < L.length) (b : Nat), (b : Int) ∈ L[i].l ↔ g.E i b
 dom : ∀ i b, g.E i b → i < L.length
theorem GsR.len {g : Gs} {L : List Vm} (h : GsR g L) : g.vs.length = L.length := by rw [← h.vs, List.length_map]
theorem GsR.nm {g : Gs} {L : List Vm} (h : GsR g L) : nmsL L = nmG g := by
 unfold nmsL nmG
 rw [← h.vs, List.map_map]; rfl
theorem GsR.put {g : Gs} {L : List Vm} (h : GsR g L) (v : Va) : GsR (g.put v) (L ++ [⟨v.name, v.line, v.col, .full, []⟩]) := by
 refine ⟨by rw [List.map_append, h.vs]; rfl, fun i hi => ?_, fun i hi b => ?_, fun i b he => by have := h.dom i b he; simp; omega⟩
 ·rw [List.length_append, List.length_singleton]
  simp only [List.getElem_append]
  split
  ·rename_i h1
   obtain ⟨a, b⟩ := h.ok i h1
   exact ⟨a, fun k hk => ⟨(b k hk).1, by have := (b k hk).2; omega⟩⟩
  ·simp only [List.getElem_singleton]
   exact ⟨List.nodup_nil, fun k hk => by cases hk⟩
 ·simp only [List.getElem_append]
  split
  ·rename_i h1
   exact h.ed i h1 b
  ·rename_i h1
   simp only [List.getElem_singleton]
   exact ⟨(fun hk => by cases hk), (fun he => absurd (h.dom i b he) h1)⟩
theorem GsR.need {g : Gs} {L : List Vm} (h : GsR g L) {i : Nat} (hi : i < L.length) (o : Own) (ks : List Int) (hk : ∀ k ∈ ks, k < (L.length : Int)) {O : Int → Prop} (hO : ∀ x, O x ↔ x ∈ ks) : GsR (g.need (i : Int) O) (L.set i (L[i].wi o (needL L[i].l ks))) := by
 refine ⟨?_, fun j hj => ?_, fun j hj b => ?_, fun j b he => ?_⟩
 ·rw [List.map_set]
  show (L.map Vm.vx).set i (L[i].vx) = g.vs
  rw [← h.vs]
  have : L[i].vx = (L.map Vm.vx)[i]'(by simpa using hi) := by simp
  rw [this, List.set_getElem_self]
 ·have hj' : j < L.length := by simpa using hj
  rw [List.length_set, List.getElem_set]
  split
  ·rename_i he; subst he; exact (h.ok i hi).needL hk
  ·exact h.ok j hj'
 ·have hj' : j < L.length := by simpa using hj
  rw [List.getElem_set]
  split
  ·rename_i he
   subst he
   show (b : Int) ∈ needL L[i].l ks ↔ _
   rw [needL_mem, h.ed i hi b]
   show _ ↔ g.E i b ∨ _
   constructor
   ·rintro (h1 | ⟨_, h2⟩)
    ·exact .inl h1
    ·exact .inr ⟨rfl, (hO _).2 h2⟩
   ·rintro (h1 | ⟨_, h2⟩)
    ·exact .inl h1
    ·exact .inr ⟨by omega, (hO _).1 h2⟩
  ·rename_i he
   show _ ↔ g.E j b ∨ _
   rw [h.ed j hj' b]
   constructor
   ·exact .inl
   ·rintro (h1 | ⟨h2, _⟩)
    ·exact h1
    ·exact absurd (by omega) he
 ·rw [List.length_set]
  rcases he with he | ⟨he, _⟩
  ·exact h.dom j b he
  ·have : j = i := by omega
   omega
def GS (mb : M) (gid : Nat) (g : Gs) (m : M) : Prop := ∃ L, GrM mb gid L m ∧ GsR g L
section
variable {mb m : M} {gid : Nat} {g : Gs} {see : List Nat}
theorem GS.fresh (h : GS mb gid g m) (s : Nat) : GS mb gid g (m.fresh s) := by
 obtain ⟨L, h1, h2⟩ := h
 exact ⟨L, h1.fresh s, h2⟩
theorem GS.base (h : GS mb gid g m) : BaseR mb m := by
 obtain ⟨L, h1, h2⟩ := h
 exact h1.base
theorem GS.use (h : GS mb gid g m) (s s' : Nat) : GS mb gid g (((Own.tok m.nt).use (m.fresh s)).fresh s') := by
 obtain ⟨L, h1, h2⟩ := h
 refine ⟨L, (h1.fresh s).use (s' := s) (.inr ⟨_, rfl, h1.base.nt, ?_⟩) h1.tokNew, h2⟩
 simp [M.alive, M.fresh, M.nt]
theorem GrM.toks {L : List Vm} (h : GrM mb gid L m) {m' : M} (ht : Toks m m') : GrM mb gid L m' := by
 have hget : ∀ k, m'.get k = m.get k := fun k => by unfold M.get; rw [ht.boxes]
 have hnb : m'.nb = m.nb := ht.nb
 refine ⟨⟨by rw [hnb]; exact h.base.nb, Nat.le_trans h.base.nt ht.nt, by rw [ht.boxes]; exact h.base.boxes, by rw [← h.base.toks, ← ht.toks, List.take_take, Nat.min_eq_left h.base.nt]⟩, h.gb, by rw [hnb]; exact h.glt, ?_, fun i hi => ?_, h.dist⟩
 ·rcases h.box with ⟨h1, h2⟩ | ⟨id, cap, c, b0, b0', b1, b2, b3, b4, b5, b6⟩
  ·exact .inl ⟨h1, by rw [hget]; exact h2⟩
  ·exact .inr ⟨id, cap, c, b0, b0', by rw [hget]; exact b1, by rw [hget]; exact b2, b3, b4, b5, fun x hx => within_mono (by rw [hnb]; exact Nat.le_refl _) ht.nt x (b6 x hx)⟩
 ·rcases h.own i hi with h1 | ⟨t, h1, h2, h3⟩
  ·exact .inl h1
  ·refine .inr ⟨t, h1, h2, ?_⟩
   have hlt : t < m.nt := M.alive_lt h3
   unfold M.alive at h3 ⊢
   rw [← ht.toks, List.getElem?_take_of_lt hlt] at h3
   exact h3
theorem GS.toks (h : GS mb gid g m) {m' : M} (ht : Toks m m') : GS mb gid g m' := by
 obtain ⟨L, h1, h2⟩ := h
 exact ⟨L, h1.toks ht, h2⟩
theorem find_S (h : GS mb gid g m) (hs : ∀ i ∈ see, i < g.vs.length) (hl : see.length < 2 ^ 40) (s : Str) : ACalls Try.prog 43 [.bp gid 0, .sl .no (see.map pN), pS s] m (fun v m' => v = pI (fndN (nmG g) see s) ∧ m' = m) := by
 obtain ⟨L, h1, h2⟩ := h
 rw [← h2.nm]
 exact find_any mb gid L see s m h1 (by rw [← h2.len]; exact hs) hl
theorem put_S (h : GS mb gid g m) (hL : g.vs.length < 2 ^ 40) (hsl : see.length < 2 ^ 40) (v : Va) : ACalls Try.prog 23 [.bp gid 0, .sl .no (see.map pN), v.pv] m (fun x m' => x = .sl .no ((see ++ [g.vs.length]).map pN) ∧ GS mb gid (g.put v) m' ∧ Stp m m') := by
 obtain ⟨L, h1, h2⟩ := h
 rw [h2.len] at hL ⊢
 exact (put_any mb gid L see v m h1 hL hsl).mono fun x m' ⟨q1, q2, q3⟩ => ⟨q1, ⟨_, q2, h2.put v⟩, q3⟩
theorem need_S (h : GS mb gid g m) (hL : g.vs.length < 2 ^ 30) {i : Nat} (hi : i < g.vs.length) (ks : List Int) (hk : ∀ k ∈ ks, k < (g.vs.length : Int)) (hkl : ks.length < 2 ^ 40) {O : Int → Prop} (hO : ∀ x, O x ↔ x ∈ ks) : ACalls Try.prog 44 [.bp gid 0, pN i, .sl .no (ks.map pI)] m (fun x m' => x = .tp [] ∧ GS mb gid (g.need (i : Int) O) m' ∧ Stp m m') := by
 obtain ⟨L, h1, h2⟩ := h
 rw [h2.len] at hL hi hk
 exact (need_any mb gid L i hi ks m h1 hL hk (h2.ok i hi) hkl).mono fun x m' ⟨q1, o, q2, q3⟩ => ⟨q1, ⟨_, q2, h2.need hi o ks hk hO⟩, q3⟩
theorem concatN (ls : List (List Int)) (m : M) (o : Own) (hb : ls.flatten.length < 2 ^ 30) : ACalls Try.prog 57 [.sl o (ls.map pLJ)] m (fun v m' => v = .sl .no (ls.flatten.map pI) ∧ m' = m) :=
 ACalls.leave (concatJ_any o ls m hb) (fun v m' ⟨h1, h2⟩ => by subst h1; subst h2; exact leave_toks0 ((Toks.refl m).use (o := .full) (s := 1) (s' := 1) .full) rfl ⟨rfl, rfl⟩)
theorem rdL_take {ns : List Str} {see : List Nat} {es : List Ex} {k : Nat} (h : k < es.length) : rdL ns see (es.take (k + 1)) = rdL ns see (es.take k) ++ (es[k].reads true []).map (fndN ns see) := by
 unfold rdL; rw [List.take_succ_eq_append_getElem h, List.flatMap_append]; simp
theorem rdL_len (ns : List Str) (see : List Nat) : ∀ (es : List Ex), (rdL ns see es).length ≤ Ex.sizes es
 | [] => Nat.zero_le _
 | e :: es => by
  have h1 := rdL_len ns see es
  have h2 := reads_len true [] e
  unfold rdL at h1 ⊢
  rw [List.flatMap_cons, List.length_append, List.length_map]
  simp only [Ex.sizes, List.length_nil] at h2 ⊢
  omega
theorem sizesT_le : ∀ (es : List Ex) (k : Nat), Ex.sizes (es.take k) ≤ Ex.sizes es
 | [], k => by simp
 | e :: es, 0 => by simp [Ex.sizes]
 | e :: es, k + 1 => by
  have := sizesT_le es k
  simp only [List.take_succ_cons, Ex.sizes]; omega
theorem sizes_mem : ∀ {es : List Ex} {e : Ex}, e ∈ es → e.size ≤ Ex.sizes es
 | a :: es, e, h => by
  simp only [Ex.sizes]
  rcases List.mem_cons.1 h with rfl | h
  ·omega
  ·have := sizes_mem h; omega
set_option maxHeartbeats 4000000 in
theorem reads_S (h : GS mb gid g m) (hs : ∀ i ∈ see, i < g.vs.length) (hl : see.length < 2 ^ 40) (o : Own) (es : List Ex) (hok : ∀ e ∈ es, e.okr = true) (hsz : Ex.sizes es < 2 ^ 29) :
    ACalls Try.prog 58 [.bp gid 0, .sl .no (see.map pN), .sl o (es.map Ex.pv)] m (fun v m' => v = .sl .no ((rdL (nmG g) see es).map pI) ∧ m' = m) := by
 refine ACalls.enter (mu := []) ok_mix Try.func58 rfl (by kernel_rfl) (by kernel_rfl) (by simp only [List.length_cons, List.length_nil, Try.ntmps58]; omega) ?_
 (repeat (first | refine aSeq fun X hX => ?_ | refine aBlk ?_ | refine aReg ?_; simp -implicitDefEqProofs only [↓slp, ↓reduceIte, jA, Y0] | apply hX; clear hX X | intro hlen; unfold maxLen at hlen))
 obtain ⟨I, hI⟩ : ∃ I : F → M → Prop, ∀ f m', I f m' = (∃ (k : Nat) (o2 : Own), k ≤ es.length ∧ f 0 = .bp gid 0 ∧ f 1 = .sl .no (see.map pN) ∧ f 7 = .sl o2 ((rdL (nmG g) see (es.take k)).map pI) ∧ f 12 = .sl o (es.map Ex.pv) ∧ f 13 = pI es.length ∧ f 14 = pI k ∧ Toks m m' ∧ Mine m m' o2 1) := ⟨_, fun _ _ => rfl⟩
 refine aLoop I (fun f m => es.length - numOf (f 14)) ?_ ?_
 ·rw [hI]; exact ⟨0, .full, by omega, rfl, rfl, rfl, rfl, rfl, rfl, .refl _, .full⟩
 intro f m' hrel
 rw [hI] at hrel
 obtain ⟨k, o2, hk, f0, f1, f7, f12, f13, f14, htk, hmi⟩ := hrel
 cases c1 : decide ((k : Int) < (es.length : Int)) with
 | false =>
  obtain rfl : k = es.length := by simp at c1; omega
  rw [List.take_length] at f7
  (repeat (first | refine aSeq fun X hX => ?_ | (first | refine aExit ?_ | refine aRet ?_); try simp only [slx, ↓reduceIte, jA, reduceCtorEq] | (first | apply aReg | apply aIf); simp -implicitDefEqProofs only [↓slp, slb, ↓reduceIte, jA, f7, f13, f14, pI, c1] | apply hX; clear hX X | clear hX X; apply hX; clear hX X))
  simp only [aPost, Try.results58, aRes_n, aRes_t, aRes_c, pack_one, pack_two]
  simp -implicitDefEqProofs only [slb, ↓reduceIte]
  exact leave_toks0 htk rfl ⟨rfl, rfl⟩
 | true =>
  have hlt : k < es.length := by simpa using c1
  have g0 := getD_map Ex.pv es k hlt
  have hi : IntKind.i64.wrap ((k : Int) + 1) = ((k + 1 : Nat) : Int) := by rw [wrap64 (by omega)]; omega
  have hme : numOf (f 14) = k := by rw [f14]; exact Int.toNat_natCast k
  have hrl := rdL_len (nmG g) see (es.take k)
  have hrt := sizesT_le es k
  have hek := sizes_mem (List.getElem_mem hlt)
  have hrd := reads_len true [] es[k]
  have hnx := rdL_take (ns := nmG g) (see := see) hlt
  have hb := Reads_any es[k] m' (hok _ (List.getElem_mem hlt)) (by omega)
  generalize hr0 : es[k].reads true [] = r at *
  generalize hA0 : rdL (nmG g) see (es.take k) = A at *
  (repeat (first | refine aSeq fun X hX => ?_ | refine aSkip ?_ | (first | apply aReg | apply aIf); simp -implicitDefEqProofs only [↓slp, ↓reduceIte, reduceCtorEq, jA, jB, jE, jF, Y0, f12, f13, f14, pI, c1, g0]; try simp only [fo] | apply hX; clear hX X | apply And.intro; focus omega))
  refine callM hb ?_
  rintro v mc ⟨rfl, rfl⟩
  simp -implicitDefEqProofs only [↓slp, ↓reduceIte, Y0]; try simp only [fo]
  (repeat (first | refine aBlk ?_ | apply hX; clear hX X | intro hlen; unfold maxLen at hlen))
  simp only [List.length_nil] at hrd
  obtain ⟨J, hJ⟩ : ∃ J : F → M → Prop, ∀ f m', J f m' = (∃ (j : Nat) (o2 o3 : Own), j ≤ r.length ∧ f 0 = .bp gid 0 ∧ f 1 = .sl .no (see.map pN) ∧ f 7 = .sl o2 ((A ++ (r.take j).map (fndN (nmG g) see)).map pI) ∧ f 12 = .sl o (es.map Ex.pv) ∧ f 13 = pI es.length ∧ f 14 = pI k ∧ f 19 = .sl o3 (r.map pS) ∧ f 20 = pI r.length ∧ f 21 = pI j ∧ Toks m m' ∧ Mine m m' o2 1) := ⟨_, fun _ _ => rfl⟩
  refine aLoop J (fun f m => r.length - numOf (f 21)) ?_ ?_
  ·rw [hJ]
   refine ⟨0, o2, _, by omega, f0, f1, by rw [List.take_zero, List.map_nil, List.append_nil]; exact f7, f12, f13, f14, rfl, rfl, rfl, htk.use (o := .full) (s := 1) (s' := 1) .full, hmi.other (o := .full) (s := 1) (fun t ht => by cases ht)⟩
  clear f0 f1 f7 f12 f13 f14 htk hmi hb
  intro f m' hrel
  rw [hJ] at hrel
  obtain ⟨j, o2, o3, hj, f0, f1, f7, f12, f13, f14, f19, f20, f21, htk, hmi⟩ := hrel
  cases c2 : decide ((j : Int) < (r.length : Int)) with
  | true =>
   have hltj : j < r.length := by simpa using c2
   have gj := getD_map pS r j hltj
   have hij : IntKind.i64.wrap ((j : Int) + 1) = ((j + 1 : Nat) : Int) := by rw [wrap64 (by omega)]; omega
   have hmej : numOf (f 21) = j := by rw [f21]; exact Int.toNat_natCast j
   have hgs : GS mb gid g m' := h.toks htk
   have htl : (r.take j).length = j := by rw [List.length_take]; omega
   have hq1 := ints_one (A ++ (r.take j).map (fndN (nmG g) see))
   have hq2 : (A ++ (r.take j).map (fndN (nmG g) see)).length + 1 ≤ maxLen := by rw [List.length_append, List.length_map, htl]; unfold maxLen; omega
   have hq3 : ((A ++ (r.take j).map (fndN (nmG g) see)).length + 1) * 8 ≤ 140737488355328 := by rw [List.length_append, List.length_map, htl]; omega
   have hfr := hmi.free
   (repeat (first | refine aSeq fun X hX => ?_ | refine aSkip ?_ | (first | apply aReg | apply aIf); simp -implicitDefEqProofs only [↓slp, ↓reduceIte, reduceCtorEq, jA, jB, Y0, f0, f1, f7, f19, f20, f21, pI, pS, c2, gj] | apply hX; clear hX X | apply And.intro; focus omega))
   refine callM (find_S hgs hs hl r[j]) ?_
   rintro v mc ⟨rfl, rfl⟩
   simp -implicitDefEqProofs only [↓slp, ↓reduceIte, jA, jB, jC, jE, Y0]
   (repeat (first | refine aReg ?_; simp -implicitDefEqProofs only [↓slp, slb, ↓reduceIte, jA, f21, pI, hij] | apply hX; clear hX X | apply And.intro; focus ((repeat' apply And.intro) <;> first | omega | assumption)))
   rw [hJ]
   have e : (A ++ (r.take (j + 1)).map (fndN (nmG g) see)).map pI = (A ++ (r.take j).map (fndN (nmG g) see)).map pI ++ [pI (fndN (nmG g) see r[j])] := by rw [List.take_succ_eq_append_getElem hltj]; simp only [List.map_append, List.map_cons, List.map_nil, List.append_assoc]
   exact ⟨⟨j + 1, .tok mc.nt, o3, hltj, f0, f1, by rw [e]; rfl, f12, f13, f14, f19, f20, rfl, htk.use hmi, Mine.new htk o2 1⟩, by omega⟩
  | false =>
   obtain rfl : j = r.length := by simp at c2; omega
   rw [List.take_length, ← hnx] at f7
   (repeat (first | refine aSeq fun X hX => ?_ | refine aExit ?_; try simp only [slx, ↓reduceIte, jA, reduceCtorEq] | (first | apply aReg | apply aIf); simp -implicitDefEqProofs only [↓slp, slb, ↓reduceIte, jA, f14, hi, f20, f21, pI, c2] | apply hX; clear hX X | clear hX X; apply hX; clear hX X))
   rw [hI]
   exact ⟨⟨k + 1, o2, hlt, f0, f1, f7, f12, f13, rfl, htk, hmi⟩, by omega⟩
end
end Go.Proofs.Ytaealemhegdmpaa
