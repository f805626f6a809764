/-
 Texts that belong together: CrC, CrO.
-/
-- halved
import Derived.Test.YtaealemhegdmpaaCrX
import Derived.Test.YtaealemhegdmpaaAbLp
/-
 A table that is closed, plainly.
-/
set_option linter.unusedVariables false
set_option linter.unusedSimpArgs false
namespace Go.Proofs.Ytaealemhegdmpaa
open Go

abbrev Tm := Nat → Nat → Bool
def setT (T : Tm) (a b : Nat) : Tm := fun x y => if x = a ∧ y = b then true else T x y
def rowT (n : Nat) (T : Tm) (a : Nat) : List PV := (List.range n).map fun c => pB (T a c)
theorem rowT_len (n : Nat) (T : Tm) (a : Nat) : (rowT n T a).length = n := by simp [rowT]
theorem rowT_at {n : Nat} (T : Tm) (a : Nat) {b : Nat} (h : b < n) : (rowT n T a).getD b .junk = pB (T a b) := by simp [rowT, List.getD, h]
theorem rowT_set {n : Nat} (T : Tm) (a : Nat) {b : Nat} (h : b < n) : (rowT n T a).set b (pB true) = rowT n (setT T a b) a := by
 refine List.ext_getElem (by simp [rowT]) fun j h1 h2 => ?_
 simp only [rowT, List.getElem_set, List.getElem_map, List.getElem_range]
 by_cases hj : b = j
 ·subst hj; simp [setT]
 ·rw [if_neg hj]
  unfold setT
  rw [if_neg (fun q => hj q.2.symm)]
theorem rowT_ne {n : Nat} (T : Tm) {a b r : Nat} (h : r ≠ a) : rowT n (setT T a b) r = rowT n T r := by
 unfold rowT setT
 refine List.map_congr_left fun c _ => ?_
 rw [if_neg (fun q => h q.1)]
theorem filter_lt {α : Type} {p q : α → Bool} : ∀ (L : List α), (∀ x ∈ L, p x = true → q x = true) → ∀ a ∈ L, q a = true → p a = false → (L.filter p).length < (L.filter q).length
 | x :: L, h, a, ha, hq, hp => by
  have hle : ∀ (L : List α), (∀ x ∈ L, p x = true → q x = true) → (L.filter p).length ≤ (L.filter q).length := by
   intro L
   induction L with
   | nil => intro _; exact Nat.le_refl _
   | cons y L ih =>
    intro h
    have i := ih (fun z hz => h z (List.mem_cons_of_mem _ hz))
    have h0 := h y (List.mem_cons_self ..)
    simp only [List.filter_cons]
    cases c1 : p y with
    | true => rw [h0 c1]; simp; exact i
    | false => cases c2 : q y <;> simp <;> omega
  have hL := hle L (fun z hz => h z (List.mem_cons_of_mem _ hz))
  have h0 := h x (List.mem_cons_self ..)
  simp only [List.filter_cons]
  rcases List.mem_cons.1 ha with rfl | ha
  ·rw [hq, hp]; simp; omega
  ·have i := filter_lt L (fun z hz => h z (List.mem_cons_of_mem _ hz)) a ha hq hp
   cases c1 : p x with
   | true => rw [h0 c1]; simp; exact i
   | false => cases c2 : q x <;> simp <;> omega
def cntT (n : Nat) (T : Tm) : Nat := (((List.range n).flatMap fun x => (List.range n).map fun y => (x, y)).filter fun p => !T p.1 p.2).length
theorem cnt_lt {n : Nat} {T : Tm} {a b : Nat} (ha : a < n) (hb : b < n) (h : T a b = false) : cntT n (setT T a b) < cntT n T := by
 refine filter_lt _ (fun p hp hq => ?_) (a, b) (List.mem_flatMap.2 ⟨a, List.mem_range.2 ha, List.mem_map.2 ⟨b, List.mem_range.2 hb, rfl⟩⟩) (by simp [h]) (by simp [setT])
 simp only [setT] at hq
 split at hq
 ·simp at hq
 ·exact hq
def SndT (n : Nat) (E : Nat → Nat → Prop) (T : Tm) : Prop := ∀ a b, a < n → b < n → T a b = true → TG E a b
def Clo1 (n : Nat) (T : Tm) (a b : Nat) : Prop := T a b = true ∧ ∀ k, k < n → T b k = true → T a k = true
theorem SndT.set {n : Nat} {E : Nat → Nat → Prop} {T : Tm} (h : SndT n E T) {a b : Nat} (hab : TG E a b) : SndT n E (setT T a b) := fun x y hx hy ht => by
 unfold setT at ht
 split at ht
 ·rename_i q; obtain ⟨rfl, rfl⟩ := q; exact hab
 ·exact h x y hx hy ht
theorem clo_all {n : Nat} {E : Nat → Nat → Prop} {T : Tm} (hE : ∀ a b, E a b → a < n ∧ b < n) (h : ∀ a b, E a b → Clo1 n T a b) {a b : Nat} (hab : TG E a b) : T a b = true ∧ ∀ k, k < n → T b k = true → T a k = true := by
 induction hab with
 | single h1 => exact h _ _ h1
 | tail h1 h2 ih =>
  obtain ⟨c1, c2⟩ := h _ _ h2
  exact ⟨ih.2 _ (hE _ _ h2).2 c1, fun k hk hbk => ih.2 k hk (c2 k hk hbk)⟩
theorem clo_iff {n : Nat} {E : Nat → Nat → Prop} {T : Tm} (hE : ∀ a b, E a b → a < n ∧ b < n) (h : ∀ a b, E a b → Clo1 n T a b) (hs : SndT n E T) {a b : Nat} (ha : a < n) (hb : b < n) : T a b = true ↔ TG E a b :=
 ⟨hs a b ha hb, fun h1 => (clo_all hE h h1).1⟩
end Go.Proofs.Ytaealemhegdmpaa

/-
 The reference's Of (layer 11): a node's graph, closed.
-/
set_option linter.unusedVariables false
set_option linter.unusedSimpArgs false
namespace Go.Proofs.Ytaealemhegdmpaa
open Nat renaming reduceEqDiff → jA, reduceAdd → jB, reduceMul → jC, reduceLT → jD, reduceLeDiff → jE, reduceBEq → jF, reduceBNe → jG
open Int renaming reduceLE → jH, reduceLT → jI, reduceToNat → jJ, reduceEq → jK
open Go
-- EXX: No.settle_pv, No.pure_pv, No.cells_pv, No.cs, No.pv.eq_1
set_option maxRecDepth 20000
-- TNAMES: int; uint8; int32; string; bool; []string; []api.Expr; api.Expr; api.Pos; []api.Pos; api.Type; api.On; []api.On; api.Var; []api.Var; api.Equation; []api.Equation; api.Block; api.Node; []int; [2]int; [][2]int; []bool; [][]bool; metronomeref11.Graph; *metronomeref11.Graph
set_option linter.defProp false
def Yd := And.intro @slb (And.intro @tfA (And.intro @Ex.settle_pv (And.intro @Ex.pure_pv (And.intro @Ex.cells_pv (And.intro @Ex.cs.eq_1 (And.intro @On.pv.eq_1 (And.intro @Ty.pv.eq_1 (And.intro @Va.settle_pv (And.intro @Va.pure_pv (And.intro @Va.cells_pv (And.intro @Va.cs.eq_1 (And.intro @No.settle_pv (And.intro @No.pure_pv (And.intro @No.cells_pv (And.intro @No.cs.eq_1 @No.pv.eq_1)))))))))))))))

/-- Rows of a table, each in a box of its own. -/
def rwsL (ids : Nat → Nat) (n k : Nat) : List PV := (List.range k).map fun r => .bs (ids r) 0 n
def rnC (o1 o2 o4 : Own) (N : List Str) (A : List (Int × Int)) (v : PV) (P : List (Int × Int)) : List PV := [.sl o1 (N.map pS), .sl o2 (A.map pQ), v, .sl o4 (P.map pQ)]
/-- The slice of rows. -/
def NdV (mb : M) (gid n k : Nat) (ids : Nat → Nat) (v : PV) (m : M) : Prop := (k = 0 ∧ v = .sl .full []) ∨ ∃ (nid cap : Nat) (c : List PV), v = .gs nid k cap ∧ mb.nb ≤ nid ∧ nid ≠ gid ∧ (∀ r, r < k → ids r ≠ nid) ∧ m.get nid = some c ∧ c.length = cap ∧ k ≤ cap ∧ c.take k = rwsL ids n k ∧ ∀ x ∈ c, x.within m.nb m.nt = true
structure RgN (mb : M) (gid n k : Nat) (N : List Str) (A P : List (Int × Int)) (ids : Nat → Nat) (T : Tm) (m : M) : Prop where
 base : BaseR mb m
 gb : mb.nb ≤ gid
 glt : gid < m.nb
 box : ∃ o1 o2 o4 v, m.get gid = some (rnC o1 o2 o4 N A v P) ∧ Mine mb m o1 1 ∧ Mine mb m o2 2 ∧ Mine mb m o4 2 ∧ NdV mb gid n k ids v m
 rows : ∀ r, r < k → mb.nb ≤ ids r ∧ ids r ≠ gid ∧ m.get (ids r) = some (rowT n T r)
 inj : ∀ r s, r < k → s < k → ids r = ids s → r = s
theorem rws_at {ids : Nat → Nat} {n k r : Nat} (h : r < k) : (rwsL ids n k).getD r .junk = .bs (ids r) 0 n := by simp [rwsL, List.getD, h]
theorem rws_succ (ids : Nat → Nat) (n k rid : Nat) : rwsL (fun r => if r = k then rid else ids r) n (k + 1) = rwsL ids n k ++ [.bs rid 0 n] := by
 unfold rwsL
 rw [List.range_succ, List.map_append]
 congr 1
 ·refine List.map_congr_left fun r hr => ?_
  rw [List.mem_range] at hr
  show PV.bs (if r = k then rid else ids r) 0 n = _
  rw [if_neg (by omega)]
 ·simp
/-- One entry more. -/
theorem RgN.set {mb m : M} {gid n : Nat} {N : List Str} {A P : List (Int × Int)} {ids : Nat → Nat} {T : Tm} (h : RgN mb gid n n N A P ids T m) {a b : Nat} (ha : a < n) (hb : b < n) :
    RgN mb gid n n N A P ids (setT T a b) (m.upd (ids a) (rowT n (setT T a b) a)) ∧ Stp m (m.upd (ids a) (rowT n (setT T a b) a)) := by
 obtain ⟨r1, r2, r3⟩ := h.rows a ha
 obtain ⟨o1, o2, o4, v, b1, b2, b3, b5, b6⟩ := h.box
 refine ⟨⟨h.base.upd r1 _, h.gb, by rw [upd_nb']; exact h.glt, ⟨o1, o2, o4, v, by rw [M.get_upd, if_neg (fun q => r2 q.1.symm)]; exact b1, b2.toksQ rfl, b3.toksQ rfl, b5.toksQ rfl, ?_⟩, fun r hr => ?_, h.inj⟩, Stp.upd m fun x hx => ?_⟩
 ·rcases b6 with ⟨h0, _⟩ | ⟨nid, cap, c, c0, c1, c2, c3, c4, c5, c6, c7, c8⟩
  ·omega
  ·exact .inr ⟨nid, cap, c, c0, c1, c2, c3, by rw [M.get_upd, if_neg (fun q => c3 a ha q.1.symm)]; exact c4, c5, c6, c7, fun x hx => by rw [upd_nb']; exact c8 x hx⟩
 ·obtain ⟨q1, q2, q3⟩ := h.rows r hr
  refine ⟨q1, q2, ?_⟩
  rw [M.get_upd]
  by_cases hra : r = a
  ·subst hra
   rw [if_pos ⟨rfl, M.get_lt q3⟩]
  ·rw [if_neg (fun q => hra (h.inj r a hr ha q.1)), rowT_ne T hra]
   exact q3
 ·obtain ⟨c, _, rfl⟩ := List.mem_map.1 hx
  rfl
/-- One row more. -/
theorem RgN.grow {mb m mw : M} {gid n k : Nat} {N : List Str} {A P : List (Int × Int)} {ids : Nat → Nat} {T : Tm} (h : RgN mb gid n k N A P ids T m) {o1 o2 o4 : Own} (b2 : Mine mb m o1 1) (b3 : Mine mb m o2 2) (b5 : Mine mb m o4 2) {rid id' cap' : Nat} {c' : List PV} (hr0 : m.nb ≤ rid) (hr : mw.get rid = some (rowT n T k)) (hk : ∀ x, x < m.nb → x ≠ id' → mw.get x = m.get x)
    (hi0 : mb.nb ≤ id') (hi1 : id' ≠ gid) (hi2 : ∀ r, r < k → ids r ≠ id') (hi3 : id' ≠ rid) (hc : mw.get id' = some c') (hcl : c'.length = cap') (hkc : k + 1 ≤ cap') (hct : c'.take (k + 1) = rwsL ids n k ++ [.bs rid 0 n]) (hcw : ∀ x ∈ c', x.within mw.nb mw.nt = true) (ht : mw.toks = m.toks) (hB : BaseR mb mw) (hnb : m.nb ≤ mw.nb) :
    RgN mb gid n (k + 1) N A P (fun r => if r = k then rid else ids r) T (mw.upd gid (rnC o1 o2 o4 N A (.gs id' (k + 1) cap') P)) ∧ Stp mw (mw.upd gid (rnC o1 o2 o4 N A (.gs id' (k + 1) cap') P)) := by
 have hgl : gid < mw.nb := Nat.lt_of_lt_of_le h.glt hnb
 have hb := h.base.nb
 have hg := h.glt
 refine ⟨⟨hB.upd h.gb _, h.gb, by rw [upd_nb']; exact hgl, ⟨o1, o2, o4, _, by rw [M.get_upd, if_pos ⟨rfl, hgl⟩], (b2.toksQ ht).toksQ rfl, (b3.toksQ ht).toksQ rfl, (b5.toksQ ht).toksQ rfl, .inr ⟨id', cap', c', rfl, hi0, hi1, fun r hr2 => ?_, by rw [M.get_upd, if_neg (fun q => hi1 q.1)]; exact hc, hcl, hkc, by rw [hct, rws_succ], fun x hx => by rw [upd_nb']; exact hcw x hx⟩⟩, fun r hr2 => ?_, fun r s h1 h2 he => ?_⟩, Stp.upd mw fun x hx => ?_⟩
 ·show (if r = k then rid else ids r) ≠ id'
  split
  ·exact fun q => hi3 q.symm
  ·exact hi2 r (by omega)
 ·show mb.nb ≤ (if r = k then rid else ids r) ∧ (if r = k then rid else ids r) ≠ gid ∧ _
  by_cases hrk : r = k
  ·rw [if_pos hrk, M.get_upd, if_neg (fun q => by omega), hrk]
   exact ⟨by omega, by omega, hr⟩
  ·rw [if_neg hrk]
   obtain ⟨q1, q2, q3⟩ := h.rows r (by omega)
   refine ⟨q1, q2, ?_⟩
   rw [M.get_upd, if_neg (fun q => q2 q.1), hk _ (M.get_lt q3) (hi2 r (by omega))]
   exact q3
 ·have h3 : ∀ q, q < k → ids q < m.nb := fun q hq => M.get_lt (h.rows q hq).2.2
  have he' : (if r = k then rid else ids r) = (if s = k then rid else ids s) := he
  clear he
  split at he' <;> split at he'
  ·omega
  ·have := h3 s (by omega); omega
  ·have := h3 r (by omega); omega
  ·exact h.inj r s (by omega) (by omega) he'
 ·simp only [rnC, List.mem_cons, List.not_mem_nil, or_false] at hx
  rcases hx with rfl | rfl | rfl | rfl
  ·exact mine_wi b2 _ (by unfold M.nt; rw [ht]; exact Nat.le_refl _)
  ·exact mine_wi b3 _ (by unfold M.nt; rw [ht]; exact Nat.le_refl _)
  ·have := M.get_lt hc
   simp [PV.within]; exact this
  ·exact mine_wi b5 _ (by unfold M.nt; rw [ht]; exact Nat.le_refl _)
theorem RgN.look {mb m : M} {gid n : Nat} {N : List Str} {A P : List (Int × Int)} {ids : Nat → Nat} {T : Tm} (h : RgN mb gid n n N A P ids T m) (hn : 0 < n) : ∃ (o1 o2 o4 : Own) (nid cap : Nat) (c : List PV), m.get gid = some [.sl o1 (N.map pS), .sl o2 (A.map pQ), .gs nid n cap, .sl o4 (P.map pQ)] ∧ m.get nid = some c ∧ ∀ r, r < n → c.getD r .junk = .bs (ids r) 0 n ∧ r < c.length := by
 obtain ⟨o1, o2, o4, v, b1, _, _, _, b6⟩ := h.box
 rcases b6 with ⟨h0, _⟩ | ⟨nid, cap, c, rfl, d1, d2, d3, d4, d5, d6, d7, d8⟩
 ·omega
 ·refine ⟨o1, o2, o4, nid, cap, c, b1, d4, fun r hr => ⟨?_, by omega⟩⟩
  have h1 := rws_at (ids := ids) (n := n) hr
  rw [← d7] at h1
  rw [List.getD, List.getElem?_take_of_lt hr] at h1
  exact h1
theorem tg_trans {E : Nat → Nat → Prop} {a b c : Nat} (h1 : TG E a b) (h2 : TG E b c) : TG E a c := by
 induction h2 with
 | single h => exact .tail h1 h
 | tail _ h ih => exact .tail ih h
/-- A write of the table. -/
theorem rowT_wr {n : Nat} (T : Tm) (a : Nat) {b : Nat} (h : b < n) : (rowT n T a).take b ++ [PV.v (.bool true)] ++ (rowT n T a).drop (b + 1) = rowT n (setT T a b) a := by
 rw [splice_set _ _ _ (by rw [rowT_len]; exact h)]
 exact rowT_set T a h
theorem setT_self (T : Tm) (a b : Nat) : setT T a b a b = true := by simp [setT]
theorem setT_keep {T : Tm} {a b x y : Nat} (h : T x y = true) : setT T a b x y = true := by
 unfold setT; split
 ·rfl
 ·exact h
theorem rowT_false (n a : Nat) : List.replicate n (.v (.bool false)) = rowT n (fun _ _ => false) a := by
 unfold rowT
 refine List.ext_getElem (by simp) fun j h1 h2 => ?_
 simp
set_option maxHeartbeats 8000000 in
theorem rof_gen (d : Nat) (n : No) (B : Nat) (hi1 : n.ins.length ≤ 100) (ho1 : n.outs.length ≤ 100) (hgl : (gOf d n).vs.length ≤ 4000000) (hB : B ≤ 2 ^ 40) (hbk0 : ∀ m0 m' : M, RGS m0 m0.nb (gVars (⟨[], fun _ _ => False⟩, []) (n.ins ++ n.outs)).1 0 m' → ACalls Try.prog 19 [.bp m0.nb 0, .sl .no ((gVars (⟨[], fun _ _ => False⟩, []) (n.ins ++ n.outs)).2.map pN), .ag [.sl .no (n.b.vars.map Va.pv), .sl .no (n.b.eqs.map Qu.pv)], .sl .no []] m' (fun v m1 => v = .tp [] ∧ RGS m0 m0.nb (gOf d n) B m1 ∧ Stp m' m1)) (m : M) : ACalls Try.prog 9 [n.pv] m (fun v m' => v = .bp m.nb 0 ∧ (∃ P ids T, RgN m m.nb (gOf d n).vs.length (gOf d n).vs.length (nmG (gOf d n)) ((gOf d n).vs.map fun v => (v.line, v.col)) P ids T m' ∧ ∀ a b, a < (gOf d n).vs.length → b < (gOf d n).vs.length → (T a b = true ↔ TG (gOf d n).E a b)) ∧ Stp m m') := by
 refine ACalls.enter (mu := [14, 69, 70, 71]) ok_mix Try.func9 rfl (by kernel_rfl) (by kernel_rfl) (by simp only [List.length_cons, List.length_nil, Try.ntmps9]; omega) ?_
 (repeat (first | refine aSeq fun X hX => ?_ | refine aBlk ?_ | refine aReg ?_; simp -implicitDefEqProofs only [↓slp, ↓reduceIte, jB, jF, Yd] | apply hX; clear hX X))
 obtain ⟨z, hz⟩ : ∃ z : Gs × List Nat, ((⟨[], fun _ _ => False⟩, []) : Gs × List Nat) = z := ⟨_, rfl⟩
 have hg0 : RGS m m.nb z.1 0 (m.ext [some [.sl .full [], .sl .full [], .sl .full [], .sl .full []]]) := by
  rw [← hz]
  refine ⟨[], ⟨(BaseR.refl m).push _, Nat.le_refl _, by rw [show m.ext [some [.sl .full [], .sl .full [], .sl .full [], .sl .full []]] = m.push [.sl .full [], .sl .full [], .sl .full [], .sl .full []] from rfl, push_nb]; omega, .full, .full, .full, by show (m.push _).get m.nb = _; rw [M.get_push, if_pos rfl]; rfl, .full, .full, .full, (fun t h => by cases h), (fun t h => by cases h), (fun t h => by cases h)⟩, Nat.le_refl _, fun a b => ⟨fun h => h.elim, fun h => by cases h⟩, fun p hp => by cases hp⟩
 have hst0 : Stp m (m.ext [some [.sl .full [], .sl .full [], .sl .full [], .sl .full []]]) := Stp.push m (fun x hx => by simp only [List.mem_cons, List.not_mem_nil, or_false] at hx; rcases hx with rfl | rfl | rfl | rfl <;> rfl)
 have hzv : z.1.vs = [] ∧ z.2 = [] := by rw [← hz]; exact ⟨rfl, rfl⟩
 obtain ⟨I, hI⟩ : ∃ I : F → M → Prop, ∀ f m', I f m' = (∃ (k : Nat) (o : Own), k ≤ n.ins.length ∧ f 1 = .ep n.cs ∧ f 3 = .bp m.nb 0 ∧ f 4 = .sl o ((gVars z (n.ins.take k)).2.map pN) ∧ f 5 = pI k ∧ RGS m m.nb (gVars z (n.ins.take k)).1 0 m' ∧ Stp m m') := ⟨_, fun _ _ => rfl⟩
 refine aLoop I (fun f m => n.ins.length - numOf (f 5)) ?_ ?_
 ·rw [hI]; exact ⟨0, .full, by omega, rfl, rfl, by show _ = PV.sl .full (z.2.map pN); rw [hzv.2]; rfl, rfl, hg0, hst0⟩
 clear hg0 hst0
 intro f m' hrel
 rw [hI] at hrel
 obtain ⟨k, o, hk, f1, f3, f4, f5, hg1, hst⟩ := hrel
 have step : ∀ (p : Gs × List Nat) (v : Va) (m' : M), RGS m m.nb p.1 0 m' → p.1.vs.length ≤ 1000 → p.2.length ≤ 1000 → ACalls Try.prog 18 [.bp m.nb 0, .sl .no (p.2.map pN), v.pv] m' (fun x mc => x = .sl .no ((p.2 ++ [p.1.vs.length]).map pN) ∧ RGS m m.nb (p.1.put v) 0 mc ∧ Stp m' mc) := by
  intro p v m' hg hl1 hl2
  obtain ⟨P, q1, q2, q3, q4⟩ := hg.ex
  have hp := rput_any m m.nb (nmG p.1) (p.1.vs.map fun v => (v.line, v.col)) P p.2 v m' q1 (by simp; omega) (by simp) (by omega)
  rw [show (nmG p.1).length = p.1.vs.length by simp] at hp
  exact ACalls.mono hp fun x mc ⟨h1, h2, h3⟩ => ⟨h1, RGS.put q2 q3 q4 h2, h3⟩
 have hzl : ∀ V : List Va, (gVars z V).1.vs.length = V.length ∧ (gVars z V).2 = List.range V.length := fun V => by
  obtain ⟨w1, w2, w3⟩ := gVars_eq V z.1 z.2
  have w1' : (gVars z V).1.vs = z.1.vs ++ V.map (fun v => ⟨v.name, v.line, v.col⟩) := w1
  have w3' : (gVars z V).2 = z.2 ++ (List.range V.length).map (z.1.vs.length + ·) := w3
  exact ⟨by rw [w1', hzv.1]; simp, by rw [w3', hzv.1, hzv.2]; simp⟩
 cases c1 : decide ((k : Int) < (n.ins.length : Int)) with
 | true =>
  have hlt : k < n.ins.length := by simpa using c1
  have g0 := getD_map Va.pv n.ins k hlt
  have hi : IntKind.i64.wrap ((k : Int) + 1) = ((k + 1 : Nat) : Int) := by rw [wrap64 (by omega)]; omega
  have hme : numOf (f 5) = k := by rw [f5]; exact Int.toNat_natCast k
  have hnx := gVars_take (p := z) hlt
  obtain ⟨l1, l2⟩ := hzl (n.ins.take k)
  have l2' := congrArg List.length l2
  rw [List.length_range] at l2'
  have htl : (n.ins.take k).length ≤ 100 := by rw [List.length_take]; omega
  have hp := step (gVars z (n.ins.take k)) n.ins[k] m' hg1 (by omega) (by omega)
  generalize gVars z (n.ins.take k) = p at *
  (repeat (first | refine aSeq fun X hX => ?_ | refine aBlk ?_ | refine aSkip ?_ | (first | apply aReg | apply aIf); simp -implicitDefEqProofs only [↓slp, ↓reduceIte, reduceCtorEq, jA, jB, jE, jF, Yd, f1, f3, f4, f5, pI, c1, g0, No.cs] | apply hX; clear hX X | intro hlen; unfold maxLen at hlen | apply And.intro; focus omega))
  refine callMS hp (by simp only [List.map_cons, List.map_nil, PV.settle, PV.settles]; rfl) ?_
  rintro v mc ⟨rfl, r1, r2⟩
  simp -implicitDefEqProofs only [↓slp, slb, ↓reduceIte, jF]
  (repeat (first | refine aReg ?_; simp -implicitDefEqProofs only [↓slp, slb, ↓reduceIte, jA, jF, f5, pI, hi] | apply hX; clear hX X))
  rw [hI]
  exact ⟨⟨k + 1, .no, hlt, f1, f3, by rw [hnx]; rfl, rfl, by rw [hnx]; exact r1, hst.trans r2⟩, by omega⟩
 | false =>
  obtain rfl : k = n.ins.length := by simp at c1; omega
  rw [List.take_length] at f4 hg1
  (repeat (first | refine aSeq fun X hX => ?_ | refine aBlk ?_ | refine aExit ?_; try simp only [slx, ↓reduceIte, jA, reduceCtorEq] | (first | apply aReg | apply aIf); simp -implicitDefEqProofs only [↓slp, ↓reduceIte, reduceCtorEq, jA, jB, jE, jF, Yd, f1, f5, pI, c1, No.cs] | apply hX; clear hX X | clear hX X; apply hX; clear hX X | intro hlen; unfold maxLen at hlen))
  obtain ⟨I2, hI2⟩ : ∃ I : F → M → Prop, ∀ f m', I f m' = (∃ (k : Nat) (o : Own), k ≤ n.outs.length ∧ f 1 = .ep n.cs ∧ f 3 = .bp m.nb 0 ∧ f 4 = .sl o ((gVars z (n.ins ++ n.outs.take k)).2.map pN) ∧ f 6 = pI k ∧ RGS m m.nb (gVars z (n.ins ++ n.outs.take k)).1 0 m' ∧ Stp m m') := ⟨_, fun _ _ => rfl⟩
  refine aLoop I2 (fun f m => n.outs.length - numOf (f 6)) ?_ ?_
  ·rw [hI2]; have e0 : n.ins ++ List.take 0 n.outs = n.ins := by simp
   exact ⟨0, o, by omega, f1, f3, by rw [e0]; exact f4, rfl, by rw [e0]; exact hg1, hst⟩
  clear f1 f3 f4 f5 hg1 hst hI I
  intro f m' hrel
  rw [hI2] at hrel
  obtain ⟨k, o, hk, f1, f3, f4, f6, hg1, hst⟩ := hrel
  cases c2 : decide ((k : Int) < (n.outs.length : Int)) with
  | true =>
   have hlt : k < n.outs.length := by simpa using c2
   have g0 := getD_map Va.pv n.outs k hlt
   have hi : IntKind.i64.wrap ((k : Int) + 1) = ((k + 1 : Nat) : Int) := by rw [wrap64 (by omega)]; omega
   have hme : numOf (f 6) = k := by rw [f6]; exact Int.toNat_natCast k
   have hnx : gVars z (n.ins ++ n.outs.take (k + 1)) = ((gVars z (n.ins ++ n.outs.take k)).1.put n.outs[k], (gVars z (n.ins ++ n.outs.take k)).2 ++ [(gVars z (n.ins ++ n.outs.take k)).1.vs.length]) := by
    rw [List.take_succ_eq_append_getElem hlt, ← List.append_assoc]
    unfold gVars
    rw [List.foldl_append (l := n.ins ++ n.outs.take k)]
    rfl
   obtain ⟨l1, l2⟩ := hzl (n.ins ++ n.outs.take k)
   have l2' := congrArg List.length l2
   rw [List.length_range] at l2'
   have htl : (n.ins ++ n.outs.take k).length ≤ 200 := by rw [List.length_append, List.length_take]; omega
   have hp := step (gVars z (n.ins ++ n.outs.take k)) n.outs[k] m' hg1 (by omega) (by omega)
   generalize gVars z (n.ins ++ n.outs.take k) = p at *
   (repeat (first | refine aSeq fun X hX => ?_ | refine aBlk ?_ | refine aSkip ?_ | (first | apply aReg | apply aIf); simp -implicitDefEqProofs only [↓slp, ↓reduceIte, reduceCtorEq, jA, jB, jE, jF, Yd, f1, f3, f4, f6, pI, c2, g0, No.cs] | apply hX; clear hX X | intro hlen; unfold maxLen at hlen | apply And.intro; focus omega))
   refine callMS hp (by simp only [List.map_cons, List.map_nil, PV.settle, PV.settles]; rfl) ?_
   rintro v mc ⟨rfl, r1, r2⟩
   simp -implicitDefEqProofs only [↓slp, slb, ↓reduceIte, jF]
   (repeat (first | refine aReg ?_; simp -implicitDefEqProofs only [↓slp, slb, ↓reduceIte, jA, jF, f6, pI, hi] | apply hX; clear hX X))
   rw [hI2]
   exact ⟨⟨k + 1, .no, hlt, f1, f3, by rw [hnx]; rfl, rfl, by rw [hnx]; exact r1, hst.trans r2⟩, by omega⟩
  | false =>
   obtain rfl : k = n.outs.length := by simp at c2; omega
   rw [List.take_length] at f4 hg1
   obtain ⟨l1, l2⟩ := hzl (n.ins ++ n.outs)
   have l2' := congrArg List.length l2
   rw [List.length_range] at l2'
   have hbk := hbk0 m m' (by rw [hz]; exact hg1)
   rw [hz] at hbk
   (repeat (first | refine aSeq fun X hX => ?_ | refine aExit ?_; try simp only [slx, ↓reduceIte, jA, reduceCtorEq] | (first | apply aReg | apply aIf); simp -implicitDefEqProofs only [↓slp, ↓reduceIte, reduceCtorEq, jA, jB, jE, jF, Yd, f1, f3, f4, f6, pI, c2, No.cs] | apply hX; clear hX X | clear hX X; apply hX; clear hX X | intro hlen; unfold maxLen at hlen))
   refine callMS hbk (by simp only [List.map_cons, List.map_nil, PV.settle, PV.settles]) ?_
   rintro v m1 ⟨rfl, r1, r2⟩
   have hst1 := hst.trans r2
   clear hbk hbk0 hg1 hst f4
   generalize gOf d n = g at *
   simp -implicitDefEqProofs only [slb]
   (repeat (first | refine aSeq fun X hX => ?_ | refine aBlk ?_ | refine aReg ?_; simp -implicitDefEqProofs only [↓slp, slb, jF] | apply hX; clear hX X))
   obtain ⟨P, q1, q2, q3, q4⟩ := r1.ex
   obtain ⟨N, hN⟩ : ∃ N, nmG g = N := ⟨_, rfl⟩
   obtain ⟨A, hA⟩ : ∃ A, (g.vs.map fun v => (v.line, v.col)) = A := ⟨_, rfl⟩
   have hNl : N.length = g.vs.length := by rw [← hN]; simp
   rw [hN, hA] at q1 ⊢
   obtain ⟨nn, hnn⟩ : ∃ nn, g.vs.length = nn := ⟨_, rfl⟩
   rw [hnn] at hgl hNl q4 ⊢
   have hr0 : RgN m m.nb nn 0 N A P (fun _ => 0) (fun _ _ => false) m1 := by
    obtain ⟨o1, o2, o3, b1, b2, b3, b4, b5, b6, b7⟩ := q1.box
    exact ⟨q1.base, q1.gb, q1.glt, ⟨o1, o2, o3, .sl .full [], b1, b2, b3, b4, .inl ⟨rfl, rfl⟩⟩, fun r hr => by omega, fun r s hr => by omega⟩
   obtain ⟨K, hK⟩ : ∃ K : F → M → Prop, ∀ f m', K f m' = (∃ (k : Nat) (ids : Nat → Nat), k ≤ nn ∧ f 3 = .bp m.nb 0 ∧ f 7 = pI k ∧ RgN m m.nb nn k N A P ids (fun _ _ => false) m' ∧ Stp m m') := ⟨_, fun _ _ => rfl⟩
   refine aLoop K (fun f m => nn - numOf (f 7)) ?_ ?_
   ·rw [hK]; exact ⟨0, fun _ => 0, by omega, f3, rfl, hr0, hst1⟩
   clear f1 f3 f6 hr0 hst1 q1 r1
   intro f m' hrel
   rw [hK] at hrel
   obtain ⟨k, ids, hk, f3, f7, hR, hst⟩ := hrel
   cases c3 : decide ((k : Int) < (nn : Int)) with
   | true =>
    have hlt : k < nn := by simpa using c3
    have hi : IntKind.i64.wrap ((k : Int) + 1) = ((k + 1 : Nat) : Int) := by rw [wrap64 (by omega)]; omega
    have hme : numOf (f 7) = k := by rw [f7]; exact Int.toNat_natCast k
    obtain ⟨o1, o2, o4, v, b1, b2, b3, b5, b6⟩ := hR.box
    unfold rnC at b1
    (repeat (first | refine aSeq fun X hX => ?_ | refine aBlk ?_ | refine aSkip ?_ | (first | apply aReg | apply aIf); simp -implicitDefEqProofs only [↓slp, ↓reduceIte, reduceCtorEq, jA, jB, jF, Yd, f3, f7, pI, b1, hNl, c3, Nat.zero_add] | apply hX; clear hX X | intro hlen; unfold maxLen at hlen))
    have hp : ∀ y : Subtype (fun m2 : M => m2.get m.nb = some [.sl o1 (N.map pS), .sl o2 (A.map pQ), v, .sl o4 (P.map pQ)]), y.1.get m.nb = some [.sl o1 (N.map pS), .sl o2 (A.map pQ), v, .sl o4 (P.map pQ)] := fun y => y.2
    refine aDrwE (isP (fun m2 : M => m2.get m.nb = some [.sl o1 (N.map pS), .sl o2 (A.map pQ), v, .sl o4 (P.map pQ)])) (hne := List.cons_ne_nil _ _) rfl (by kernel_rfl) (by kernel_rfl) (isP_of b1) ?_
    have hR0 := hR.glt
    have hRb := hR.base.nb
    obtain ⟨m0, hm0⟩ : ∃ m0, (m'.push (rowT nn (fun _ _ => false) k)).push [.bs m'.nb 0 nn] = m0 := ⟨_, rfl⟩
    have eA : m'.ext [some (List.replicate nn (.v (.bool false))), some (List.flatMap PV.cells [.bs m'.nb 0 nn])] = m0 := by
     rw [← hm0, ← rowT_false nn k]
     simp [M.push, M.ext, PV.cells]
    have eB : m'.ext [some (List.replicate nn (.v (.bool false)))] = m'.push (rowT nn (fun _ _ => false) k) := by
     rw [← rowT_false nn k]; rfl
    have n0 : m0.nb = m'.nb + 2 := by rw [← hm0]; simp only [push_nb]
    have gg : ∀ x, x < m'.nb → m0.get x = m'.get x := fun x hx => by
     rw [← hm0, M.get_push, if_neg (by rw [push_nb]; omega), M.get_push, if_neg (by omega)]
    have gr : m0.get m'.nb = some (rowT nn (fun _ _ => false) k) := by
     rw [← hm0, M.get_push, if_neg (by rw [push_nb]; omega), M.get_push, if_pos rfl]
    have hst2 : Stp m m0 := by
     rw [← hm0]
     refine hst.trans ((Stp.push m' (fun x hx => ?_)).trans (Stp.push _ (fun x hx => ?_)))
     ·obtain ⟨c, _, rfl⟩ := List.mem_map.1 hx; rfl
     ·rw [List.mem_singleton] at hx; subst hx; simp [PV.within, push_nb]; omega
    rcases b6 with ⟨rfl, rfl⟩ | ⟨nid, cap, c, rfl, c1, c2, c3, c4, c5, c6, c7, c8⟩
    ·simp -implicitDefEqProofs only [↓slp, ↓reduceIte, reduceCtorEq, jA, jB, jC, jD, jE, jF, Yd, f3, f7, pI, hNl, isP_all, b1, hp, Nat.zero_add, List.dropLast_cons_cons, List.dropLast_singleton, List.getLast_cons_cons, List.getLast_singleton]
     rw [eA, eB]
     refine ⟨⟨⟨by unfold maxLen; omega, by omega⟩, rfl⟩, isP_of (by rw [M.get_push, if_neg (by omega)]; exact b1), isP_of (by rw [gg _ hR0]; exact b1), ⟨by simp [PV.cells], by unfold maxLen; omega⟩, ?_⟩
     rintro w mw (⟨h0, _⟩ | ⟨_, cap, c, rfl, q1, q2, q3, q4, hmw⟩)
     ·omega
     have g1 : mw.get m.nb = some [.sl o1 (N.map pS), .sl o2 (A.map pQ), .sl .full [], .sl o4 (P.map pQ)] := by
      rw [hmw, M.get_push, if_neg (by omega), gg _ hR0]; exact b1
     have hcw : ∀ y ∈ c, y.within mw.nb mw.nt = true := fun y hy => by
      rw [hmw, push_nb]
      rw [← List.take_append_drop (1 * 1) c] at hy
      rcases List.mem_append.1 hy with hy | hy
      ·rw [q3] at hy
       have : y = .bs m'.nb 0 nn := by simpa [PV.cells] using hy
       subst this
       simp [PV.within]; omega
      ·rw [q4 y hy]; rfl
     obtain ⟨r2, st2⟩ := hR.grow b2 b3 b5 (rid := m'.nb) (id' := m0.nb) (cap' := cap) (c' := c) (mw := mw) (Nat.le_refl _) (by rw [hmw, M.get_push, if_neg (by omega)]; exact gr) (fun x hx _ => by rw [hmw, M.get_push, if_neg (by omega)]; exact gg x hx) (by omega) (by omega) (fun r hr => by omega) (by omega) (by rw [hmw, M.get_push, if_pos rfl]) (by omega) q1 (by rw [show c.take (0 + 1) = c.take (1 * 1) from rfl, q3]; rfl) hcw (by rw [hmw, ← hm0]; rfl) (by rw [hmw, ← hm0]; exact ((hR.base.push _).push _).push _) (by rw [hmw, push_nb]; omega)
     have hst3 : Stp m mw := hst2.trans (by rw [hmw]; exact Stp.push m0 (by rw [hmw, push_nb] at hcw; exact hcw))
     unfold rnC at r2 st2
     refine ⟨isP_of g1, ?_⟩
     clear hm0 eA eB gg gr hmw q1 q2 q3 q4
     generalize m0.nb = id0 at *
     simp -implicitDefEqProofs only [slb, jB, jE, g1]
     refine hX _ _ ?_
     clear hX X
     (repeat (refine aReg ?_; simp -implicitDefEqProofs only [↓slp, slb, ↓reduceIte, jA, jB, jF, f7, pI, hi]))
     rw [hK]
     exact ⟨⟨0 + 1, _, hlt, f3, rfl, r2, hst3.trans st2⟩, by omega⟩
    ·have hnl : nid < m'.nb := M.get_lt c4
     have bn : (m'.ext [some (List.replicate nn (.v (.bool false))), some (List.flatMap PV.cells [.bs m'.nb 0 nn])]).get nid = some c := by rw [eA, gg nid hnl]; exact c4
     simp -implicitDefEqProofs only [↓slp, ↓reduceIte, reduceCtorEq, jA, jB, jC, jD, jE, jF, Yd, f3, f7, pI, hNl, isP_all, b1, hp, bn, Nat.zero_add, List.dropLast_cons_cons, List.dropLast_singleton, List.getLast_cons_cons, List.getLast_singleton]
     rw [eA, eB]
     refine ⟨⟨⟨by unfold maxLen; omega, by omega⟩, rfl⟩, isP_of (by rw [M.get_push, if_neg (by omega)]; exact b1), isP_of (by rw [gg _ hR0]; exact b1), ⟨⟨by omega, c6⟩, by simp [PV.cells], by unfold maxLen; omega, by omega⟩, ?_⟩
     rintro w mw ⟨id', cap', c', rfl, q1, q2, q3, q4, hmw⟩
     have hone : List.take 1 (List.flatMap PV.cells [PV.bs m'.nb 0 nn]) = [.bs m'.nb 0 nn] := by simp [PV.cells]
     rw [hone] at q3
     have hwc : ∀ y ∈ c', y.within m0.nb m0.nt = true := fun y hy => by
      have hmt : m0.nt = m'.nt := by rw [← hm0]; rfl
      rw [← List.take_append_drop ((k + 1) * 1) c'] at hy
      rcases List.mem_append.1 hy with hy | hy
      ·rw [q3] at hy
       rcases List.mem_append.1 hy with hy | hy
       ·exact within_mono (by omega) (by omega) y (c8 y (List.mem_of_mem_take hy))
       ·rw [List.mem_singleton] at hy; subst hy; simp [PV.within]; omega
      ·rcases q4 y hy with rfl | hy
       ·rfl
       ·exact within_mono (by omega) (by omega) y (c8 y hy)
     have hct : c'.take (k + 1) = rwsL ids nn k ++ [.bs m'.nb 0 nn] := by
      rw [Nat.mul_one, Nat.mul_one, c7] at q3; exact q3
     obtain ⟨e1, e2, e3, e4, e5, e6, e7, e8⟩ : m.nb ≤ id' ∧ id' ≠ m.nb ∧ (∀ r, r < k → ids r ≠ id') ∧ id' ≠ m'.nb ∧ mw.get id' = some c' ∧ (∀ x, x < m0.nb → x ≠ id' → mw.get x = m0.get x) ∧ mw.toks = m0.toks ∧ (BaseR m mw ∧ m0.nb ≤ mw.nb ∧ Stp m0 mw) := by
      have hbm : BaseR m m0 := by rw [← hm0]; exact (hR.base.push _).push _
      rcases hmw with ⟨rfl, rfl⟩ | ⟨rfl, rfl⟩
      ·exact ⟨c1, c2, c3, by omega, by rw [M.get_upd, if_pos ⟨rfl, by omega⟩], fun x hx hne => by rw [M.get_upd, if_neg (fun q => hne q.1)], rfl, hbm.upd c1 _, by rw [upd_nb']; exact Nat.le_refl _, Stp.upd m0 hwc⟩
      ·exact ⟨by show m.nb ≤ _; omega, by omega, fun r hr => by have : ids r < m'.nb := M.get_lt (hR.rows r hr).2.2; omega, by omega, by rw [M.get_push, if_pos rfl], fun x hx hne => by rw [M.get_push, if_neg (by omega)], rfl, hbm.push _, by rw [push_nb]; omega, Stp.push m0 (fun y hy => within_mono (by omega) (Nat.le_refl _) y (hwc y hy))⟩
     obtain ⟨e8, e9, e10⟩ := e8
     have g1 : mw.get m.nb = some [.sl o1 (N.map pS), .sl o2 (A.map pQ), .gs nid k cap, .sl o4 (P.map pQ)] := by
      rw [e6 _ (by omega) (fun q => e2 q.symm), gg _ hR0]; exact b1
     obtain ⟨r2, st2⟩ := hR.grow b2 b3 b5 (rid := m'.nb) (id' := id') (cap' := cap') (c' := c') (mw := mw) (Nat.le_refl _) (by rw [e6 _ (by omega) (fun q => e4 q.symm)]; exact gr) (fun x hx hne => by rw [e6 x (by omega) hne]; exact gg x hx) e1 e2 e3 e4 e5 (by omega) q1 hct (fun x hx => within_mono e9 (by unfold M.nt; rw [e7]; exact Nat.le_refl _) x (hwc x hx)) (by rw [e7, ← hm0]; rfl) e8 (by omega)
     have hst3 : Stp m mw := hst2.trans e10
     unfold rnC at r2 st2
     refine ⟨isP_of g1, ?_⟩
     simp -implicitDefEqProofs only [slb, jB, jE, g1]
     refine hX _ _ ?_
     clear hX X
     (repeat (refine aReg ?_; simp -implicitDefEqProofs only [↓slp, slb, ↓reduceIte, jA, jF, f7, pI, hi]))
     rw [hK]
     exact ⟨⟨k + 1, _, hlt, f3, rfl, r2, hst3.trans st2⟩, by omega⟩
   | false =>
    obtain rfl : k = nn := by simp at c3; omega
    have hgB := hR.box
    have hPr : ∀ j (h : j < P.length), ∃ a b : Nat, P[j] = ((a : Int), (b : Int)) ∧ a < k ∧ b < k := fun j h => by
     obtain ⟨⟨p1, p2⟩, p3, p4⟩ := q4 P[j] (List.getElem_mem h)
     exact ⟨P[j].1.toNat, P[j].2.toNat, by rw [Int.toNat_of_nonneg p1, Int.toNat_of_nonneg p3], by omega, by omega⟩
    have hE : ∀ a b, g.E a b → a < k ∧ b < k := fun a b hab => by
     obtain ⟨⟨p1, p2⟩, p3, p4⟩ := q4 _ ((q3 a b).1 hab)
     simp only at p1 p2 p3 p4
     omega
    obtain ⟨o1, o2, o4, v, b1, _, _, _, b6⟩ := hR.box
    unfold rnC at b1
    (repeat (first | refine aSeq fun X hX => ?_ | refine aBlk ?_ | refine aExit ?_; try simp only [slx, ↓reduceIte, jA, reduceCtorEq] | (first | apply aReg | apply aIf); simp -implicitDefEqProofs only [↓slp, ↓reduceIte, reduceCtorEq, jA, jB, jF, Yd, f3, f7, pI, b1, hNl, c3, Nat.zero_add] | apply hX; clear hX X | clear hX X; apply hX; clear hX X | intro hlen; unfold maxLen at hlen))
    have hz0 : SndT k g.E (fun _ _ => false) := fun a b _ _ h => by cases h
    clear b1 b6
    refine aLoopN (fun nn f m' => ∃ (T : Tm) (ag : Bool), f 3 = .bp m.nb 0 ∧ f 8 = pB ag ∧ RgN m m.nb k k N A P ids T m' ∧ Stp m m' ∧ SndT k g.E T ∧ (ag = false → ∀ a b, g.E a b → Clo1 k T a b) ∧ nn = if ag = true then cntT k T + 1 else 0) (cntT k (fun _ _ => false) + 1) ?_ ?_
    ·exact ⟨_, true, f3, rfl, hR, hst, hz0, (fun h => by cases h), rfl⟩
    clear f3 f7 hR hst hz0 hgB
    intro W nn f m' hJ hW
    obtain ⟨T, ag, f3, f8, hR, hst, hs, hcl, rfl⟩ := hJ
    cases ag with
    | false =>
     (repeat (first | refine aSeq fun X hX => ?_ | (first | refine aExit ?_ | refine aRet ?_); try simp only [slx, ↓reduceIte, jA, reduceCtorEq] | (first | apply aReg | apply aIf); simp -implicitDefEqProofs only [↓slp, slb, ↓reduceIte, jA, jF, f3, f8, pB] | apply hX; clear hX X | clear hX X; apply hX; clear hX X))
     simp only [aPost, Try.results9, aRes_n, aRes_t, aRes_c, pack_one, pack_two]
     simp -implicitDefEqProofs only [slb, ↓reduceIte]
     refine leave_stp hst (by simp [PV.settle, PV.within]; exact hR.glt) ⟨rfl, ⟨P, ids, T, by rw [hnn, hN, hA]; exact hR, fun a b ha hb => clo_iff hE (hcl rfl) hs (by omega) (by omega)⟩, hst⟩
    | true =>
     rw [if_pos rfl] at hW
     (repeat (first | refine aSeq fun X hX => ?_ | refine aBlk ?_ | refine aSkip ?_ | (first | apply aReg | apply aIf); simp -implicitDefEqProofs only [↓slp, slb, ↓reduceIte, reduceCtorEq, jF, f8, pB] | apply hX; clear hX X))
     obtain ⟨J, hJ⟩ : ∃ J : F → M → Prop, ∀ f m2, J f m2 = (∃ (i : Nat) (T2 : Tm) (ag : Bool), i ≤ P.length ∧ f 3 = .bp m.nb 0 ∧ f 8 = pB ag ∧ f 9 = pI i ∧ RgN m m.nb k k N A P ids T2 m2 ∧ Stp m m2 ∧ SndT k g.E T2 ∧ (ag = false → T2 = T ∧ ∀ j, j < i → ∀ a b : Nat, P[j]? = some ((a : Int), (b : Int)) → Clo1 k T a b) ∧ (ag = true → cntT k T2 < cntT k T)) := ⟨_, fun _ _ => rfl⟩
     refine aLoop J (fun f m => P.length - numOf (f 9)) ?_ ?_
     ·rw [hJ]; exact ⟨0, T, false, by omega, f3, rfl, rfl, hR, hst, hs, fun _ => ⟨rfl, fun j hj => by omega⟩, fun h => by cases h⟩
     clear f3 f8 hR hst hs hcl
     intro f m2 hrel
     rw [hJ] at hrel
     obtain ⟨i, T2, ag, hi, f3, f8, f9, hR, hst, hs, hag0, hag1⟩ := hrel
     obtain ⟨o1, o2, o4, v, b1, _, _, _, b6⟩ := hR.box
     unfold rnC at b1
     cases c4 : decide ((i : Int) < (P.length : Int)) with
     | false =>
      obtain rfl : i = P.length := by simp at c4; omega
      (repeat (first | refine aSeq fun X hX => ?_ | refine aExit ?_; try simp only [slx, ↓reduceIte, jA, reduceCtorEq] | (first | apply aReg | apply aIf); simp -implicitDefEqProofs only [↓slp, ↓reduceIte, reduceCtorEq, jA, jB, jF, Yd, f3, f9, pI, b1, c4, Nat.zero_add] | apply hX; clear hX X | intro hlen; unfold maxLen at hlen))
      refine hW (if ag = true then cntT k T2 + 1 else 0) _ _ ?_ ⟨T2, ag, f3, f8, hR, hst, hs, fun h a b hab => ?_, rfl⟩
      ·cases ag with
       | false => simp
       | true => have := hag1 rfl; simp; omega
      ·obtain ⟨rfl, h2⟩ := hag0 h
       obtain ⟨j, hj, he⟩ := List.getElem_of_mem ((q3 a b).1 hab)
       exact h2 j hj a b (by rw [List.getElem?_eq_getElem hj, he])
     | true =>
      have hlt : i < P.length := by simpa using c4
      have hii : IntKind.i64.wrap ((i : Int) + 1) = ((i + 1 : Nat) : Int) := by rw [wrap64 (by omega)]; omega
      have hme : numOf (f 9) = i := by rw [f9]; exact Int.toNat_natCast i
      obtain ⟨a, b, hab, ha, hb⟩ := hPr i hlt
      have gP := getD_map pQ P i hlt
      rw [hab] at gP
      have hEab : g.E a b := (q3 a b).2 (by rw [← hab]; exact List.getElem_mem hlt)
      clear b1 b6
      obtain ⟨o1, o2, o4, nid, cap, c, b1, d4, hat⟩ := hR.look (by omega)
      obtain ⟨ca, cla⟩ := hat a ha
      have ra := (hR.rows a ha).2.2
      have rl := rowT_len k T2 a
      have rt := rowT_at T2 a hb
      obtain ⟨tv, htv⟩ : ∃ tv, T2 a b = tv := ⟨_, rfl⟩
      rw [htv] at rt
      (repeat (first | refine aSeq fun X hX => ?_ | refine aSkip ?_ | (first | apply aReg | apply aIf); simp -implicitDefEqProofs only [↓slp, ↓reduceIte, reduceCtorEq, jA, jB, jD, jE, jF, jH, jJ, Yd, f3, f9, pI, pB, b1, c4, gP, d4, ca, cla, ra, rl, rt, ha, hb, Nat.mul_one, Nat.zero_add] | apply hX; clear hX X | intro hlen; unfold maxLen at hlen | apply And.intro; focus omega))
      have join : ∀ (f : F) (T3 : Tm) (ag : Bool) (m3 : M), f 3 = .bp m.nb 0 → f 8 = pB ag → f 9 = pI i → f 10 = pI a → f 11 = pI b → RgN m m.nb k k N A P ids T3 m3 → Stp m m3 → SndT k g.E T3 → T3 a b = true → (ag = false → T3 = T ∧ ∀ j, j < i → ∀ a b : Nat, P[j]? = some ((a : Int), (b : Int)) → Clo1 k T a b) → (ag = true → cntT k T3 < cntT k T) → X f m3 := by
       clear f3 f8 f9 hR hst hs hag0 hag1 b1 d4 hat ca cla ra rl rt htv
       intro f T3 ag m3 f3 f8 f9 f10 f11 hR hst hs htab hag0 hag1
       refine hX _ _ ?_
       clear hX X
       (repeat (first | refine aSeq fun X hX => ?_ | refine aBlk ?_ | refine aReg ?_; simp -implicitDefEqProofs only [↓slp, slb, jF] | apply hX; clear hX X))
       obtain ⟨Q, hQ⟩ : ∃ Q : F → M → Prop, ∀ f m2, Q f m2 = (∃ (j : Nat) (T3 : Tm) (ag : Bool), j ≤ k ∧ f 3 = .bp m.nb 0 ∧ f 8 = pB ag ∧ f 9 = pI i ∧ f 10 = pI a ∧ f 11 = pI b ∧ f 12 = pI j ∧ RgN m m.nb k k N A P ids T3 m2 ∧ Stp m m2 ∧ SndT k g.E T3 ∧ T3 a b = true ∧ (ag = false → T3 = T ∧ (∀ j, j < i → ∀ a b : Nat, P[j]? = some ((a : Int), (b : Int)) → Clo1 k T a b) ∧ ∀ x, x < j → T b x = true → T a x = true) ∧ (ag = true → cntT k T3 < cntT k T)) := ⟨_, fun _ _ => rfl⟩
       refine aLoop Q (fun f m => k - numOf (f 12)) ?_ ?_
       ·rw [hQ]; exact ⟨0, T3, ag, by omega, f3, f8, f9, f10, f11, rfl, hR, hst, hs, htab, (fun h => ⟨(hag0 h).1, (hag0 h).2, fun x hx => by omega⟩), hag1⟩
       clear f3 f8 f9 f10 f11 hR hst hs hag0 hag1 htab
       intro f m4 hrel
       rw [hQ] at hrel
       obtain ⟨j, T4, ag, hj, f3, f8, f9, f10, f11, f12, hR, hst, hs, htab, hag0, hag1⟩ := hrel
       obtain ⟨o1, o2, o4, nid, cap, c, b1, d4, hat⟩ := hR.look (by omega)
       cases c5 : decide ((j : Int) < (k : Int)) with
       | false =>
        obtain rfl : j = k := by simp at c5; omega
        (repeat (first | refine aSeq fun X hX => ?_ | refine aExit ?_; try simp only [slx, ↓reduceIte, jA, reduceCtorEq] | (first | apply aReg | apply aIf); simp -implicitDefEqProofs only [↓slp, ↓reduceIte, reduceCtorEq, jA, jB, jF, Yd, f3, f9, f12, pI, b1, hNl, c5, hii, Nat.zero_add] | apply hX; clear hX X | clear hX X; apply hX; clear hX X | intro hlen; unfold maxLen at hlen))
        rw [hJ]
        refine ⟨⟨i + 1, T4, ag, hlt, f3, f8, rfl, hR, hst, hs, fun h => ?_, hag1⟩, by omega⟩
        obtain ⟨rfl, h2, h3⟩ := hag0 h
        refine ⟨rfl, fun q hq x y hxy => ?_⟩
        rcases Nat.lt_or_ge q i with hqi | hqi
        ·exact h2 q hqi x y hxy
        ·obtain rfl : q = i := by omega
         rw [List.getElem?_eq_getElem hlt, hab] at hxy
         simp only [Option.some.injEq, Prod.mk.injEq, Int.natCast_inj] at hxy
         obtain ⟨rfl, rfl⟩ := hxy
         exact ⟨htab, h3⟩
       | true =>
        have hltj : j < k := by simpa using c5
        have hij : IntKind.i64.wrap ((j : Int) + 1) = ((j + 1 : Nat) : Int) := by rw [wrap64 (by omega)]; omega
        have hmej : numOf (f 12) = j := by rw [f12]; exact Int.toNat_natCast j
        obtain ⟨ca, cla⟩ := hat a ha
        obtain ⟨cb, clb⟩ := hat b hb
        have ra := (hR.rows a ha).2.2
        have rb := (hR.rows b hb).2.2
        have rla := rowT_len k T4 a
        have rlb := rowT_len k T4 b
        have rta := rowT_at T4 a hltj
        have rtb := rowT_at T4 b hltj
        have hwr := rowT_wr T4 a hltj
        cases h1 : T4 b j with
        | false =>
         rw [h1] at rtb
         (repeat (first | refine aSeq fun X hX => ?_ | refine aSkip ?_ | (first | apply aReg | apply aIf); simp -implicitDefEqProofs only [↓slp, ↓reduceIte, reduceCtorEq, jA, jB, jD, jF, Yd, f3, f11, f12, pI, pB, b1, hNl, c5, hij, d4, cb, clb, rb, rlb, rtb, hb, hltj, Nat.mul_one, Nat.zero_add] | apply hX; clear hX X | intro hlen; unfold maxLen at hlen))
         rw [hQ]
         refine ⟨⟨j + 1, T4, ag, hltj, f3, f8, f9, f10, f11, rfl, hR, hst, hs, htab, fun h => ?_, hag1⟩, by omega⟩
         obtain ⟨rfl, h2, h3⟩ := hag0 h
         exact ⟨rfl, h2, fun x hx hbx => by
          rcases Nat.lt_or_ge x j with hxj | hxj
          ·exact h3 x hxj hbx
          ·obtain rfl : x = j := by omega
           rw [h1] at hbx; cases hbx⟩
        | true =>
         rw [h1] at rtb
         cases h4 : T4 a j with
         | true =>
          rw [h4] at rta
          (repeat (first | refine aSeq fun X hX => ?_ | refine aSkip ?_ | (first | apply aReg | apply aIf); simp -implicitDefEqProofs only [↓slp, ↓reduceIte, reduceCtorEq, jA, jB, jD, jF, Yd, f3, f10, f11, f12, pI, pB, b1, hNl, c5, hij, d4, ca, cla, cb, clb, ra, rb, rla, rlb, rta, rtb, ha, hb, hltj, Nat.mul_one, Nat.zero_add] | apply hX; clear hX X | intro hlen; unfold maxLen at hlen))
          rw [hQ]
          refine ⟨⟨j + 1, T4, ag, hltj, f3, f8, f9, f10, f11, rfl, hR, hst, hs, htab, fun h => ?_, hag1⟩, by omega⟩
          obtain ⟨rfl, h2, h3⟩ := hag0 h
          exact ⟨rfl, h2, fun x hx hbx => by
           rcases Nat.lt_or_ge x j with hxj | hxj
           ·exact h3 x hxj hbx
           ·obtain rfl : x = j := by omega
            exact h4⟩
         | false =>
          rw [h4] at rta
          obtain ⟨r2, st2⟩ := hR.set (a := a) (b := j) ha hltj
          (repeat (first | refine aSeq fun X hX => ?_ | refine aSkip ?_ | (first | apply aReg | apply aIf); simp -implicitDefEqProofs only [↓slp, ↓reduceIte, reduceCtorEq, jA, jB, jD, jF, Yd, f3, f10, f11, f12, pI, pB, b1, hNl, c5, hij, d4, ca, cla, cb, clb, ra, rb, rla, rlb, rta, rtb, ha, hb, hltj, hwr, Nat.mul_one, Nat.zero_add] | apply hX; clear hX X | intro hlen; unfold maxLen at hlen | apply And.intro; focus omega))
          rw [hQ]
          have hcn := cnt_lt ha hltj h4
          refine ⟨⟨j + 1, setT T4 a j, true, hltj, f3, rfl, f9, f10, f11, rfl, r2, hst.trans st2, hs.set (tg_trans (hs a b ha hb htab) (hs b j hb hltj h1)), setT_keep htab, (fun h => by cases h), fun _ => ?_⟩, by omega⟩
          cases ag with
          | false => rw [(hag0 rfl).1] at hcn ⊢; exact hcn
          | true => have := hag1 rfl; omega
      refine ⟨fun c0 => ?_, fun c0 => ?_⟩
      ·have hf : tv = false := by simpa using c0
       rw [hf] at htv
       have hwr := rowT_wr T2 a hb
       obtain ⟨r2, st2⟩ := hR.set (a := a) (b := b) ha hb
       have hcn := cnt_lt ha hb htv
       (repeat (first | refine aSeq fun X hX => ?_ | refine aReg ?_; simp -implicitDefEqProofs only [↓slp, ↓reduceIte, reduceCtorEq, jA, jB, jD, jF, Yd, f3, b1, d4, ca, cla, ra, rl, ha, hb, hwr, Nat.mul_one, Nat.zero_add] | apply hX; clear hX X | apply And.intro; focus omega))
       refine join _ (setT T2 a b) true _ f3 rfl f9 rfl rfl r2 (hst.trans st2) (hs.set (.single hEab)) (setT_self T2 a b) (fun h => by cases h) (fun _ => ?_)
       cases ag with
       | false => rw [(hag0 rfl).1] at hcn ⊢; exact hcn
       | true => have := hag1 rfl; omega
      ·have hf : tv = true := by simpa using c0
       rw [hf] at htv
       (repeat refine aSkip ?_)
       exact join _ T2 ag _ f3 f8 f9 rfl rfl hR hst hs htv hag0 hag1
end Go.Proofs.Ytaealemhegdmpaa
