/-
 Texts that belong together: AbMk11, AbMk12.
-/
-- halved
import Derived.Test.YteiaedmipkcfeaaDoorMkD
/-
 The maker: a call, whose answers are used.
-/
set_option linter.unusedVariables false
set_option linter.unusedSimpArgs false
namespace Go.Proofs.YteiaedmipkcfeaaDoor
open Nat renaming reduceEqDiff → jA, reduceAdd → jB, reduceMul → jC, reduceLT → jD, reduceLeDiff → jE, reduceBEq → jF, reduceBNe → jG
open Int renaming reduceLE → jH, reduceLT → jI, reduceToNat → jJ, reduceEq → jK
open Go


theorem alive_new (m : M) (s : Nat) : (m.fresh s).alive m.nt s := by simp [M.alive, M.fresh, M.nt]
/-- The contract of eqs, so deep, with so many equations left. -/
def EqsC (d : Nat) (t : Int) (RE : Int → RET) : Prop := ∀ (p : GP) (m : M) (hok : p.ok m) (s : Sc) (k : Nat) (hs : s.le k) (outs : List Va) (ho : outs.length ≤ 3) (hty : ∀ v ∈ outs, isTy v.t) (i n : Nat) (q : Int) (hk : k + cE d q ≤ 2 ^ 30) (hn : n + cE d q ≤ 2 ^ 50) (ht : q ≤ t) (hq : q ≤ 20) (hq2 : -(2 : Int) ^ 50 ≤ q - cE d q), ACalls Tryd.prog 80 [.bp p.gp 0, s.pv, .sl .no (outs.map Va.pv), pI d] (gst p m i n q) (fun v m' => ∃ (l : List Qu) (vs : List Va) (i' n' : Nat) (q' : Int), v = .tp [.sl .no (l.map Qu.pv), .sl .no (vs.map Va.pv)] ∧ RE p.subs n n' s outs l vs ∧ l.length ≤ 3 + cE d q ∧ vs.length ≤ cE d q ∧ Cnt (cE d q) n q n' q' ∧ m' = gst p m i' n' q')
def mkVa (nm : Str) (t : Ty) : Va := ⟨nm, t, [], false, zE, 0, 0⟩
def GCall (subs : Int) (n : Nat) (s : Sc) (x y : Va) (z : Qu) : Prop := ∃ (k : Nat) (a b : Ex) (h : Bool) (e : Ex), (k : Int) < subs ∧ x = mkVa (nameS ⟨#[117]⟩ (n + 1)) tyI ∧ y = mkVa (nameS ⟨#[117]⟩ (n + 2)) tyC ∧ GEx 2 s tyI true a ∧ GEx 2 s tyB true b ∧ ((h = false ∧ e = zE) ∨ (h = true ∧ GEx 2 s tyB true e)) ∧ z = .mk 2 [x.name, y.name] (nameS ⟨#[102]⟩ k) [a, b] h e [] 0 0
/-- The states that differ in the place on the tape, and in own boxes. -/
def isGI (p : GP) (m : M) (n q : Int) (m2 : M) : Prop := ∃ bs i, m2 = gst p (m.ext bs) i n q
theorem isGI_all {p : GP} {m : M} {n q : Int} {Q : M → Prop} : (∀ m2, isGI p m n q m2 → Q m2) = ∀ bs i, Q (gst p (m.ext bs) i n q) :=
 propext ⟨fun h bs i => h _ ⟨bs, i, rfl⟩, fun h m2 ⟨bs, i, e⟩ => e ▸ h bs i⟩
theorem isGI_0 {p : GP} {m : M} {i : Nat} {n q : Int} : isGI p m n q (gst p m i n q) := ⟨[], i, by simp [M.ext]⟩
set_option maxRecDepth 20000 in
set_option maxHeartbeats 4000000 in
theorem call_any (d : Nat) (hd : d < 1000) (t : Int) (RE : Int → RET) (E : EqsC d t RE) (p : GP) (m : M) (hok : p.ok m) (hsub : 0 < p.subs ∧ p.subs < 100) (s : Sc) (k : Nat) (hs : s.le k) (outs : List Va) (ho : outs.length ≤ 3) (hty : ∀ v ∈ outs, isTy v.t) (i n : Nat) (q : Int) (hk : k + 2 + cE d q ≤ 2 ^ 30) (hn : n + 2 + cE d q ≤ 2 ^ 50) (hqt : q ≤ t) (hq : q ≤ 20) (hq2 : -(2 : Int) ^ 50 ≤ q - cE d q) : ACalls Tryd.prog 96 [.bp p.gp 0, s.pv, .sl .no (outs.map Va.pv), pI d] (gst p m i n q) (fun v m' => ∃ (x y : Va) (z : Qu) (l : List Qu) (vs : List Va) (i' n' : Nat) (q' : Int), v = .tp [.sl .no ((z :: l).map Qu.pv), .sl .no ((x :: y :: vs).map Va.pv)] ∧ GCall p.subs n s x y z ∧ RE p.subs (n + 2) n' (s.more [x, y]) outs l vs ∧ l.length ≤ 3 + cE d q ∧ vs.length ≤ cE d q ∧ Cnt (2 + cE d q) n q n' q' ∧ m' = gst p m i' n' q') := by
 have hG := hok.gp
 have hT := hok.tp
 refine ACalls.enter (mu := [12]) ok_mix Tryd.func96 rfl (by kernel_rfl) (by kernel_rfl) (by simp only [List.length_cons, List.length_nil, Tryd.ntmps96]; omega) ?_
 (repeat (first | refine aSeq fun X hX => ?_ | apply aBlk | apply aSkip | (first | apply aExit | apply aRet); try simp only [slx, ↓reduceIte, jA, reduceCtorEq] | (first | apply aReg | apply aIf); simp -implicitDefEqProofs only [↓slp, ↓reduceIte, reduceCtorEq, jA, jB, jC, jD, jE, jF, Y6, hT, hG] | apply hX; clear hX X | clear hX X; apply hX; clear hX X | apply And.intro; · first | assumption | and_intros <;> first | omega | assumption))
 refine callM (name_any p _ hok ⟨#[117]⟩ (by decide) i n q (by omega)) ?_
 rintro v m' ⟨rfl, rfl⟩
 simp -implicitDefEqProofs only [↓slp, ↓reduceIte, reduceCtorEq, jA, jB, jC, jD, jE, jF, Y6, hT, hG]
 refine callE (tyI_any _) ?_
 simp -implicitDefEqProofs only [↓slp, ↓reduceIte, reduceCtorEq, jA, jB, jC, jD, jE, jF, Y6, hT, hG]
 (repeat (first | refine aSeq fun X hX => ?_ | apply aBlk | apply aSkip | (first | apply aExit | apply aRet); try simp only [slx, ↓reduceIte, jA, reduceCtorEq] | (first | apply aReg | apply aIf); simp -implicitDefEqProofs only [↓slp, ↓reduceIte, reduceCtorEq, jA, jB, jC, jD, jE, jF, Y6, hT, hG] | apply hX; clear hX X | clear hX X; apply hX; clear hX X | apply And.intro; · first | assumption | and_intros <;> first | omega | assumption))
 refine callM (name_any p _ hok ⟨#[117]⟩ (by decide) i (n + 1) q (by omega)) ?_
 rintro v m' ⟨rfl, rfl⟩
 simp -implicitDefEqProofs only [↓slp, ↓reduceIte, reduceCtorEq, jA, jB, jC, jD, jE, jF, Y6, hT, hG]
 refine callE (tyC_any _) ?_
 simp -implicitDefEqProofs only [↓slp, ↓reduceIte, reduceCtorEq, jA, jB, jC, jD, jE, jF, Y6, hT, hG]
 (repeat (first | refine aSeq fun X hX => ?_ | apply aBlk | apply aSkip | (first | apply aExit | apply aRet); try simp only [slx, ↓reduceIte, jA, reduceCtorEq] | (apply hX; clear hX X) | (clear hX X; apply hX; clear hX X)))
 have join : ∀ (x y : Va) (hx : x = mkVa (nameS ⟨#[117]⟩ (n + 1)) tyI) (hy : y = mkVa (nameS ⟨#[117]⟩ (n + 1 + 1)) tyC) (f : F) (i2 kk : Nat), (kk : Int) < p.subs → f 0 = .bp p.gp 0 → f 2 = .sl .no (outs.map Va.pv) → f 3 = pI d → f 5 = .ep [.sl .no (s.ready.map Va.pv), .sl .no (s.all.map Va.pv), .sl .no (s.lasts.map Va.pv)] → f 10 = .ep x.cs → f 11 = .ep y.cs → f 12 = .bp m.nb 0 → X f (gst p (m.ext [some [PV.v (Value.int IntKind.u8 2), PV.sl Own.full [pS x.name, pS y.name], PV.v (Value.string (nameS ⟨#[102]⟩ kk)), PV.sl Own.full [], PV.v (Value.bool false), PV.v (Value.int IntKind.u8 0), PV.v (Value.int IntKind.u8 0), PV.v (Value.int IntKind.i32 0), PV.v (Value.string { data := #[] }), PV.sl Own.full [], PV.sl Own.full [], PV.v (Value.int IntKind.i64 0), PV.v (Value.int IntKind.i64 0), PV.sl Own.full [], PV.v (Value.int IntKind.i64 0), PV.v (Value.int IntKind.i64 0)]]) i2 ((n + 1 + 1 : Nat) : Int) q) := by
  intro x y hx hy f i2 kk hkk h0 h2 h3 h5 h10 h11 h12
  apply hX; clear hX X
  (repeat (first | refine aSeq fun X hX => ?_ | apply aBlk | apply aSkip | (first | apply aExit | apply aRet); try simp only [slx, ↓reduceIte, jA, reduceCtorEq] | (apply hX; clear hX X) | (clear hX X; apply hX; clear hX X)))
  refine aDrw (fun _ => True) (by kernel_rfl) trivial ?_
  simp -implicitDefEqProofs only [↓slp, ↓reduceIte, reduceCtorEq, jA, jB, jC, jD, jE, jF, Y6, h0, h2, h3, h5, h10, h11, h12, hT, hG]
  refine callE (tyI_any _) ?_
  refine ⟨trivial, ?_⟩
  simp -implicitDefEqProofs only [↓slp, ↓reduceIte, reduceCtorEq, jA, jB, jC, jD, jE, jF, Y6, h0, h2, h3, h5, h10, h11, h12, hT, hG]
  refine callM (expr_any 2 (by omega) p _ (hok.ext _) s (hs.ok (by omega)) tyI (.inl rfl) true _ _ q) ?_
  rintro v m' ⟨a, i3, rfl, ha, rfl⟩
  refine ⟨trivial, ?_⟩
  simp -implicitDefEqProofs only [↓slp, ↓reduceIte, reduceCtorEq, jA, jB, jC, jD, jE, jF, Y6, h0, h2, h3, h5, h10, h11, h12, hT, hG]
  refine callE (tyB_any _) ?_
  refine ⟨trivial, ?_⟩
  simp -implicitDefEqProofs only [↓slp, ↓reduceIte, reduceCtorEq, jA, jB, jC, jD, jE, jF, Y6, h0, h2, h3, h5, h10, h11, h12, hT, hG]
  refine callM (expr_any 2 (by omega) p _ (hok.ext _) s (hs.ok (by omega)) tyB (.inr (.inl rfl)) true _ _ q) ?_
  rintro v m' ⟨b, i4, rfl, hb, rfl⟩
  refine ⟨trivial, ?_⟩
  simp -implicitDefEqProofs only [↓slp, ↓reduceIte, reduceCtorEq, jA, jB, jC, jD, jE, jF, Y6, h0, h2, h3, h5, h10, h11, h12, hT, hG]
  apply hX; clear hX X
  (repeat (first | refine aSeq fun X hX => ?_ | apply aBlk | apply aSkip | (first | apply aExit | apply aRet); try simp only [slx, ↓reduceIte, jA, reduceCtorEq] | (first | apply aReg | apply aIf); simp -implicitDefEqProofs only [↓slp, ↓reduceIte, reduceCtorEq, jA, jB, jC, jD, jE, jF, Y6, h0, h2, h3, h5, h10, h11, h12, hT, hG] | apply hX; clear hX X | clear hX X; apply hX; clear hX X | apply And.intro; · first | assumption | and_intros <;> first | omega | assumption))
  refine callM (next_any p _ (hok.ext _) 3 (by omega) _ _ q) ?_
  rintro v m' ⟨r, i5, rfl, ⟨hr0, hr1⟩, rfl⟩
  simp -implicitDefEqProofs only [↓slp, ↓reduceIte, reduceCtorEq, jA, jB, jC, jD, jE, jF, Y6, h0, h2, h3, h5, h10, h11, h12, hT, hG]
  apply hX; clear hX X
  have join2 : ∀ (f : F) (h : Bool) (e : Ex) (oo : Own) (i6 : Nat), ((h = false ∧ e = zE) ∨ (h = true ∧ GEx 2 s tyB true e)) → f 0 = .bp p.gp 0 → f 2 = .sl .no (outs.map Va.pv) → f 3 = pI d → f 5 = .ep [.sl .no (s.ready.map Va.pv), .sl .no (s.all.map Va.pv), .sl .no (s.lasts.map Va.pv)] → f 10 = .ep x.cs → f 11 = .ep y.cs → f 12 = .bp m.nb 0 → X f (gst p (m.ext [some [PV.v (Value.int IntKind.u8 2), PV.sl Own.full [pS x.name, pS y.name], PV.v (Value.string (nameS ⟨#[102]⟩ kk)), PV.sl Own.full [a.pv, b.pv], PV.v (Value.bool h), PV.v (Value.int IntKind.u8 e.kind), PV.v (Value.int IntKind.u8 e.op), PV.v (Value.int IntKind.i32 e.n), PV.v (Value.string e.name), PV.sl oo (e.names.map pS), PV.sl oo (e.kids.map Ex.pv), PV.v (Value.int IntKind.i64 e.line), PV.v (Value.int IntKind.i64 e.col), PV.sl Own.full [], PV.v (Value.int IntKind.i64 0), PV.v (Value.int IntKind.i64 0)]]) i6 ((n + 1 + 1 : Nat) : Int) q) := by
   intro f h e oo i6 he h0 h2 h3 h5 h10 h11 h12
   apply hX; clear hX X
   (repeat (first | refine aSeq fun X hX => ?_ | apply aBlk | apply aSkip | (first | apply aExit | apply aRet); try simp only [slx, ↓reduceIte, jA, reduceCtorEq] | (first | apply aReg | apply aIf); simp -implicitDefEqProofs only [↓slp, ↓reduceIte, reduceCtorEq, jA, jB, jC, jD, jE, jF, Y6, h0, h2, h3, h5, h10, h11, h12, hT, hG] | apply hX; clear hX X | clear hX X; apply hX; clear hX X | apply And.intro; · first | assumption | and_intros <;> first | omega | assumption))
   refine callM (more_any s .full [x, y] (by have := hs.ready; simp only [List.length_cons, List.length_nil]; omega) _) ?_
   rintro v m' ⟨rfl, rfl⟩
   simp -implicitDefEqProofs only [↓slp, ↓reduceIte, reduceCtorEq, jA, jB, jC, jD, jE, jF, Y6, h0, h2, h3, h5, h10, h11, h12, hT, hG]
   refine callM (E p _ (hok.ext _) (s.more [x, y]) (k + 2) (hs.more [x, y]) outs ho hty _ (n + 1 + 1) q (by omega) (by omega) hqt hq hq2) ?_
   rintro v m' ⟨l, vs, i7, n7, q7, rfl, hre, hl1, hl2, hcnt, rfl⟩
   simp -implicitDefEqProofs only [↓slp, ↓reduceIte, reduceCtorEq, jA, jB, jC, jD, jE, jF, Y6, h0, h2, h3, h5, h10, h11, h12, hT, hG]
   (repeat (first | refine aSeq fun X hX => ?_ | apply aBlk | apply aSkip | (first | apply aExit | apply aRet); try simp only [slx, ↓reduceIte, jA, reduceCtorEq] | (first | apply aReg | apply aIf); simp -implicitDefEqProofs only [↓slp, ↓reduceIte, reduceCtorEq, jA, jB, jC, jD, jE, jF, Y6, h0, h2, h3, h5, h10, h11, h12, hT, hG] | apply hX; clear hX X | clear hX X; apply hX; clear hX X | apply And.intro; · first | assumption | and_intros <;> first | omega | assumption))
   have hm1 : 1 ≤ maxLen := by unfold maxLen; omega
   refine ⟨hm1, ?_⟩
   have hce : cE d q ≤ 2 ^ 30 := by omega
   have join3 : ∀ (f : F) (z : Qu), z = .mk 2 [x.name, y.name] (nameS ⟨#[102]⟩ kk) [a, b] h e [] 0 0 → f 10 = .ep x.cs → f 11 = .ep y.cs → f 13 = .sl .no (l.map Qu.pv) → f 14 = .sl .no (vs.map Va.pv) → f 15 = .sl (.tok m.nt) [z.pv] → X f (gst p ((m.fresh 16).ext [some [PV.v (Value.int IntKind.u8 2), PV.sl Own.full [pS x.name, pS y.name], PV.v (Value.string (nameS ⟨#[102]⟩ kk)), PV.sl Own.full [a.pv, b.pv], PV.v (Value.bool h), PV.v (Value.int IntKind.u8 e.kind), PV.v (Value.int IntKind.u8 e.op), PV.v (Value.int IntKind.i32 e.n), PV.v (Value.string e.name), PV.sl oo (e.names.map pS), PV.sl oo (e.kids.map Ex.pv), PV.v (Value.int IntKind.i64 e.line), PV.v (Value.int IntKind.i64 e.col), PV.sl Own.full [], PV.v (Value.int IntKind.i64 0), PV.v (Value.int IntKind.i64 0)]]) i7 (n7 : Int) q7) := by
    intro f z hz h10 h11 h13 h14 h15
    apply hX; clear hX X
    have hzc : z.pv.cells.length = 16 := by rw [Qu.cells_pv]; rfl
    have hql := qu_len l
    have hvl := va_len vs
    have hm2 : 1 + l.length ≤ maxLen := by unfold maxLen; omega
    have hm3 : 2 + vs.length ≤ maxLen := by unfold maxLen; omega
    have hm4 : 2 ≤ maxLen := by unfold maxLen; omega
    have ha1 : (m.fresh 16).alive m.nt 16 := by simp [M.alive, M.fresh, M.nt]
    have t1 : Toks m (m.fresh 16) := (Toks.refl m).use (o := .full) (s := 16) (s' := 16) Mine.full
    have g1 : Mine m (m.fresh 16) (.tok m.nt) 16 := Mine.new (o := .full) (Toks.refl m) 16
    have t2 : Toks m (((m.fresh 16).kill m.nt).fresh 16) := t1.use (o := .tok m.nt) (s := 16) g1
    have t3 : Toks m ((((m.fresh 16).kill m.nt).fresh 16).fresh 15) := t2.use (o := .full) (s := 15) (s' := 15) Mine.full
    have g3 : Mine m ((((m.fresh 16).kill m.nt).fresh 16).fresh 15) (.tok (((m.fresh 16).kill m.nt).fresh 16).nt) 15 := Mine.new (o := .full) t2 15
    have t4 := t3.use (o := .tok (((m.fresh 16).kill m.nt).fresh 16).nt) (s := 15) g3
    (repeat (first | refine aSeq fun X hX => ?_ | apply aBlk | apply aSkip | (first | apply aExit | apply aRet); try simp only [slx, ↓reduceIte, jA, reduceCtorEq] | (first | apply aReg | apply aIf); simp -implicitDefEqProofs only [↓slp, ↓reduceIte, reduceCtorEq, jA, jB, jC, jD, jE, jF, Y6, h10, h11, h13, h14, h15, hT, hG] | apply hX; clear hX X | clear hX X; apply hX; clear hX X | apply And.intro; · first | assumption | and_intros <;> first | omega | assumption))
    refine ⟨⟨alive_new _ _, hvl, hm3, by omega⟩, ?_⟩
    apply hX; clear hX X
    (repeat (first | refine aSeq fun X hX => ?_ | apply aBlk | apply aSkip | (first | apply aExit | apply aRet); try simp only [slx, ↓reduceIte, jA, reduceCtorEq] | (first | apply aReg | apply aIf); simp -implicitDefEqProofs only [↓slp, ↓reduceIte, reduceCtorEq, jA, jB, jC, jD, jE, jF, Y6, h10, h11, h13, h14, h15, hT, hG] | apply hX; clear hX X | clear hX X; apply hX; clear hX X | apply And.intro; · first | assumption | and_intros <;> first | omega | assumption))
    simp only [aPost, Tryd.results96, aRes_n, aRes_t, aRes_c, pack_one, pack_two]
    simp -implicitDefEqProofs only [↓slp, ↓reduceIte, reduceCtorEq, jA, jB, jC, jD, jE, jF, Y6, h10, h11, h13, h14, h15, hT, hG]
    refine leave_gst hok t4 ?_ ⟨x, y, z, l, vs, i7, n7, q7, ?_, ⟨kk, a, b, h, e, hkk, hx, hy, ha, hb, he, hz⟩, hre, hl1, hl2, ?_, rfl⟩
    ·rfl
    ·rfl
    ·have := hcnt.n; have := hcnt.q0; have := hcnt.q1
     exact ⟨by omega, by omega, by omega⟩
   refine join3 _ (.mk 2 [x.name, y.name] (nameS ⟨#[102]⟩ kk) [a, b] h e [] 0 0) rfl ?_ ?_ rfl rfl (congrArg (fun u => PV.sl (.tok m.nt) [u]) (by rw [Qu.pv_eq]; rfl))
   ·exact h10
   ·exact h11
  cases c : (r == 0) with
  | true =>
   (repeat (first | refine aSeq fun X hX => ?_ | apply aBlk | apply aSkip | (first | apply aExit | apply aRet); try simp only [slx, ↓reduceIte, jA, reduceCtorEq] | (first | apply aReg | apply aIf); simp -implicitDefEqProofs only [↓slp, ↓reduceIte, reduceCtorEq, jA, jB, jC, jD, jE, jF, Y6, h0, h2, h3, h5, h10, h11, h12, hT, hG, c] | apply hX; clear hX X | clear hX X; apply hX; clear hX X | apply And.intro; · first | assumption | and_intros <;> first | omega | assumption))
   refine aDrw (fun _ => True) (by kernel_rfl) trivial ?_
   simp -implicitDefEqProofs only [↓slp, ↓reduceIte, reduceCtorEq, jA, jB, jC, jD, jE, jF, Y6, h0, h2, h3, h5, h10, h11, h12, hT, hG]
   refine callE (tyB_any _) ?_
   refine ⟨trivial, ?_⟩
   simp -implicitDefEqProofs only [↓slp, ↓reduceIte, reduceCtorEq, jA, jB, jC, jD, jE, jF, Y6, h0, h2, h3, h5, h10, h11, h12, hT, hG]
   refine callM (expr_any 2 (by omega) p _ (hok.ext _) s (hs.ok (by omega)) tyB (.inr (.inl rfl)) true _ _ q) ?_
   rintro v m' ⟨e, i6, rfl, he, rfl⟩
   refine ⟨trivial, ?_⟩
   simp -implicitDefEqProofs only [↓slp, ↓reduceIte, reduceCtorEq, jA, jB, jC, jD, jE, jF, Y6, h0, h2, h3, h5, h10, h11, h12, hT, hG]
   refine join2 _ true e .no _ (.inr ⟨rfl, he⟩) ?_ ?_ ?_ ?_ ?_ ?_ ?_
   ·exact h0
   ·exact h2
   ·exact h3
   ·exact h5
   ·exact h10
   ·exact h11
   ·exact h12
  | false =>
   (repeat (first | refine aSeq fun X hX => ?_ | apply aBlk | apply aSkip | (first | apply aExit | apply aRet); try simp only [slx, ↓reduceIte, jA, reduceCtorEq] | (first | apply aReg | apply aIf); simp -implicitDefEqProofs only [↓slp, ↓reduceIte, reduceCtorEq, jA, jB, jC, jD, jE, jF, Y6, h0, h2, h3, h5, h10, h11, h12, hT, hG, c] | apply hX; clear hX X | clear hX X; apply hX; clear hX X | apply And.intro; · first | assumption | and_intros <;> first | omega | assumption))
   refine join2 _ false zE .full _ (.inl ⟨rfl, rfl⟩) ?_ ?_ ?_ ?_ ?_ ?_ ?_
   ·exact h0
   ·exact h2
   ·exact h3
   ·exact h5
   ·exact h10
   ·exact h11
   ·exact h12
 have hso := hsub.1
 refine aFltN 17 (isGI p m ((n + 1 + 1 : Nat) : Int) q) (by simp only [List.length_cons, List.length_nil]; omega) (by kernel_rfl) isGI_0 ?_
 simp -implicitDefEqProofs only [↓slp, ↓reduceIte, reduceCtorEq, jA, jB, jC, jD, jE, jF, Y6, hT, hG, isGI_all, forall_const, List.getElem_cons_succ, List.getElem_cons_zero, List.getLast_cons_cons, List.getLast_singleton, List.dropLast_cons_cons, List.dropLast_singleton]
 refine ⟨⟨⟨_, _, rfl⟩, ?_⟩, ?_⟩
 ·refine callM (next_any p _ (hok.ext _) p.subs hso _ _ q) ?_
  rintro v m' ⟨r, i2, rfl, ⟨hr0, hr1⟩, rfl⟩
  obtain ⟨kk, rfl⟩ : ∃ kk : Nat, r = kk := ⟨r.toNat, (Int.toNat_of_nonneg hr0).symm⟩
  refine ⟨⟨_, _, rfl⟩, ?_⟩
  simp -implicitDefEqProofs only [↓slp, ↓reduceIte, reduceCtorEq, jA, jB, jC, jD, jE, jF, Y6, hT, hG, isGI_all, forall_const, List.getElem_cons_succ, List.getElem_cons_zero, List.getLast_cons_cons, List.getLast_singleton, List.dropLast_cons_cons, List.dropLast_singleton]
  refine callE (digits_any kk _ (by omega)) ?_
  have hsz := digS_size kk
  have hs1 : (⟨#[102]⟩ : ByteArray).size = 1 := rfl
  refine ⟨⟨_, _, rfl⟩, ?_⟩
  simp -implicitDefEqProofs only [↓slp, ↓reduceIte, reduceCtorEq, jA, jB, jC, jD, jE, jF, Y6, hT, hG, isGI_all, forall_const, List.getElem_cons_succ, List.getElem_cons_zero, List.getLast_cons_cons, List.getLast_singleton, List.dropLast_cons_cons, List.dropLast_singleton, pS]
  (repeat (first | (intro hlen; unfold maxLen at hlen) | (apply And.intro; (focus (first | omega | assumption | trivial | (repeat' apply And.intro) <;> first | omega | assumption | trivial)))))
  refine ⟨⟨_, _, rfl⟩, ?_⟩
  exact join _ _ rfl rfl _ _ kk hr1 rfl rfl rfl rfl rfl rfl rfl
 ·refine callM (next_any p _ hok p.subs hso _ _ q) ?_
  rintro v m' ⟨r, i2, rfl, ⟨hr0, hr1⟩, rfl⟩
  obtain ⟨kk, rfl⟩ : ∃ kk : Nat, r = kk := ⟨r.toNat, (Int.toNat_of_nonneg hr0).symm⟩
  have hsz := digS_size kk
  have hs1 : (⟨#[102]⟩ : ByteArray).size = 1 := rfl
  refine ⟨isGI_0, ?_⟩
  simp -implicitDefEqProofs only [↓slp, ↓reduceIte, reduceCtorEq, jA, jB, jC, jD, jE, jF, Y6, hT, hG, isGI_all, forall_const, List.getElem_cons_succ, List.getElem_cons_zero, List.getLast_cons_cons, List.getLast_singleton, List.dropLast_cons_cons, List.dropLast_singleton]
  refine ⟨⟨⟨_, _, rfl⟩, ?_⟩, ?_⟩
  ·refine callE (digits_any kk _ (by omega)) ?_
   refine ⟨⟨_, _, rfl⟩, ?_⟩
   simp -implicitDefEqProofs only [↓slp, ↓reduceIte, reduceCtorEq, jA, jB, jC, jD, jE, jF, Y6, hT, hG, isGI_all, forall_const, List.getElem_cons_succ, List.getElem_cons_zero, List.getLast_cons_cons, List.getLast_singleton, List.dropLast_cons_cons, List.dropLast_singleton, pS]
   (repeat (first | (intro hlen; unfold maxLen at hlen) | (apply And.intro; (focus (first | omega | assumption | trivial | (repeat' apply And.intro) <;> first | omega | assumption | trivial)))))
   refine ⟨⟨_, _, rfl⟩, ?_⟩
   exact join _ _ rfl rfl _ _ kk hr1 rfl rfl rfl rfl rfl rfl rfl
  ·refine callE (digits_any kk _ (by omega)) ?_
   refine ⟨isGI_0, ?_⟩
   simp -implicitDefEqProofs only [↓slp, ↓reduceIte, reduceCtorEq, jA, jB, jC, jD, jE, jF, Y6, hT, hG, isGI_all, forall_const, List.getElem_cons_succ, List.getElem_cons_zero, List.getLast_cons_cons, List.getLast_singleton, List.dropLast_cons_cons, List.dropLast_singleton, pS]
   (repeat (first | (intro hlen; unfold maxLen at hlen) | (apply And.intro; (focus (first | omega | assumption | trivial | (repeat' apply And.intro) <;> first | omega | assumption | trivial)))))
   refine ⟨⟨_, _, rfl⟩, ⟨_, _, rfl⟩, ?_⟩
   exact join _ _ rfl rfl _ _ kk hr1 rfl rfl rfl rfl rfl rfl rfl
end Go.Proofs.YteiaedmipkcfeaaDoor

/-
 The maker: an automaton.
-/
set_option linter.unusedVariables false
set_option linter.unusedSimpArgs false
namespace Go.Proofs.YteiaedmipkcfeaaDoor
open Nat renaming reduceEqDiff → jA, reduceAdd → jB, reduceMul → jC, reduceLT → jD, reduceLeDiff → jE, reduceBEq → jF, reduceBNe → jG
open Int renaming reduceLE → jH, reduceLT → jI, reduceToNat → jJ, reduceEq → jK
open Go


theorem set_concat_length {α : Type} (l : List α) (a b : α) : (l ++ [a]).set l.length b = l ++ [b] := by
 rw [List.set_append_right _ _ (Nat.le_refl _)]; simp
def GAArm (RB : RBT) (s : Sc) (outs : List Va) (nn : Int) (j n n' : Nat) (a : Am) : Prop := ∃ l u b w, isLess outs l ∧ (j = 0 → l = outs) ∧ GWays s nn u ∧ RB n n' s.arm l b ∧ GWays (s.more l) nn w ∧ a = .mk (nameS ⟨#[83]⟩ j) b.vars b.eqs u w 0 0
def GAuto (RB : RBT) (n n' : Nat) (s : Sc) (outs : List Va) (x : Qu) : Prop := ∃ (nn : Nat) (ar : List Am), (1 ≤ nn ∧ nn ≤ 3) ∧ ar.length = nn ∧ Chn (GAArm RB s outs nn) 0 n n' ar ∧ x = .mk 4 [] sE [] false zE ar 0 0
set_option maxRecDepth 20000 in
set_option maxHeartbeats 4000000 in
theorem automaton_any (d : Nat) (hd : d + 1 < 1000) (RB : Int → RBT) (B : BlockC d RB) (p : GP) (m : M) (hok : p.ok m) (s : Sc) (k : Nat) (hs : s.le k) (outs : List Va) (ho : outs.length ≤ 3) (hty : ∀ v ∈ outs, isTy v.t) (i n : Nat) (q : Int) (hk : k + 3 * cB d ≤ 2 ^ 30) (hk3 : k + 3 ≤ 2 ^ 30) (hn : n + 3 * cB d ≤ 2 ^ 50) (hq : q ≤ 20) (hq2 : -(2 : Int) ^ 50 ≤ q - 3 * cB d) : ACalls Tryd.prog 94 [.bp p.gp 0, s.pv, .sl .no (outs.map Va.pv), pI ((d + 1 : Nat) : Int)] (gst p m i n q) (fun v m' => ∃ (x : Qu) (i' n' : Nat) (q' : Int), v = x.pv ∧ GAuto (RB p.subs) n n' s outs x ∧ Cnt (3 * cB d) n q n' q' ∧ m' = gst p m i' n' q') := by
 have hG := hok.gp
 have hT := hok.tp
 have hw : IntKind.i64.wrap (((d + 1 : Nat) : Int) - 1) = (d : Int) := by rw [wrap64 (by omega)]; omega
 refine ACalls.enter (mu := [8, 9, 13]) ok_mix Tryd.func94 rfl (by kernel_rfl) (by kernel_rfl) (by simp only [List.length_cons, List.length_nil, Tryd.ntmps94]; omega) ?_
 (repeat (first | refine aSeq fun X hX => ?_ | apply aBlk | apply aSkip | (first | apply aExit | apply aRet); try simp only [slx, ↓reduceIte, jA, reduceCtorEq] | (first | apply aReg | apply aIf); simp -implicitDefEqProofs only [↓slp, ↓reduceIte, reduceCtorEq, jA, jE, jF, Y6, hT, hG] | apply hX; clear hX X | clear hX X; apply hX; clear hX X | apply And.intro; · first | assumption | and_intros <;> first | omega | assumption))
 refine callM (next_any p _ (hok.ext _) 3 (by omega) i n q) ?_
 rintro v m' ⟨r0, i', rfl, ⟨hr0, hr1⟩, rfl⟩
 obtain ⟨nn, hnn, hwn⟩ : ∃ nn : Nat, (1 ≤ nn ∧ nn ≤ 3) ∧ IntKind.i64.wrap (1 + r0) = (nn : Int) := ⟨(1 + r0).toNat, by omega, by rw [wrap64 (by omega)]; omega⟩
 simp -implicitDefEqProofs only [↓slp, ↓reduceIte, reduceCtorEq, jA, jE, jF, Y6, hT, hG, hwn]
 (repeat (first | refine aSeq fun X hX => ?_ | apply aBlk | apply aSkip | (first | apply aExit | apply aRet); try simp only [slx, ↓reduceIte, jA, reduceCtorEq] | (first | apply aReg | apply aIf); simp -implicitDefEqProofs only [↓slp, ↓reduceIte, reduceCtorEq, jA, jE, jF, Y6, hT, hG] | apply hX; clear hX X | clear hX X; apply hX; clear hX X | apply And.intro; · first | assumption | and_intros <;> first | omega | assumption))
 obtain ⟨I, hI⟩ : ∃ I : F → M → Prop, ∀ f m', I f m' = (∃ (j : Nat) (ar : List Am) (o2 : Own) (mm : M) (r : List (Option (List PV))) (i' n' : Nat) (q' : Int), j ≤ nn ∧ f 0 = .bp p.gp 0 ∧ f 2 = .sl .no (outs.map Va.pv) ∧ f 3 = pI ((d + 1 : Nat) : Int) ∧ f 5 = .ep [.sl .no (s.ready.map Va.pv), .sl .no (s.all.map Va.pv), .sl .no (s.lasts.map Va.pv)] ∧ f 8 = .bp m.nb 0 ∧ f 9 = .bp (m.nb + 1) 0 ∧ f 10 = pI nn ∧ f 11 = pI j ∧ ar.length = j ∧ Chn (GAArm (RB p.subs) s outs nn) 0 n n' ar ∧ Toks m mm ∧ Mine m mm o2 7 ∧ Cnt (j * cB d) n q n' q' ∧ m' = gst p (mm.ext (some [PV.v (Value.int IntKind.u8 0), PV.sl Own.full [], PV.v (Value.string { data := #[] }), PV.sl Own.full [], PV.v (Value.bool false), PV.v (Value.int IntKind.u8 0), PV.v (Value.int IntKind.u8 0), PV.v (Value.int IntKind.i32 0), PV.v (Value.string { data := #[] }), PV.sl Own.full [], PV.sl Own.full [], PV.v (Value.int IntKind.i64 0), PV.v (Value.int IntKind.i64 0), PV.sl Own.full [], PV.v (Value.int IntKind.i64 0), PV.v (Value.int IntKind.i64 0)] :: some [PV.v (Value.int IntKind.u8 4), PV.sl Own.full [], PV.v (Value.string { data := #[] }), PV.sl Own.full [], PV.v (Value.bool false), PV.v (Value.int IntKind.u8 0), PV.v (Value.int IntKind.u8 0), PV.v (Value.int IntKind.i32 0), PV.v (Value.string { data := #[] }), PV.sl Own.full [], PV.sl Own.full [], PV.v (Value.int IntKind.i64 0), PV.v (Value.int IntKind.i64 0), PV.sl o2 (ar.map Am.pv), PV.v (Value.int IntKind.i64 0), PV.v (Value.int IntKind.i64 0)] :: r)) i' n' q') := ⟨_, fun _ _ => rfl⟩
 refine aLoop I (fun f m => nn - numOf (f 11)) ?_ ?_
 ·rw [hI]; exact ⟨0, [], .full, m, [], i', n, q, by omega, rfl, rfl, rfl, rfl, rfl, rfl, rfl, rfl, rfl, rfl, .refl _, .full, Cnt.le (Cnt.refl 0 n q) (by omega), rfl⟩
 intro f m' hrel
 rw [hI] at hrel
 obtain ⟨j, ar, o2, mm, r, i3, n3, q3, hj, h0, h2, h3, h5, h8, h9, h10, h11, hlen, hga, ht, g2, hcnt, rfl⟩ := hrel
 have hnb := ht.nb
 have hG' : p.gp < mm.nb := by rw [ht.nb]; exact hG
 have hT' : p.tp < mm.nb := by rw [ht.nb]; exact hT
 (repeat (first | refine aSeq fun X hX => ?_ | apply aBlk | apply aSkip | (first | apply aExit | apply aRet); try simp only [slx, ↓reduceIte, jA, reduceCtorEq] | (first | apply aReg | refine aDrE ?_); simp -implicitDefEqProofs only [↓slp, ↓reduceIte, reduceCtorEq, jA, jE, jF, Y6, h10, h11, pI] | apply hX; clear hX X | clear hX X; apply hX; clear hX X | apply And.intro; · first | assumption | and_intros <;> first | omega | assumption))
 refine aIf ?_; simp -implicitDefEqProofs only [↓slp, slb, ↓reduceIte, reduceCtorEq, jA, jE, jF]; refine ⟨fun hb => ?_, fun hb => ?_⟩
 ·have hlt : j < nn := by simpa using hb
  have hi : IntKind.i64.wrap ((j : Int) + 1) = ((j + 1 : Nat) : Int) := by rw [wrap64 (by omega)]; omega
  have hjb : j * cB d ≤ 2 * cB d := Nat.mul_le_mul_right _ (by omega)
  have hmu : numOf (f 11) = j := by rw [h11]; rfl
  (repeat (first | refine aSeq fun X hX => ?_ | apply aBlk | apply aSkip | (first | apply aExit | apply aRet); try simp only [slx, ↓reduceIte, jA, reduceCtorEq] | (first | apply aReg | apply aIf); simp -implicitDefEqProofs only [↓slp, ↓reduceIte, reduceCtorEq, jA, jE, jF, Y6, h0, h2, h3, h5, h8, h9, h10, h11, hnb, hT', hG', hT, hG, pI, List.getElem?_concat_length, set_concat_length, List.set_cons_succ, List.cons_append, List.getElem?_cons_succ] | apply hX; clear hX X | clear hX X; apply hX; clear hX X | apply And.intro; · first | assumption | and_intros <;> first | omega | assumption))
  have fin : ∀ (f : F) (l : List Va) (i4 : Nat), isLess outs l → (j = 0 → l = outs) → f 0 = .bp p.gp 0 → f 2 = .sl .no (outs.map Va.pv) → f 3 = pI ((d + 1 : Nat) : Int) → f 5 = .ep [.sl .no (s.ready.map Va.pv), .sl .no (s.all.map Va.pv), .sl .no (s.lasts.map Va.pv)] → f 8 = .bp m.nb 0 → f 9 = .bp (m.nb + 1) 0 → f 10 = pI nn → f 11 = pI j → f 12 = .sl .no (l.map Va.pv) → X f (gst p (mm.ext (some [PV.v (Value.int IntKind.u8 0), PV.sl Own.full [], PV.v (Value.string { data := #[] }), PV.sl Own.full [], PV.v (Value.bool false), PV.v (Value.int IntKind.u8 0), PV.v (Value.int IntKind.u8 0), PV.v (Value.int IntKind.i32 0), PV.v (Value.string { data := #[] }), PV.sl Own.full [], PV.sl Own.full [], PV.v (Value.int IntKind.i64 0), PV.v (Value.int IntKind.i64 0), PV.sl Own.full [], PV.v (Value.int IntKind.i64 0), PV.v (Value.int IntKind.i64 0)] :: some [PV.v (Value.int IntKind.u8 4), PV.sl Own.full [], PV.v (Value.string { data := #[] }), PV.sl Own.full [], PV.v (Value.bool false), PV.v (Value.int IntKind.u8 0), PV.v (Value.int IntKind.u8 0), PV.v (Value.int IntKind.i32 0), PV.v (Value.string { data := #[] }), PV.sl Own.full [], PV.sl Own.full [], PV.v (Value.int IntKind.i64 0), PV.v (Value.int IntKind.i64 0), PV.sl o2 (ar.map Am.pv), PV.v (Value.int IntKind.i64 0), PV.v (Value.int IntKind.i64 0)] :: r)) i4 n3 q3) := by
   intro f l i4 hl hl0 h0 h2 h3 h5 h8 h9 h10 h11 h12
   apply hX; clear hX X
   have hll := isLess_len hl
   have hmx : ar.length + 1 ≤ maxLen := by unfold maxLen; omega
   have hf := g2.free
   have hvl := am_len ar
   have ht1 := ht.use (s := 7) g2
   have g2' := Mine.new ht o2 7
   have hc1 := hcnt.n
   have hc2 := hcnt.q0
   have hc3 := hcnt.q1
   have hsz := digS_size j
   have hs1 : (⟨#[83]⟩ : ByteArray).size = 1 := rfl
   (repeat (first | refine aSeq fun X hX => ?_ | apply aBlk | apply aSkip | (first | apply aExit | apply aRet); try simp only [slx, ↓reduceIte, jA, reduceCtorEq] | (first | apply aReg | apply aIf); simp -implicitDefEqProofs only [↓slp, ↓reduceIte, reduceCtorEq, jA, jE, jF, Y6, h0, h2, h3, h5, h8, h9, h10, h11, h12, hnb, hT', hG', hT, hG, pI, List.getElem?_concat_length, set_concat_length, List.set_cons_succ, List.cons_append, List.getElem?_cons_succ] | apply hX; clear hX X | clear hX X; apply hX; clear hX X | apply And.intro; · first | assumption | and_intros <;> first | omega | assumption))
   refine callE (digits_any j _ (by omega)) ?_
   simp -implicitDefEqProofs only [↓slp, ↓reduceIte, reduceCtorEq, jA, jE, jF, Y6, h0, h2, h3, h5, h8, h9, h10, h11, h12, hnb, hT', hG', hT, hG, pI, List.getElem?_concat_length, set_concat_length, List.set_cons_succ, List.cons_append, List.getElem?_cons_succ, pS]
   (repeat (first | (intro hlen; unfold maxLen at hlen) | (apply And.intro; (focus (first | omega | assumption | trivial | (repeat' apply And.intro) <;> first | omega | assumption | trivial)))))
   apply hX; clear hX X
   (repeat (first | refine aSeq fun X hX => ?_ | apply aBlk | apply aSkip | (first | apply aExit | apply aRet); try simp only [slx, ↓reduceIte, jA, reduceCtorEq] | (first | apply aReg | apply aIf); simp -implicitDefEqProofs only [↓slp, ↓reduceIte, reduceCtorEq, jA, jE, jF, Y6, h0, h2, h3, h5, h8, h9, h10, h11, h12, hnb, hT', hG', hT, hG, pI, List.getElem?_concat_length, set_concat_length, List.set_cons_succ, List.cons_append, List.getElem?_cons_succ] | apply hX; clear hX X | clear hX X; apply hX; clear hX X | apply And.intro; · first | assumption | and_intros <;> first | omega | assumption))
   refine callM (ways_any p _ ((hok.toks ht).ext _) s (hs.ok (by omega)) nn (by omega) (by omega) _ n3 q3) ?_
   rintro v m' ⟨u, i5, rfl, hu, rfl⟩
   simp -implicitDefEqProofs only [↓slp, ↓reduceIte, reduceCtorEq, jA, jE, jF, Y6, h0, h2, h3, h5, h8, h9, h10, h11, h12, hnb, hT', hG', hT, hG, pI, List.getElem?_concat_length, set_concat_length, List.set_cons_succ, List.cons_append, List.getElem?_cons_succ]
   (repeat (first | refine aSeq fun X hX => ?_ | apply aBlk | apply aSkip | (first | apply aExit | apply aRet); try simp only [slx, ↓reduceIte, jA, reduceCtorEq] | (first | apply aReg | apply aIf); simp -implicitDefEqProofs only [↓slp, ↓reduceIte, reduceCtorEq, jA, jE, jF, Y6, h0, h2, h3, h5, h8, h9, h10, h11, h12, hnb, hT', hG', hT, hG, pI, List.getElem?_concat_length, set_concat_length, List.set_cons_succ, List.cons_append, List.getElem?_cons_succ, hw] | apply hX; clear hX X | clear hX X; apply hX; clear hX X | apply And.intro; · first | assumption | and_intros <;> first | omega | assumption))
   refine callMS (B p _ ((hok.toks ht).ext _) s.arm k hs.arm l (by omega) (isLess_ty hl hty) i5 n3 q3 (by omega) (by omega) (by omega) (by omega)) rfl ?_
   rintro v m' ⟨b, i6, n6, q6, rfl, hb2, hcnt2, rfl⟩
   simp -implicitDefEqProofs only [↓slp, ↓reduceIte, reduceCtorEq, jA, jE, jF, Y6, h0, h2, h3, h5, h8, h9, h10, h11, h12, hnb, hT', hG', hT, hG, pI, List.getElem?_concat_length, set_concat_length, List.set_cons_succ, List.cons_append, List.getElem?_cons_succ, Bk.pv]
   (repeat (first | refine aSeq fun X hX => ?_ | apply aBlk | apply aSkip | (first | apply aExit | apply aRet); try simp only [slx, ↓reduceIte, jA, reduceCtorEq] | (first | apply aReg | apply aIf); simp -implicitDefEqProofs only [↓slp, ↓reduceIte, reduceCtorEq, jA, jE, jF, Y6, h0, h2, h3, h5, h8, h9, h10, h11, h12, hnb, hT', hG', hT, hG, pI, List.getElem?_concat_length, set_concat_length, List.set_cons_succ, List.cons_append, List.getElem?_cons_succ, hw] | apply hX; clear hX X | clear hX X; apply hX; clear hX X | apply And.intro; · first | assumption | and_intros <;> first | omega | assumption))
   refine callM (more_any s .no l (by have := hs.ready; omega) _) ?_
   rintro v m' ⟨rfl, rfl⟩
   simp -implicitDefEqProofs only [↓slp, ↓reduceIte, reduceCtorEq, jA, jE, jF, Y6, h0, h2, h3, h5, h8, h9, h10, h11, h12, hnb, hT', hG', hT, hG, pI, List.getElem?_concat_length, set_concat_length, List.set_cons_succ, List.cons_append, List.getElem?_cons_succ]
   refine callM (ways_any p _ ((hok.toks ht).ext _) (s.more l) ((hs.more l).ok (by omega)) nn (by omega) (by omega) _ n6 q6) ?_
   rintro v m' ⟨w, i7, rfl, hw7, rfl⟩
   simp -implicitDefEqProofs only [↓slp, ↓reduceIte, reduceCtorEq, jA, jE, jF, Y6, h0, h2, h3, h5, h8, h9, h10, h11, h12, hnb, hT', hG', hT, hG, pI, List.getElem?_concat_length, set_concat_length, List.set_cons_succ, List.cons_append, List.getElem?_cons_succ]
   (repeat (first | refine aSeq fun X hX => ?_ | apply aBlk | apply aSkip | (first | apply aExit | apply aRet); try simp only [slx, ↓reduceIte, jA, reduceCtorEq] | (first | apply aReg | apply aIf); simp -implicitDefEqProofs only [↓slp, ↓reduceIte, reduceCtorEq, jA, jE, jF, Y6, h0, h2, h3, h5, h8, h9, h10, h11, h12, hnb, hT', hG', hT, hG, pI, List.getElem?_concat_length, set_concat_length, List.set_cons_succ, List.cons_append, List.getElem?_cons_succ, hi] | apply hX; clear hX X | clear hX X; apply hX; clear hX X | apply And.intro; · first | assumption | and_intros <;> first | omega | assumption))
   rw [hI]
   have hadd : (ar ++ [Am.mk (nameS ⟨#[83]⟩ j) b.vars b.eqs u w 0 0]).map Am.pv = ar.map Am.pv ++ [PV.ag [PV.v (Value.string (⟨#[83]⟩ ++ digS j)), PV.sl Own.no (List.map Va.pv b.vars), PV.sl Own.no (List.map Qu.pv b.eqs), PV.sl Own.no (List.map Tr.pv u), PV.sl Own.no (List.map Tr.pv w), PV.v (Value.int IntKind.i64 0), PV.v (Value.int IntKind.i64 0)]] := by
    rw [List.map_append, List.map_singleton, Am.pv_eq]; rfl
   refine ⟨⟨j + 1, ar ++ [Am.mk (nameS ⟨#[83]⟩ j) b.vars b.eqs u w 0 0], .tok mm.nt, (o2.use mm).fresh 7, r ++ [some [PV.v (Value.string (⟨#[83]⟩ ++ digS j)), PV.sl Own.no (List.map Va.pv b.vars), PV.sl Own.no (List.map Qu.pv b.eqs), PV.sl Own.no (List.map Tr.pv u), PV.sl Own.no (List.map Tr.pv w), PV.v (Value.int IntKind.i64 0), PV.v (Value.int IntKind.i64 0)]], i7, n6, q6, hlt, h0, h2, h3, h5, h8, h9, h10, rfl, by simp [hlen], ?_, ht1, g2', ?_, ?_⟩, by omega⟩
   ·refine Chn_snoc hga ⟨l, u, b, w, hl, fun e => hl0 (by omega), hu, hb2, hw7, ?_⟩
    simp [hlen]
   ·have := hcnt.trans hcnt2
    rwa [show j * cB d + cB d = (j + 1) * cB d by rw [Nat.succ_mul]] at this
   ·rw [hadd]
  refine ⟨fun cj => ?_, fun cj => ?_⟩
  ·(repeat (first | refine aSeq fun X hX => ?_ | apply aBlk | apply aSkip | (first | apply aExit | apply aRet); try simp only [slx, ↓reduceIte, jA, reduceCtorEq] | (first | apply aReg | apply aIf); simp -implicitDefEqProofs only [↓slp, ↓reduceIte, reduceCtorEq, jA, jE, jF, Y6, h0, h2, h3, h5, h8, h9, h10, h11, hnb, hT', hG', hT, hG, pI, List.getElem?_concat_length, set_concat_length, List.set_cons_succ, List.cons_append, List.getElem?_cons_succ] | apply hX; clear hX X | clear hX X; apply hX; clear hX X | apply And.intro; · first | assumption | and_intros <;> first | omega | assumption))
   refine callM (less_any p _ ((hok.toks ht).ext _) .no outs (by omega) _ n3 q3) ?_
   rintro v m' ⟨l, i4, rfl, hl, rfl⟩
   simp -implicitDefEqProofs only [↓slp, ↓reduceIte, reduceCtorEq, jA, jE, jF, Y6, h0, h2, h3, h5, h8, h9, h10, h11, hnb, hT', hG', hT, hG, pI, List.getElem?_concat_length, set_concat_length, List.set_cons_succ, List.cons_append, List.getElem?_cons_succ]
   exact fin _ l i4 hl (fun e => by subst e; simp at cj) h0 h2 h3 h5 h8 h9 h10 h11 rfl
  ·(repeat (first | refine aSeq fun X hX => ?_ | apply aBlk | apply aSkip | (first | apply aExit | apply aRet); try simp only [slx, ↓reduceIte, jA, reduceCtorEq] | (apply hX; clear hX X) | (clear hX X; apply hX; clear hX X)))
   exact fin _ outs i3 (isLess_refl _) (fun _ => rfl) h0 h2 h3 h5 h8 h9 h10 h11 rfl
 ·have hlt : j = nn := by simp at hb; omega
  (repeat (first | refine aSeq fun X hX => ?_ | apply aBlk | apply aSkip | (first | apply aExit | apply aRet); try simp only [slx, ↓reduceIte, jA, reduceCtorEq] | (first | apply aReg | refine aDrE ?_ | apply aIf); simp -implicitDefEqProofs only [↓slp, ↓reduceIte, reduceCtorEq, jA, jE, jF, Y6, h0, h2, h3, h5, h8, h9, h10, h11, hnb, hT', hG', hT, hG, pI, List.getElem?_concat_length, set_concat_length, List.set_cons_succ, List.cons_append, List.getElem?_cons_succ] | apply hX; clear hX X | clear hX X; apply hX; clear hX X | apply And.intro; · first | assumption | and_intros <;> first | omega | assumption))
  simp only [aPost, Tryd.results94, aRes_n, aRes_t, aRes_c, pack_one, pack_two]
  simp -implicitDefEqProofs only [↓slp, ↓reduceIte, reduceCtorEq, jA, jE, jF, Y6, h0, h2, h3, h5, h8, h9, h10, h11, hnb, hT', hG', hT, hG, pI, List.getElem?_concat_length, set_concat_length, List.set_cons_succ, List.cons_append, List.getElem?_cons_succ]
  refine leave_gst hok ht (by simp only [PV.settle, PV.settles, PV.pure, PV.pures]; rfl) ⟨.mk 4 [] sE [] false zE ar 0 0, i3, n3, q3, ?_, ⟨nn, ar, hnn, by omega, hga, rfl⟩, Cnt.le hcnt (Nat.mul_le_mul_right _ (by omega)), rfl⟩
  rw [Qu.pv_eq]; rfl
end Go.Proofs.YteiaedmipkcfeaaDoor
