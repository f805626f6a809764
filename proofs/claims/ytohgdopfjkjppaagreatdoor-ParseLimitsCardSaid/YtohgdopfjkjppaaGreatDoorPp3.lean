/-
 parse's reader: expressions.
-/
-- halved
import Derived.Test.YtohgdopfjkjppaaGreatDoorAbMac
import Derived.Test.YtohgdopfjkjppaaGreatDoorPA
import Derived.Test.YtohgdopfjkjppaaGreatDoorRC
import Derived.Test.YtohgdopfjkjppaaGreatDoorDnA
import Derived.Test.YtohgdopfjkjppaaGreatDoorRB
set_option linter.unusedSectionVars false
set_option linter.unusedVariables false
set_option linter.unusedSimpArgs false
namespace Go.Proofs.YtohgdopfjkjppaaGreatDoor
open Nat renaming reduceEqDiff → jA, reduceAdd → jB, reduceMul → jC, reduceLT → jD, reduceLeDiff → jE, reduceBEq → jF, reduceBNe → jG
open Int renaming reduceLE → jH, reduceLT → jI, reduceToNat → jJ, reduceEq → jK
open Go
set_option maxRecDepth 20000
set_option linter.defProp false
def tfPp3 := tfPp1

theorem callPS {P : Program} {g : FuncId} {args args' : List PV} {m : M} {R Q K Z : PV → M → Prop} (h : ACallsZ P g args' m R Q) (he : args.map PV.settle = args') (hz : ∀ v m', Q v m' → Z v m') (hk : ∀ v m', R v m' → K v m') : @ACallsI P g args m ⟨K, Z⟩ := by
 subst he
 refine ACallsZ.mono (R := R) (Z := Q) ⟨h.cc, fun G w vs hI hl hr => h.run G w vs hI (by simpa using hl) (fun j h1 h2 => ?_)⟩ hk hz
 simpa using (hr j (by simpa using h1) h2).settle
theorem leave_pstE {L : List Tk} {a : Nat} {m mm : M} {bs : List (Option (List PV))} {i i' : Nat} {d d' : Int} {e : Ex} {R : PV → M → Prop} (hA : a < m.nb) (ht : Toks m mm) (hR : R e.pv (pst L a m i' d')) : ∃ v' m', Leave (pst L a m i d) (pst L a (mm.ext bs) i' d') e.pv v' m' ∧ R v' m' :=
 leave_pst hA ht (by rw [Ex.settle_pv]; exact Ex.pure_pv e) (by rw [Ex.settle_pv]; exact hR)
theorem leave_pstX {L : List Tk} {a : Nat} {m mm : M} {bs : List (Option (List PV))} {i i' : Nat} {d d' : Int} {v : PV} {e : Ex} {R : PV → M → Prop} (hA : a < m.nb) (ht : Toks m mm) (hv : v.settle = e.pv) (hR : R e.pv (pst L a m i' d')) : ∃ v' m', Leave (pst L a m i d) (pst L a (mm.ext bs) i' d') v v' m' ∧ R v' m' :=
 leave_pst hA ht (by rw [hv]; exact Ex.pure_pv e) (by rw [hv]; exact hR)
def isP (L : List Tk) (a : Nat) (m : M) (d : Int) (m2 : M) : Prop := ∃ i, m2 = pst L a m i d
theorem isP_all {L : List Tk} {a : Nat} {m : M} {d : Int} {Q : M → Prop} : (∀ m2, isP L a m d m2 → Q m2) = ∀ i, Q (pst L a m i d) :=
 propext ⟨fun h i => h _ ⟨i, rfl⟩, fun h m2 ⟨i, e⟩ => e ▸ h i⟩
theorem isP_of {L : List Tk} {a : Nat} {m : M} {i : Nat} {d : Int} : isP L a m d (pst L a m i d) := ⟨i, rfl⟩
def RP (L : List Tk) (a : Nat) (m : M) (d : Int) (x : PV) (r : PS) (v : PV) (m' : M) : Prop := r.k = 0 ∧ v = x ∧ m' = pst L a m r.i d
structure PExC (L : List Tk) (f : Nat) : Prop where
 expr : ∀ (a : Nat) (m : M), a < m.nb → ∀ (s : PS), s.ok L → s.k = 0 → ∀ (d : Int), 0 ≤ d ∧ d ≤ 64 → mu L s + 5 ≤ f → ACallsZ Tryz.prog 16 [.bp a 0] (pst L a m s.i d) (RP L a m d (rExpr L f d s).1.pv (rExpr L f d s).2) (ZP L a m (rExpr L f d s).2)
 full : ∀ (a : Nat) (m : M), a < m.nb → ∀ (s : PS), s.ok L → s.k = 0 → ∀ (d : Int), 0 ≤ d ∧ d ≤ 64 → ∀ t : Tk, mu L s + 4 ≤ f → ACallsZ Tryz.prog 34 [.bp a 0, pPos t.line t.col] (pst L a m s.i d) (RP L a m d (rFull L f t d s).1.pv (rFull L f t d s).2) (ZP L a m (rFull L f t d s).2)
 binary : ∀ (a : Nat) (m : M), a < m.nb → ∀ (s : PS), s.ok L → s.k = 0 → ∀ (d : Int), 0 ≤ d ∧ d ≤ 64 → ∀ (least : Int), mu L s + 3 ≤ f → ACallsZ Tryz.prog 67 [.bp a 0, pI least] (pst L a m s.i d) (RP L a m d (rBinary L f least d s).1.pv (rBinary L f least d s).2) (ZP L a m (rBinary L f least d s).2)
 unary : ∀ (a : Nat) (m : M), a < m.nb → ∀ (s : PS), s.ok L → s.k = 0 → ∀ (d : Int), 0 ≤ d ∧ d ≤ 64 → mu L s + 2 ≤ f → ACallsZ Tryz.prog 91 [.bp a 0] (pst L a m s.i d) (RP L a m d (rUnary L f d s).1.pv (rUnary L f d s).2) (ZP L a m (rUnary L f d s).2)
 atom : ∀ (a : Nat) (m : M), a < m.nb → ∀ (s : PS), s.ok L → s.k = 0 → ∀ (d : Int), 0 ≤ d ∧ d ≤ 64 → mu L s + 1 ≤ f → ACallsZ Tryz.prog 110 [.bp a 0] (pst L a m s.i d) (RP L a m d (rAtom L f d s).1.pv (rAtom L f d s).2) (ZP L a m (rAtom L f d s).2)
def ShutQ (L : List Tk) (a : Nat) (m2 m3 : M) : Prop := ∃ mm i d, a < mm.nb ∧ m2 = pst L a mm i d ∧ m3 = pst L a mm i (IntKind.i64.wrap (d - 1))
theorem shut_dany {L : List Tk} {a : Nat} (m2 m3 : M) (h : ShutQ L a m2 m3) : DAny Tryz.prog 32 [.bp a 0] m2 (fun m' => m' = m3) := by
 obtain ⟨mm, i, d, hA, rfl, rfl⟩ := h
 refine DAny.of (mu := []) ok_mix Tryz.func32 rfl rfl (by kernel_rfl) (by simp only [List.length_cons, List.length_nil, Tryz.ntmps32]; omega) ?_
 (repeat (refine aReg ?_; simp -implicitDefEqProofs only [↓slp, slb, ↓reduceIte, reduceCtorEq, jA, jB, jE, tfPp3, hA]))
theorem pshut_any {L : List Tk} (a : Nat) (m : M) (hA : a < m.nb) (i : Nat) (d : Int) : ACalls Tryz.prog 32 [.bp a 0] (pst L a m i d) (fun v m' => m' = pst L a m i (IntKind.i64.wrap (d - 1))) := by
 refine eN [] Tryz.func32 ?_
 (repeat revert X); refine wE (And.intro tfPp3 hA) ?_; repeat intro X hX
 refine wR Tryz.results32 ?_
 exact leave_pst0 hA (.refl m) rfl rfl
theorem zzd {L : List Tk} {a : Nat} {m mm : M} {bs : List (Option (List PV))} {s r : PS} {i : Nat} {d : Int} (hA : a < m.nb) (ht : Toks m mm) (hadv : Adv L s r) : ∀ v m', ZP L a (mm.ext bs) s v m' → ∃ m3, ShutQ L a m' m3 ∧ LeaveZ (pst L a m i d) (ZP L a m r) v m3 := by
 rintro v m' ⟨h1, rfl, i', d', rfl⟩
 have := hadv.st h1
 subst this
 have := ht.nb
 exact ⟨_, ⟨_, _, _, by rw [ext_nb]; omega, rfl, rfl⟩, leave_pst hA ht rfl ⟨h1, rfl, i', _, rfl⟩⟩
theorem aThenD_n {X : Bool → F → M → Prop} {K : Exit → Bool → F → M → Prop} {b : Bool} {f : F} {m : M} : aThenD X K .normal b f m = X b f m := rfl
theorem aThenD_e {X : Bool → F → M → Prop} {K : Exit → Bool → F → M → Prop} {i : Nat} {b : Bool} {f : F} {m : M} : aThenD X K (.exit i) b f m = K (.exit i) b f m := rfl
theorem aThenD_r {X : Bool → F → M → Prop} {K : Exit → Bool → F → M → Prop} {b : Bool} {f : F} {m : M} : aThenD X K .ret b f m = K .ret b f m := rfl
theorem aBlockD_e {i j : Nat} {K : Exit → Bool → F → M → Prop} {b : Bool} {f : F} {m : M} : aBlockD i K (.exit j) b f m = if j = i then K .normal b f m else K (.exit j) b f m := rfl
theorem aBlockD_r {i : Nat} {K : Exit → Bool → F → M → Prop} {b : Bool} {f : F} {m : M} : aBlockD i K .ret b f m = K .ret b f m := rfl
theorem pconst_any (e : Ex) (m : M) : ACalls Tryz.prog 69 [e.pv] m (fun v m' => v = pB (isCst e) ∧ m' = m) := by
 obtain ⟨c1, g1⟩ : ∃ b, (e.kind == 1) = b := ⟨_, rfl⟩
 obtain ⟨c2, g2⟩ : ∃ b, (e.kind == 2) = b := ⟨_, rfl⟩
 obtain ⟨c3, g3⟩ : ∃ b, (e.kind == 3) = b := ⟨_, rfl⟩
 have hcst : isCst e = (c1 || c2 || c3) := by unfold isCst; rw [g1, g2, g3]
 rw [hcst, Ex.pv_eq]
 cases c1 <;> cases c2 <;> cases c3 <;> (
  refine eN [] Tryz.func69 ?_
  (repeat revert X); refine wE (And.intro tfPp3 (And.intro g1 (And.intro g2 g3))) ?_; repeat intro X hX
  refine wR Tryz.results69 ?_
  exact leave_same rfl ⟨rfl, rfl⟩)
section
variable {L : List Tk} (hL : TksOk L) {f : Nat} (IH : ∀ g, g ≤ f → PExC L g)
include hL IH
set_option maxHeartbeats 4000000 in
theorem pexpr_step (a : Nat) (m : M) (hA : a < m.nb) (s : PS) (hs : s.ok L) (k0 : s.k = 0) (d : Int) (hd : 0 ≤ d ∧ d ≤ 64) (hf : mu L s + 5 ≤ f + 1) : ACallsZ Tryz.prog 16 [.bp a 0] (pst L a m s.i d) (RP L a m d (rExpr L (f + 1) d s).1.pv (rExpr L (f + 1) d s).2) (ZP L a m (rExpr L (f + 1) d s).2) := by
 have h1 := open_adv hL hs d
 have hm1 := mu_le h1
 obtain ⟨r, hr⟩ : ∃ r, rExpr L (f + 1) d s = r := ⟨_, rfl⟩
 have hun : r = if (rFull L f ((rOpen L d s).tk L) (d + 1) (rOpen L d s)).2.k == 0 && decide ((rFull L f ((rOpen L d s).tk L) (d + 1) (rOpen L d s)).1.dpW > 64) then ((rFull L f ((rOpen L d s).tk L) (d + 1) (rOpen L d s)).1, (rFull L f ((rOpen L d s).tk L) (d + 1) (rOpen L d s)).2.fail L 3 ((rOpen L d s).tk L).line ((rOpen L d s).tk L).col) else rFull L f ((rOpen L d s).tk L) (d + 1) (rOpen L d s) := hr.symm
 rw [hr]
 have hi : IntKind.i64.wrap (d + 1 - 1) = d := by rw [wrap64 (by omega)]; omega
 have h2 := ((exL hL f).full ((rOpen L d s).tk L) (d + 1) _ h1.ok (by omega)).1
 have e2 : Adv L (rFull L f ((rOpen L d s).tk L) (d + 1) (rOpen L d s)).2 r.2 := by
  rw [hun]
  split
  ·exact fail_adv hL h2.ok _ _ _
  ·exact .refl h2.ok
 have e1 : Adv L (rOpen L d s) r.2 := h2.trans e2
 refine ACallsZ.enterWD (h := 32) (dargs := [.bp a 0]) (Z1 := noZ) (Q := ShutQ L a) ok_mix Tryz.func16 rfl (by kernel_rfl) (by kernel_rfl) (by simp only [List.length_cons, List.length_nil, Tryz.ntmps16]; omega) (fun m2 m3 h => shut_dany m2 m3 h) ?_
 refine WD.sq ok_mix [2] (by kernel_rfl) fun X hX => ?_
 (repeat (first | refine aReg ?_; simp -implicitDefEqProofs only [↓slp, slb, ↓reduceIte, tfPp3, hA] | apply hX; clear hX X))
 refine WD.sq ok_mix [2] (by kernel_rfl) fun X hX => ?_
 (repeat revert X); refine wE aEQ_t ?_; repeat intro X hX
 refine callP (popen_any hL a _ xA s hs d k0 ⟨hd.1, by omega⟩) (by first | exact zz hA (.refl m) (e1) | exact zz0 hA (.refl m) (e1)) ?_
 rintro v m' ⟨k1, ho, hd1, rfl⟩
 rw [ho] at hun e1 e2 h2 hm1
 refine wS aEQ_t ?_
 (repeat (apply hX; clear hX X))
 refine WD.seq (WD.defer2 ⟨rfl, rfl⟩ (by kernel_rfl) ⟨rfl, rfl, rfl, rfl, rfl⟩ rfl ?_)
 refine WD.plain (mu := [2]) ok_mix (by kernel_rfl) ?_
 have hc := (IH f (Nat.le_refl _)).full a
 (repeat revert X); refine wE aEQ_t ?_; repeat intro X hX
 refine callM (ptok_any hL a _ xA s hs (d + 1)) ?_
 rintro v m' ⟨rfl, rfl⟩
 refine wS tfPp3 ?_
 (repeat revert X); refine wE tfPp3 ?_; repeat intro X hX
 refine callP (hc _ xA s hs k0 (d + 1) ⟨by omega, hd1⟩ (s.tk L) (by omega)) (zzd hA (.refl m) e2) ?_
 rintro v m' ⟨k2, rfl, rfl⟩
 generalize rFull L f (s.tk L) (d + 1) s = x at *
 generalize s.tk L = t at *
 refine wS tfPp3 ?_
 (repeat revert X); refine wE tfPp3 ?_; repeat intro X hX
 refine callM (depthW_any x.1 _) ?_
 rintro v m' ⟨rfl, rfl⟩
 obtain ⟨b2, g2⟩ : ∃ b, decide (x.1.dpW > 64) = b := ⟨_, rfl⟩
 rw [g2, k2] at hun
 cases b2 with
 | false =>
  simp only [BEq.rfl, Bool.and_false, Bool.false_eq_true, ↓reduceIte] at hun
  refine wS (And.intro tfPp3 (And.intro @pI.eq_1 g2)) ?_
  (repeat (first | refine aSeq fun X hX => ?_ | refine aSkip ?_ | refine aRet ?_; try simp only [slx, ↓reduceIte, jA, reduceCtorEq] | (first | apply aReg | apply aIf); simp -implicitDefEqProofs only [↓slp, slb, ↓reduceIte, jA, jB, jE, jF, tfPp3, hA]; try simp only [fo] | apply hX; clear hX X))
  refine ⟨.inr trivial, _, ⟨_, _, _, (by rw [ext_nb]; omega), rfl, rfl⟩, ?_⟩
  simp only [aPost, Tryz.results16, aRes_n, aRes_t, aRes_c, pack_one, pack_two]
  refine wS (And.intro tfPp3 (And.intro hA hi)) ?_
  exact leave_pstE hA (.refl m) ⟨by rw [hun]; exact k2, by rw [hun], by rw [hun]⟩
 | true =>
  simp only [BEq.rfl, Bool.and_self, ↓reduceIte] at hun
  have hu := Tryz.underlying77
  refine wS (And.intro tfPp3 (And.intro @pI.eq_1 g2)) ?_
  (repeat revert X); refine wE tfPp3 ?_; repeat intro X hX
  refine callM (pfault_any 3 t.line t.col rfl _) ?_
  rintro v m' ⟨rfl, rfl⟩
  refine wS (And.intro tfPp3 hu) ?_
  (repeat revert X); refine wE (And.intro tfPp3 (And.intro hA hu)) ?_; repeat intro X hX
  have hf3 : r.2 = ⟨L.length - 1, 3, t.line, t.col⟩ := by rw [hun]; exact fail0 k2
  rw [hf3]
  exact ⟨_, ⟨_, _, _, (by rw [ext_nb]; omega), rfl, rfl⟩, leave_pst hA (.refl m) rfl ⟨(fun h => by cases h), rfl, _, _, rfl⟩⟩
set_option maxHeartbeats 8000000 in
theorem pfull_step (a : Nat) (m : M) (hA : a < m.nb) (s : PS) (hs : s.ok L) (k0 : s.k = 0) (d : Int) (hd : 0 ≤ d ∧ d ≤ 64) (t : Tk) (hf : mu L s + 4 ≤ f + 1) : ACallsZ Tryz.prog 34 [.bp a 0, pPos t.line t.col] (pst L a m s.i d) (RP L a m d (rFull L (f + 1) t d s).1.pv (rFull L (f + 1) t d s).2) (ZP L a m (rFull L (f + 1) t d s).2) := by
 have hsk : ∀ (s : PS) w, s.skp L w = if s.is L w then s.nx else s := fun _ _ => rfl
 obtain ⟨r, hr⟩ : ∃ r, rFull L (f + 1) t d s = r := ⟨_, rfl⟩
 rw [hr]
 have h0 : (s.k == 0) = true := by rw [k0]; rfl
 cases hi : s.is L wIf with
 | true =>
  have a1 := is_adv hL hs hi
  have m1 := mu_nx hL hs k0 (is_of hi).2.1
  have hc1 := (IH f (Nat.le_refl _)).expr a
  have a2 := ((exL hL f).expr d _ a1.ok (by omega)).1
  have a3 := want_adv hL a2.ok wThen
  have m3 := mu_le (a2.trans a3)
  have a4 := ((exL hL f).expr d _ a3.ok (by omega)).1
  have a5 := want_adv hL a4.ok wElse
  have m5 := mu_le (a4.trans a5)
  have a6 := ((exL hL f).expr d _ a5.ok (by omega)).1
  have hun : rFull L (f + 1) t d s = (.mk 8 0 0 ⟨#[]⟩ [] [(rExpr L f d s.nx).1, (rExpr L f d ((rExpr L f d s.nx).2.want L wThen)).1, (rExpr L f d ((rExpr L f d ((rExpr L f d s.nx).2.want L wThen)).2.want L wElse)).1] t.line t.col, (rExpr L f d ((rExpr L f d ((rExpr L f d s.nx).2.want L wThen)).2.want L wElse)).2) := by rw [rFull]; simp only [h0, hi]; rfl
  rw [hr] at hun
  have hr2 : r.2 = (rExpr L f d ((rExpr L f d ((rExpr L f d s.nx).2.want L wThen)).2.want L wElse)).2 := by rw [hun]
  have e6 : Adv L (rExpr L f d ((rExpr L f d ((rExpr L f d s.nx).2.want L wThen)).2.want L wElse)).2 r.2 := by rw [hr2]; exact .refl a6.ok
  have e5 := a6.trans e6
  have e4 := a5.trans e5
  have e3 := a4.trans e4
  have e2 := a3.trans e3
  refine eZ [4] Tryz.func34 ?_
  (repeat revert X); refine wE (And.intro tfPp3 hA) ?_; repeat intro X hX
  refine callM (pskip_any hL a _ xA s hs d k0 wIf) ?_
  rintro v m' ⟨rfl, rfl⟩
  rw [hsk, hi, if_pos rfl]
  refine wS @pB.eq_1 ?_
  (repeat revert X); refine wE aEQ_t ?_; repeat intro X hX
  refine callP (hc1 _ xA s.nx a1.ok k0 d hd (by omega)) (by first | exact zz hA (.refl m) (e2) | exact zz0 hA (.refl m) (e2)) ?_
  rintro v m' ⟨k1, rfl, rfl⟩
  generalize rExpr L f d s.nx = c at *
  refine wS tfPp3 ?_
  (repeat revert X); refine wE tfPp3 ?_; repeat intro X hX
  refine callP (pwant_any hL a _ xA _ a2.ok d k1 wThen) (by first | exact zz hA (.refl m) (e3) | exact zz0 hA (.refl m) (e3)) ?_
  rintro v m' ⟨k2, rfl⟩
  refine wS tfPp3 ?_
  (repeat revert X); refine wE tfPp3 ?_; repeat intro X hX
  refine callP (hc1 _ xA _ a3.ok k2 d hd (by omega)) (by first | exact zz hA (.refl m) (e4) | exact zz0 hA (.refl m) (e4)) ?_
  rintro v m' ⟨k3, rfl, rfl⟩
  generalize rExpr L f d (c.2.want L wThen) = e at *
  refine wS tfPp3 ?_
  (repeat revert X); refine wE tfPp3 ?_; repeat intro X hX
  refine callP (pwant_any hL a _ xA _ a4.ok d k3 wElse) (by first | exact zz hA (.refl m) (e5) | exact zz0 hA (.refl m) (e5)) ?_
  rintro v m' ⟨k4, rfl⟩
  refine wS tfPp3 ?_
  (repeat revert X); refine wE aEQ_t ?_; repeat intro X hX
  refine aDrwEZ 4 (isP L a (m.ext [some [.v (.int .u8 0), .v (.int .u8 0), .v (.int .i32 0), .v (.string ⟨#[]⟩), .sl .full [], .sl .full [], .v (.int .i64 0), .v (.int .i64 0)]]) d) (by decide) (hne := List.cons_ne_nil _ _) rfl (by kernel_rfl) rfl rfl (by kernel_rfl) (by kernel_rfl) isP_of ?_
  simp -implicitDefEqProofs only [↓slp, slb, ↓reduceIte, reduceCtorEq, jA, jB, jC, jD, jE, jF, tfPp3, List.dropLast_cons_cons, List.dropLast_singleton, List.getLast_cons_cons, List.getLast_singleton, List.getElem_cons_zero, List.getElem_cons_succ]
  refine callP (hc1 _ xA _ a5.ok k4 d hd (by omega)) (by first | exact zz hA (.refl m) (e6) | exact zz0 hA (.refl m) (e6)) ?_
  rintro v m' ⟨k5, rfl, rfl⟩
  generalize rExpr L f d (e.2.want L wElse) = g at *
  refine ⟨isP_of, ?_⟩
  refine wS (And.intro tfPp3 hA) ?_
  (repeat revert X); refine wE aEQ_t ?_; repeat intro X hX
  refine wQ Tryz.results34 (And.intro tfPp3 hA) ?_
  exact leave_pstX (e := r.1) hA (.refl m) (by rw [hun]; simp only [PV.settle, PV.settles, Ex.settle_pv]; symm; exact Ex.pv_eq _) ⟨by rw [hr2]; exact k5, rfl, by rw [hr2]⟩
 | false =>
 obtain ⟨b1, b2⟩ := (exL hL f).binary 1 d s hs (by omega)
 have hcb := (IH f (Nat.le_refl _)).binary a
 have hc1 := (IH f (Nat.le_refl _)).expr a
 have hun : r = (if (rBinary L f 1 d s).2.is L wArrow then (.mk 11 0 0 ⟨#[]⟩ [] [(rBinary L f 1 d s).1, (rExpr L f d (rBinary L f 1 d s).2.nx).1] t.line t.col, (rExpr L f d (rBinary L f 1 d s).2.nx).2)
     else if (rBinary L f 1 d s).2.is L wFby then (.mk 9 0 0 ⟨#[]⟩ [] [(rBinary L f 1 d s).1, (rExpr L f d ((if isCst (rBinary L f 1 d s).1 then (rBinary L f 1 d s).2 else (rBinary L f 1 d s).2.here L 2).want L wFby)).1] t.line t.col, (rExpr L f d ((if isCst (rBinary L f 1 d s).1 then (rBinary L f 1 d s).2 else (rBinary L f 1 d s).2.here L 2).want L wFby)).2)
     else rBinary L f 1 d s) := by rw [← hr, rFull]; simp only [h0, hi]; rfl
 have e1 : Adv L (rBinary L f 1 d s).2 r.2 := by
  have := (exL hL (f + 1)).full t d s hs (by omega)
  rw [hun]
  split
  ·rename_i hi1
   have a1 := is_adv hL b1.ok hi1
   have m1 := mu_nx hL b1.ok (is_of hi1).1 (is_of hi1).2.1
   have := mu_le b1
   exact a1.trans ((exL hL f).expr d _ a1.ok (by omega)).1
  ·split
   ·rename_i hi2
    have a1 : Adv L (rBinary L f 1 d s).2 (if isCst (rBinary L f 1 d s).1 then (rBinary L f 1 d s).2 else (rBinary L f 1 d s).2.here L 2) := by
     split
     ·exact .refl b1.ok
     ·exact here_adv hL b1.ok 2
    have a3 := want_adv hL a1.ok wFby
    have hp : Pr (rBinary L f 1 d s).2 (((if isCst (rBinary L f 1 d s).1 then (rBinary L f 1 d s).2 else (rBinary L f 1 d s).2.here L 2)).want L wFby) := fun hk => by
     have := want_pr hk
     have := a1.le
     omega
    have hm := mu_lt (a1.trans a3) b1.ok (is_of hi2).1 hp
    have := mu_le b1
    exact (a1.trans a3).trans ((exL hL f).expr d _ a3.ok (by omega)).1
   ·exact .refl b1.ok
 have m0 := mu_le b1
 refine eZ [4] Tryz.func34 ?_
 (repeat revert X); refine wE (And.intro tfPp3 hA) ?_; repeat intro X hX
 refine callM (pskip_any hL a _ xA s hs d k0 wIf) ?_
 rintro v m' ⟨rfl, rfl⟩
 rw [hsk, hi, if_neg (by simp)]
 refine wS @pB.eq_1 ?_
 (repeat revert X); refine wE aEQ_t ?_; repeat intro X hX
 refine callP (hcb _ xA s hs k0 d hd 1 (by omega)) (by first | exact zz hA (.refl m) (e1) | exact zz0 hA (.refl m) (e1)) ?_
 rintro v m' ⟨k1, rfl, rfl⟩
 generalize rBinary L f 1 d s = e at *
 refine wS tfPp3 ?_
 (repeat revert X); refine wE tfPp3 ?_; repeat intro X hX
 refine callM (pis_any hL a _ xA _ b1.ok d k1 wArrow) ?_
 rintro v m' ⟨rfl, rfl⟩
 have hi9 : IntKind.i64.wrap ((e.2.i : Int) + 1) = ((e.2.i + 1 : Nat) : Int) := by have := b1.ok.lt; have := hL.le; rw [wrap64 (by omega)]; omega
 cases h1 : e.2.is L wArrow with
 | true =>
  rw [h1, if_pos rfl] at hun
  have a1 := is_adv hL b1.ok h1
  have m1 := mu_nx hL b1.ok (is_of h1).1 (is_of h1).2.1
  have a2 := ((exL hL f).expr d _ a1.ok (by omega)).1
  have e2 : Adv L (rExpr L f d e.2.nx).2 r.2 := by rw [hun]; exact .refl a2.ok
  refine wS (And.intro tfPp3 @pB.eq_1) ?_
  (repeat revert X); refine wE (And.intro tfPp3 (And.intro hA hi9)) ?_; repeat intro X hX
  refine aDrwEZ 3 (isP L a (m.ext [some [.v (.int .u8 0), .v (.int .u8 0), .v (.int .i32 0), .v (.string ⟨#[]⟩), .sl .full [], .sl .full [], .v (.int .i64 0), .v (.int .i64 0)]]) d) (by decide) (hne := List.cons_ne_nil _ _) rfl (by kernel_rfl) rfl rfl (by kernel_rfl) (by kernel_rfl) isP_of ?_
  simp -implicitDefEqProofs only [↓slp, slb, ↓reduceIte, reduceCtorEq, jA, jB, jC, jD, jE, jF, tfPp3, List.dropLast_cons_cons, List.dropLast_singleton, List.getLast_cons_cons, List.getLast_singleton, List.getElem_cons_zero, List.getElem_cons_succ]
  refine callP (hc1 _ xA e.2.nx a1.ok k1 d hd (by omega)) (by first | exact zz hA (.refl m) (e2) | exact zz0 hA (.refl m) (e2)) ?_
  rintro v m' ⟨k5, rfl, rfl⟩
  generalize rExpr L f d e.2.nx = g at *
  refine ⟨isP_of, ?_⟩
  refine wS (And.intro tfPp3 hA) ?_
  (repeat revert X); refine wE aEQ_t ?_; repeat intro X hX
  refine wQ Tryz.results34 (And.intro tfPp3 hA) ?_
  exact leave_pstX (e := r.1) hA (.refl m) (by rw [hun]; simp only [PV.settle, PV.settles, Ex.settle_pv]; symm; exact Ex.pv_eq _) ⟨by rw [hun]; exact k5, rfl, by rw [hun]⟩
 | false =>
 rw [h1, if_neg (by simp)] at hun
 refine wS (And.intro tfPp3 @pB.eq_1) ?_
 (repeat revert X); refine wE tfPp3 ?_; repeat intro X hX
 refine callM (pis_any hL a _ xA _ b1.ok d k1 wFby) ?_
 rintro v m' ⟨rfl, rfl⟩
 cases h2 : e.2.is L wFby with
 | false =>
  rw [h2, if_neg (by simp)] at hun
  refine wS (And.intro tfPp3 @pB.eq_1) ?_
  (repeat revert X); refine wE (And.intro tfPp3 hA) ?_; repeat intro X hX
  refine wQ Tryz.results34 (And.intro tfPp3 hA) ?_
  exact leave_pstE hA (.refl m) ⟨by rw [hun]; exact k1, by rw [hun], by rw [hun]⟩
 | true =>
 rw [h2, if_pos rfl] at hun
 refine wS (And.intro tfPp3 @pB.eq_1) ?_
 (repeat revert X); refine wE tfPp3 ?_; repeat intro X hX
 refine callM (pconst_any e.1 _) ?_
 rintro v m' ⟨rfl, rfl⟩
 cases h3 : isCst e.1 with
 | false =>
  have a1 := here_adv hL b1.ok 2
  rw [h3, if_neg (by simp)] at hun
  have a3 := want_adv hL a1.ok wFby
  have m3 := mu_le (a1.trans a3)
  have hnk : ((e.2.here L 2).want L wFby).k ≠ 0 := fun hk => (fail_k (L := L) (s := e.2) (k := 2) (by decide)) (a3.k hk)
  have m4 : mu L ((e.2.here L 2).want L wFby) = 0 := by unfold mu; rw [if_neg hnk]
  have a4 := ((exL hL f).expr d _ a3.ok (by rw [m4]; have := b2; have := mu0 hs k0; omega)).1
  have e3 : Adv L (e.2.here L 2) r.2 := by rw [hun]; exact a3.trans a4
  refine wS (And.intro tfPp3 @pB.eq_1) ?_
  (repeat revert X); refine wE tfPp3 ?_; repeat intro X hX
  refine callP (pfail_any hL a _ xA _ b1.ok d k1 2 (by decide)) (by first | exact zz hA (.refl m) (e3) | exact zz0 hA (.refl m) (e3)) (fun v m' h => h.elim)
 | true =>
  rw [h3, if_pos rfl] at hun
  have hw : e.2.want L wFby = e.2.nx := by unfold PS.want; rw [if_pos h2]
  rw [hw] at hun
  have a1 := is_adv hL b1.ok h2
  have m1 := mu_nx hL b1.ok (is_of h2).1 (is_of h2).2.1
  have a2 := ((exL hL f).expr d _ a1.ok (by omega)).1
  have e2 : Adv L (rExpr L f d e.2.nx).2 r.2 := by rw [hun]; exact .refl a2.ok
  refine wS (And.intro tfPp3 @pB.eq_1) ?_
  (repeat revert X); refine wE (And.intro tfPp3 (And.intro hA hi9)) ?_; repeat intro X hX
  refine aDrwEZ 3 (isP L a (m.ext [some [.v (.int .u8 0), .v (.int .u8 0), .v (.int .i32 0), .v (.string ⟨#[]⟩), .sl .full [], .sl .full [], .v (.int .i64 0), .v (.int .i64 0)]]) d) (by decide) (hne := List.cons_ne_nil _ _) rfl (by kernel_rfl) rfl rfl (by kernel_rfl) (by kernel_rfl) isP_of ?_
  simp -implicitDefEqProofs only [↓slp, slb, ↓reduceIte, reduceCtorEq, jA, jB, jC, jD, jE, jF, tfPp3, List.dropLast_cons_cons, List.dropLast_singleton, List.getLast_cons_cons, List.getLast_singleton, List.getElem_cons_zero, List.getElem_cons_succ]
  refine callP (hc1 _ xA e.2.nx a1.ok k1 d hd (by omega)) (by first | exact zz hA (.refl m) (e2) | exact zz0 hA (.refl m) (e2)) ?_
  rintro v m' ⟨k5, rfl, rfl⟩
  generalize rExpr L f d e.2.nx = g at *
  refine ⟨isP_of, ?_⟩
  refine wS (And.intro tfPp3 hA) ?_
  (repeat revert X); refine wE aEQ_t ?_; repeat intro X hX
  refine wQ Tryz.results34 (And.intro tfPp3 hA) ?_
  exact leave_pstX (e := r.1) hA (.refl m) (by rw [hun]; simp only [PV.settle, PV.settles, Ex.settle_pv]; symm; exact Ex.pv_eq _) ⟨by rw [hun]; exact k5, rfl, by rw [hun]⟩
set_option maxHeartbeats 8000000 in
theorem pbinary_step (a : Nat) (m : M) (hA : a < m.nb) (s : PS) (hs : s.ok L) (k0 : s.k = 0) (d : Int) (hd : 0 ≤ d ∧ d ≤ 64) (least : Int) (hf : mu L s + 3 ≤ f + 1) : ACallsZ Tryz.prog 67 [.bp a 0, pI least] (pst L a m s.i d) (RP L a m d (rBinary L (f + 1) least d s).1.pv (rBinary L (f + 1) least d s).2) (ZP L a m (rBinary L (f + 1) least d s).2) := by
 obtain ⟨b1, b2⟩ := (exL hL f).unary d s hs (by omega)
 have hcu := (IH f (Nat.le_refl _)).unary a
 obtain ⟨r, hr0⟩ : ∃ r, rBinary L (f + 1) least d s = r := ⟨_, rfl⟩
 have hun0 : r = rBin L f least d (s.tk L) (rUnary L f d s).1 (rUnary L f d s).2 := hr0.symm
 rw [hr0]
 have hmu : mu L (rUnary L f d s).2 + 1 ≤ f := by
  have := mu_lt b1 hs k0 b2; omega
 have e1 : Adv L (rUnary L f d s).2 r.2 := by rw [hun0]; exact (exL hL f).bin least d _ _ _ b1.ok hmu
 refine eZ [4, 6] Tryz.func67 ?_
 (repeat revert X); refine wE (And.intro tfPp3 (And.intro hA @pI.eq_1)) ?_; repeat intro X hX
 refine callM (ptok_any hL a _ xA s hs d) ?_
 rintro v m' ⟨rfl, rfl⟩
 refine wS tfPp3 ?_
 (repeat revert X); refine wE aEQ_t ?_; repeat intro X hX
 refine callP (hcu _ xA s hs k0 d hd (by omega)) (by first | exact zz hA (.refl m) (e1) | exact zz0 hA (.refl m) (e1)) ?_
 rintro v m' ⟨k1, rfl, rfl⟩
 generalize rUnary L f d s = u at *
 generalize s.tk L = t at *
 refine wS (And.intro tfPp3 hA) ?_
 (repeat revert X); refine wE aEQ_t ?_; repeat intro X hX
 obtain ⟨I, hI⟩ : ∃ I : Nat → F → M → Prop, ∀ n g m', I n g m' = (∃ (e1 : Ex) (s1 : PS) (on ok : Own), s1.ok L ∧ s1.k = 0 ∧ mu L s1 + 1 ≤ n ∧ n ≤ f ∧ r = rBin L n least d t e1 s1 ∧ g 0 = .bp a 0 ∧ g 1 = pI least ∧ g 4 = .bp m.nb 0 ∧ g 5 = .ep [.v (.int .i64 t.line), .v (.int .i64 t.col)] ∧ g 6 = .bp (m.nb + 1) 0 ∧ m' = pst L a (m.ext [some [.v (.int .u8 0), .v (.int .u8 0), .v (.int .i32 0), .v (.string ⟨#[]⟩), .sl .full [], .sl .full [], .v (.int .i64 0), .v (.int .i64 0)], some (exB e1 on ok)]) s1.i d) := ⟨_, fun _ _ _ => rfl⟩
 refine aLoopN I f ?_ ?_
 ·rw [hI]; exact ⟨u.1, u.2, .no, .no, b1.ok, k1, hmu, Nat.le_refl _, hun0, rfl, rfl, rfl, rfl, rfl, rfl⟩
 clear hun0 e1
 intro W n g m' hrel hW
 rw [hI] at hrel
 obtain ⟨e1, s1, on, ok, hs1, k2, hn, hnf, hr, f0, f1, f4, f5, f6, rfl⟩ := hrel
 obtain ⟨n, rfl⟩ : ∃ k, n = k + 1 := ⟨n - 1, by omega⟩
 have h0 : (s1.k == 0) = true := by rw [k2]; rfl
 have hrng := rOp_rng (L := L) s1
 obtain ⟨c1, g1⟩ : ∃ b, (opStr (rOp L s1) == 0) = b := ⟨_, rfl⟩
 obtain ⟨c2, g2⟩ : ∃ b, decide (opStr (rOp L s1) < least) = b := ⟨_, rfl⟩
 have hun : rBin L (n + 1) least d t e1 s1 = if (c1 || c2) = true then (e1, s1) else rBin L n least d t (.mk 7 (rOp L s1) 0 ⟨#[]⟩ [] [e1, (rBinary L n (opStr (rOp L s1) + 1) d s1.nx).1] t.line t.col) (if opStr (rOp L s1) == 3 && opStr (rOp L (rBinary L n (opStr (rOp L s1) + 1) d s1.nx).2) == 3 then (rBinary L n (opStr (rOp L s1) + 1) d s1.nx).2.here L 2 else (rBinary L n (opStr (rOp L s1) + 1) d s1.nx).2) := by rw [rBin]; simp only [h0, g1, g2]; rfl
 have hop : rOp L s1 ≠ 0 → (s1.tk L).kind ≠ 0 := fun h => (op_is _ _ _ h).2
 (repeat revert X); refine wE f0 ?_; repeat intro X hX
 refine callM (poper_any hL a _ xA s1 hs1 k2 d) ?_
 rintro v m' ⟨rfl, rfl⟩
 refine wS aEQ_t ?_
 (repeat revert X); refine wE aEQ_t ?_; repeat intro X hX
 refine callM (pstr_any _ hrng _) ?_
 rintro v m' ⟨rfl, rfl⟩
 have stop : ∀ {b : Bool}, (c1 || c2) = b → b = true → rBin L (n + 1) least d t e1 s1 = (e1, s1) := fun h h2 => by rw [hun, h, h2]; rfl
 cases c1 with
 | true =>
  have hun2 := stop (b := true) (by simp) rfl
  refine wS @pI.eq_1 ?_
  (repeat revert X); refine wE (And.intro tfPp3 (And.intro f4 (And.intro f6 (And.intro hA g1)))) ?_; repeat intro X hX
  refine wQ Tryz.results67 (And.intro tfPp3 (And.intro f4 hA)) ?_
  exact leave_pst hA (.refl m) rfl ⟨by rw [hr, hun2]; exact k2, by rw [hr, hun2, Ex.pv_eq]; rfl, by rw [hr, hun2]⟩
 | false =>
 cases c2 with
 | true =>
  have hun2 := stop (b := true) (by simp) rfl
  refine wS @pI.eq_1 ?_
  (repeat revert X); refine wE (And.intro tfPp3 (And.intro f1 (And.intro f4 (And.intro f6 (And.intro hA (And.intro @pI.eq_1 (And.intro g1 g2))))))) ?_; repeat intro X hX
  refine wQ Tryz.results67 (And.intro tfPp3 (And.intro f4 hA)) ?_
  exact leave_pst hA (.refl m) rfl ⟨by rw [hr, hun2]; exact k2, by rw [hr, hun2, Ex.pv_eq]; rfl, by rw [hr, hun2]⟩
 | false =>
 rw [Bool.or_self, if_neg (by simp)] at hun
 have hne : rOp L s1 ≠ 0 := fun e => by rw [e] at g1; exact absurd g1 (by decide)
 have hk := hop hne
 have a1 := nx_adv hL hs1 k2 hk
 have m1 := mu_nx hL hs1 k2 hk
 have hst : 0 ≤ opStr (rOp L s1) ∧ opStr (rOp L s1) ≤ 5 := by unfold opStr; repeat' split <;> omega
 have hi : IntKind.i64.wrap ((s1.i : Int) + 1) = ((s1.i + 1 : Nat) : Int) := by have := hs1.lt; have := hL.le; rw [wrap64 (by omega)]; omega
 have hi2 : IntKind.i64.wrap (opStr (rOp L s1) + 1) = opStr (rOp L s1) + 1 := wrap64 (by omega)
 obtain ⟨b3, b4⟩ := (exL hL n).binary (opStr (rOp L s1) + 1) d _ a1.ok (by omega)
 have m3 := mu_le b3
 have hcb := (IH n (by omega)).binary a
 have b5 : Adv L (rBinary L n (opStr (rOp L s1) + 1) d s1.nx).2 (if opStr (rOp L s1) == 3 && opStr (rOp L (rBinary L n (opStr (rOp L s1) + 1) d s1.nx).2) == 3 then (rBinary L n (opStr (rOp L s1) + 1) d s1.nx).2.here L 2 else (rBinary L n (opStr (rOp L s1) + 1) d s1.nx).2) := by
  split
  ·exact here_adv hL b3.ok 2
  ·exact .refl b3.ok
 have b6 := mu_le b5
 have e3 : Adv L (if opStr (rOp L s1) == 3 && opStr (rOp L (rBinary L n (opStr (rOp L s1) + 1) d s1.nx).2) == 3 then (rBinary L n (opStr (rOp L s1) + 1) d s1.nx).2.here L 2 else (rBinary L n (opStr (rOp L s1) + 1) d s1.nx).2) r.2 := by
  rw [hr, hun]
  exact (exL hL n).bin least d _ _ _ b5.ok (by omega)
 have e2 := b5.trans e3
 refine wS @pI.eq_1 ?_
 (repeat revert X); refine wE (And.intro tfPp3 (And.intro f0 (And.intro f1 (And.intro hA (And.intro @pI.eq_1 (And.intro g1 (And.intro g2 hi))))))) ?_; repeat intro X hX
 refine aDrwEZ 6 (isP L a (m.ext [some [.v (.int .u8 0), .v (.int .u8 0), .v (.int .i32 0), .v (.string ⟨#[]⟩), .sl .full [], .sl .full [], .v (.int .i64 0), .v (.int .i64 0)], some (exB e1 on ok)]) d) (by decide) (hne := List.cons_ne_nil _ _) rfl (by kernel_rfl) rfl rfl (by kernel_rfl) (by kernel_rfl) isP_of ?_
 simp -implicitDefEqProofs only [↓slp, slb, ↓reduceIte, reduceCtorEq, jA, jB, jC, jD, jE, jF, tfPp3, isP_all, List.dropLast_cons_cons, List.dropLast_singleton, List.getLast_cons_cons, List.getLast_singleton, List.getElem_cons_zero, List.getElem_cons_succ, f0, f5, f6, hA, hi2]
 refine callP (hcb _ xA s1.nx a1.ok k2 d hd (opStr (rOp L s1) + 1) (by omega)) (by first | exact zz hA (.refl m) (e2) | exact zz0 hA (.refl m) (e2)) ?_
 rintro v m' ⟨k3, rfl, rfl⟩
 generalize rBinary L n (opStr (rOp L s1) + 1) d s1.nx = q at *
 refine ⟨isP_of, ?_⟩
 refine wS (And.intro tfPp3 (And.intro hA f6)) ?_
 (repeat revert X); refine wE f0 ?_; repeat intro X hX
 refine callM (poper_any hL a _ xA q.2 b3.ok k3 d) ?_
 rintro v m' ⟨rfl, rfl⟩
 have hrng2 := rOp_rng (L := L) q.2
 obtain ⟨c3, g3⟩ : ∃ b, (opStr (rOp L s1) == 3) = b := ⟨_, rfl⟩
 obtain ⟨c4, g4⟩ : ∃ b, (opStr (rOp L q.2) == 3) = b := ⟨_, rfl⟩
 rw [g3, g4] at hun b5 b6 e3
 have bx : some (exB (.mk 7 (rOp L s1) 0 ⟨#[]⟩ [] [e1, q.1] t.line t.col) .full .full) = some [.v (.int .u8 7), .v (.int .u8 (rOp L s1)), .v (.int .i32 0), .v (.string ⟨#[]⟩), .sl .full [], .sl .full [e1.pv, q.1.pv], .v (.int .i64 t.line), .v (.int .i64 t.col)] := rfl
 refine wS aEQ_t ?_
 (repeat revert X); refine wE (And.intro tfPp3 (And.intro f0 (And.intro f1 (And.intro f4 (And.intro f5 (And.intro f6 (And.intro hA @pI.eq_1))))))) ?_; repeat intro X hX
 refine callM (pstr_any _ hrng2 _) ?_
 rintro v m' ⟨rfl, rfl⟩
 refine wS @pI.eq_1 ?_
 cases c3 with
 | false =>
  rw [Bool.false_and, if_neg (by simp)] at hun
  (repeat revert X); refine wE g3 ?_; repeat intro X hX
  refine hW n _ _ (by omega) ?_
  rw [hI]
  exact ⟨_, q.2, .full, .full, b3.ok, k3, by omega, by omega, by rw [hr, hun], f0, f1, f4, f5, f6, by rw [bx]⟩
 | true =>
  rw [Bool.true_and] at hun b5 b6 e3
  cases c4 with
  | false =>
   rw [if_neg (by simp)] at hun
   (repeat revert X); refine wE (And.intro g3 g4) ?_; repeat intro X hX
   refine hW n _ _ (by omega) ?_
   rw [hI]
   exact ⟨_, q.2, .full, .full, b3.ok, k3, by omega, by omega, by rw [hr, hun], f0, f1, f4, f5, f6, by rw [bx]⟩
  | true =>
   rw [if_pos rfl] at e3
   (repeat revert X); refine wE (And.intro f0 (And.intro g3 g4)) ?_; repeat intro X hX
   refine callP (pfail_any hL a _ xA _ b3.ok d k3 2 (by decide)) (by first | exact zz hA (.refl m) (e3) | exact zz0 hA (.refl m) (e3)) (fun v m' h => h.elim)
end
end Go.Proofs.YtohgdopfjkjppaaGreatDoor
