/-
 The reference's reader: expressions.
-/
-- halved
import Derived.Test.YtohgdopfjkjppaaGreatDoorAbMac
import Derived.Test.YtohgdopfjkjppaaGreatDoorRB
set_option linter.unusedSectionVars false
set_option linter.unusedVariables false
set_option linter.unusedSimpArgs false
namespace Go.Proofs.YtohgdopfjkjppaaGreatDoor
open Nat renaming reduceEqDiff → jA, reduceAdd → jB, reduceMul → jC, reduceLT → jD, reduceLeDiff → jE, reduceBEq → jF, reduceBNe → jG
open Int renaming reduceLE → jH, reduceLT → jI, reduceToNat → jJ, reduceEq → jK
open Go
set_option maxRecDepth 20000
set_option linter.defProp false
def tfPsR3 := tfPsR1

theorem leave_qstE {L : List Tk} {a : Nat} {m mm : M} {bs : List (Option (List PV))} {s s' : PS} {d d' : Int} {e : Ex} {R : PV → M → Prop} (hA : a < m.nb) (ht : Toks m mm) (hR : R e.pv (qst L a m s' d')) : ∃ v' m', Leave (qst L a m s d) (qst L a (mm.ext bs) s' d') e.pv v' m' ∧ R v' m' :=
 leave_qst hA ht (by rw [Ex.settle_pv]; exact Ex.pure_pv e) (by rw [Ex.settle_pv]; exact hR)
structure QExC (L : List Tk) (f : Nat) : Prop where
 expr : ∀ (a : Nat) (m : M), a < m.nb → ∀ (s : PS), s.ok L → ∀ (d : Int), 0 ≤ d ∧ d ≤ 64 → mu L s + 5 ≤ f → ACalls Tryz.prog 19 [.bp a 0] (qst L a m s d) (fun v m' => v = (rExpr L f d s).1.pv ∧ m' = qst L a m (rExpr L f d s).2 d)
 full : ∀ (a : Nat) (m : M), a < m.nb → ∀ (s : PS), s.ok L → ∀ (d : Int), (0 ≤ d ∧ d ≤ 65) ∧ (s.k = 0 → d ≤ 64) → ∀ t : Tk, mu L s + 4 ≤ f → ACalls Tryz.prog 44 [.bp a 0, posPV t.line t.col] (qst L a m s d) (fun v m' => v = (rFull L f t d s).1.pv ∧ m' = qst L a m (rFull L f t d s).2 d)
 binary : ∀ (a : Nat) (m : M), a < m.nb → ∀ (s : PS), s.ok L → ∀ (d : Int), 0 ≤ d ∧ d ≤ 64 → ∀ (least : Int), mu L s + 3 ≤ f → ACalls Tryz.prog 73 [.bp a 0, pI least] (qst L a m s d) (fun v m' => v = (rBinary L f least d s).1.pv ∧ m' = qst L a m (rBinary L f least d s).2 d)
 unary : ∀ (a : Nat) (m : M), a < m.nb → ∀ (s : PS), s.ok L → ∀ (d : Int), (0 ≤ d ∧ d ≤ 65) ∧ (s.k = 0 → d ≤ 64) → mu L s + 2 ≤ f → ACalls Tryz.prog 94 [.bp a 0] (qst L a m s d) (fun v m' => v = (rUnary L f d s).1.pv ∧ m' = qst L a m (rUnary L f d s).2 d)
 atom : ∀ (a : Nat) (m : M), a < m.nb → ∀ (s : PS), s.ok L → s.k = 0 → ∀ (d : Int), 0 ≤ d ∧ d ≤ 64 → mu L s + 1 ≤ f → ACalls Tryz.prog 114 [.bp a 0] (qst L a m s d) (fun v m' => v = (rAtom L f d s).1.pv ∧ m' = qst L a m (rAtom L f d s).2 d)
section
variable {L : List Tk} (hL : TksOk L) {f : Nat} (IH : ∀ g, g ≤ f → QExC L g)
include hL IH
set_option maxHeartbeats 4000000 in
theorem qexpr_step (a : Nat) (m : M) (hA : a < m.nb) (s : PS) (hs : s.ok L) (d : Int) (hd : 0 ≤ d ∧ d ≤ 64) (hf : mu L s + 5 ≤ f + 1) : ACalls Tryz.prog 19 [.bp a 0] (qst L a m s d) (fun v m' => v = (rExpr L (f + 1) d s).1.pv ∧ m' = qst L a m (rExpr L (f + 1) d s).2 d) := by
 have h1 := open_adv hL hs d
 have hm1 := mu_le h1
 have ho : (rOpen L d s).k = 0 → d + 1 ≤ 64 := fun hk => by
  unfold rOpen at hk
  split at hk
  ·exact absurd hk (fail_k (by decide))
  ·omega
 have h2 := ((exL hL f).full ((rOpen L d s).tk L) (d + 1) _ h1.ok (by omega)).1
 have hc := (IH f (Nat.le_refl _)).full a
 have hun : rExpr L (f + 1) d s = if (rFull L f ((rOpen L d s).tk L) (d + 1) (rOpen L d s)).2.k == 0 && decide ((rFull L f ((rOpen L d s).tk L) (d + 1) (rOpen L d s)).1.dpW > 64) then ((rFull L f ((rOpen L d s).tk L) (d + 1) (rOpen L d s)).1, (rFull L f ((rOpen L d s).tk L) (d + 1) (rOpen L d s)).2.fail L 3 ((rOpen L d s).tk L).line ((rOpen L d s).tk L).col) else rFull L f ((rOpen L d s).tk L) (d + 1) (rOpen L d s) := rfl
 have hi : IntKind.i64.wrap (d + 1 - 1) = d := by rw [wrap64 (by omega)]; omega
 refine eN [2] Tryz.func19 ?_
 (repeat revert X); refine wE (And.intro tfPsR3 hA) ?_; repeat intro X hX
 refine callM (qopen_any hL a _ xA s hs d ⟨hd.1, by omega⟩) ?_
 rintro v m' rfl
 refine wS (And.intro tfPsR3 hA) ?_
 (repeat revert X); refine wE (And.intro tfPsR3 hA) ?_; repeat intro X hX
 refine callM (qtok_any hL a _ xA _ h1.ok (d + 1)) ?_
 rintro v m' ⟨rfl, rfl⟩
 refine wS (And.intro tfPsR3 hA) ?_
 (repeat revert X); refine wE (And.intro tfPsR3 hA) ?_; repeat intro X hX
 refine callM (hc _ xA _ h1.ok (d + 1) ⟨⟨by omega, by omega⟩, ho⟩ _ (by omega)) ?_
 rintro v m' ⟨rfl, rfl⟩
 generalize rFull L f ((rOpen L d s).tk L) (d + 1) (rOpen L d s) = r at *
 generalize (rOpen L d s).tk L = t at *
 obtain ⟨b1, g1⟩ : ∃ b, (r.2.k == 0) = b := ⟨_, rfl⟩
 obtain ⟨b2, g2⟩ : ∃ b, decide (r.1.dpW > 64) = b := ⟨_, rfl⟩
 rw [g1, g2] at hun
 cases b1 with
 | false =>
  refine wS (And.intro tfPsR3 hA) ?_
  (repeat revert X); refine wE (And.intro tfPsR3 (And.intro hA (And.intro g1 (And.intro @pB.eq_1 hi)))) ?_; repeat intro X hX
  refine wQ Tryz.results19 (And.intro tfPsR3 hA) ?_
  exact leave_qstE hA (.refl m) ⟨by rw [hun]; rfl, by rw [hun]; rfl⟩
 | true =>
  refine wS (And.intro tfPsR3 hA) ?_
  (repeat revert X); refine wE (And.intro tfPsR3 (And.intro hA g1)) ?_; repeat intro X hX
  refine callM (rDepthW_any r.1 _) ?_
  rintro v m' ⟨rfl, rfl⟩
  cases b2 with
  | false =>
   refine wS (And.intro tfPsR3 (And.intro hA (And.intro @pI.eq_1 g2))) ?_
   (repeat revert X); refine wE (And.intro tfPsR3 (And.intro hA (And.intro g1 (And.intro g2 (And.intro @pB.eq_1 hi))))) ?_; repeat intro X hX
   refine wQ Tryz.results19 (And.intro tfPsR3 hA) ?_
   exact leave_qstE hA (.refl m) ⟨by rw [hun]; rfl, by rw [hun]; rfl⟩
  | true =>
   refine wS (And.intro tfPsR3 (And.intro hA (And.intro @pI.eq_1 g2))) ?_
   (repeat revert X); refine wE (And.intro tfPsR3 (And.intro hA (And.intro g1 (And.intro g2 (And.intro @pB.eq_1 hi))))) ?_; repeat intro X hX
   refine callM (qfail_any hL a _ xA _ h2.ok (d + 1) 3 t.line t.col) ?_
   rintro v m' rfl
   refine wS (And.intro tfPsR3 hA) ?_
   (repeat revert X); refine wE (And.intro tfPsR3 (And.intro hA hi)) ?_; repeat intro X hX
   refine wQ Tryz.results19 (And.intro tfPsR3 hA) ?_
   exact leave_qstE hA (.refl m) ⟨by rw [hun]; rfl, by rw [hun]; rfl⟩
set_option maxHeartbeats 8000000 in
theorem qfull_step (a : Nat) (m : M) (hA : a < m.nb) (s : PS) (hs : s.ok L) (d : Int) (hd : (0 ≤ d ∧ d ≤ 65) ∧ (s.k = 0 → d ≤ 64)) (t : Tk) (hf : mu L s + 4 ≤ f + 1) : ACalls Tryz.prog 44 [.bp a 0, posPV t.line t.col] (qst L a m s d) (fun v m' => v = (rFull L (f + 1) t d s).1.pv ∧ m' = qst L a m (rFull L (f + 1) t d s).2 d) := by
 have hsk : ∀ (s : PS) w, s.skp L w = if s.is L w then s.nx else s := fun _ _ => rfl
 cases h0 : (s.k == 0) with
 | false =>
  have hun : rFull L (f + 1) t d s = (z0, s) := by rw [rFull]; simp only [h0]; rfl
  rw [hun]
  refine eN [4] Tryz.func44 ?_
  (repeat revert X); refine wE (And.intro tfPsR3 (And.intro hA h0)) ?_; repeat intro X hX
  refine wQ Tryz.results44 (And.intro tfPsR3 hA) ?_
  exact leave_qst hA (.refl m) rfl ⟨by rw [Ex.pv_eq]; rfl, rfl⟩
 | true =>
 have k0 : s.k = 0 := by simpa using h0
 have hd4 : 0 ≤ d ∧ d ≤ 64 := ⟨hd.1.1, hd.2 k0⟩
 cases hi : s.is L wIf with
 | true =>
  have a1 := is_adv hL hs hi
  have m1 := mu_nx hL hs k0 (is_of hi).2.1
  have hc1 := (IH f (Nat.le_refl _)).expr a
  have a2 := ((exL hL f).expr d _ a1.ok (by omega)).1
  have a3 := want_adv hL a2.ok wThen
  have m3 := mu_le (a2.trans a3)
  have a4 := ((exL hL f).expr d _ a3.ok (by omega)).1
  have a5 := want_adv hL a4.ok wElse
  have m5 := mu_le (a4.trans a5)
  have hun : rFull L (f + 1) t d s = (.mk 8 0 0 ⟨#[]⟩ [] [(rExpr L f d s.nx).1, (rExpr L f d ((rExpr L f d s.nx).2.want L wThen)).1, (rExpr L f d ((rExpr L f d ((rExpr L f d s.nx).2.want L wThen)).2.want L wElse)).1] t.line t.col, (rExpr L f d ((rExpr L f d ((rExpr L f d s.nx).2.want L wThen)).2.want L wElse)).2) := by rw [rFull]; simp only [h0, hi]; rfl
  rw [hun]
  clear hun
  refine eN [4] Tryz.func44 ?_
  (repeat revert X); refine wE (And.intro tfPsR3 (And.intro hA h0)) ?_; repeat intro X hX
  refine callM (qskip_any hL a _ xA s hs d wIf) ?_
  rintro v m' ⟨rfl, rfl⟩
  rw [hsk, hi, if_pos rfl]
  refine wS (And.intro tfPsR3 (And.intro hA @pB.eq_1)) ?_
  (repeat revert X); refine wE (And.intro tfPsR3 (And.intro hA @pB.eq_1)) ?_; repeat intro X hX
  refine callM (hc1 _ xA _ a1.ok d hd4 (by omega)) ?_
  rintro v m' ⟨rfl, rfl⟩
  generalize rExpr L f d s.nx = c at *
  refine wS (And.intro tfPsR3 hA) ?_
  (repeat revert X); refine wE (And.intro tfPsR3 hA) ?_; repeat intro X hX
  refine callM (qwant_any hL a _ xA _ a2.ok d wThen) ?_
  rintro v m' rfl
  refine wS (And.intro tfPsR3 hA) ?_
  (repeat revert X); refine wE (And.intro tfPsR3 hA) ?_; repeat intro X hX
  refine callM (hc1 _ xA _ a3.ok d hd4 (by omega)) ?_
  rintro v m' ⟨rfl, rfl⟩
  generalize rExpr L f d (c.2.want L wThen) = e at *
  refine wS (And.intro tfPsR3 hA) ?_
  (repeat revert X); refine wE (And.intro tfPsR3 hA) ?_; repeat intro X hX
  refine callM (qwant_any hL a _ xA _ a4.ok d wElse) ?_
  rintro v m' rfl
  refine wS (And.intro tfPsR3 hA) ?_
  (repeat revert X); refine wE (And.intro tfPsR3 hA) ?_; repeat intro X hX
  refine callM (hc1 _ xA _ a5.ok d hd4 (by omega)) ?_
  rintro v m' ⟨rfl, rfl⟩
  generalize rExpr L f d (e.2.want L wElse) = g at *
  refine wS (And.intro tfPsR3 hA) ?_
  (repeat revert X); refine wE (And.intro tfPsR3 hA) ?_; repeat intro X hX
  refine wQ Tryz.results44 (And.intro tfPsR3 hA) ?_
  exact leave_qst hA (.refl m) rfl ⟨by rw [Ex.pv_eq (.mk 8 0 0 ⟨#[]⟩ [] [c.1, e.1, g.1] t.line t.col)]; simp only [Ex.cs, Ex.kids, List.map_cons, List.map_nil, Ex.pv_eq c.1, Ex.pv_eq e.1, Ex.pv_eq g.1]; rfl, rfl⟩
 | false =>
 obtain ⟨b1, b2⟩ := (exL hL f).binary 1 d s hs (by omega)
 have hcb := (IH f (Nat.le_refl _)).binary a
 have hc1 := (IH f (Nat.le_refl _)).expr a
 have m1 := mu_le b1
 have b3 := mu_lt b1 hs k0 b2
 have hun : rFull L (f + 1) t d s = (if (rBinary L f 1 d s).2.is L wArrow then (.mk 11 0 0 ⟨#[]⟩ [] [(rBinary L f 1 d s).1, (rExpr L f d (rBinary L f 1 d s).2.nx).1] t.line t.col, (rExpr L f d (rBinary L f 1 d s).2.nx).2)
     else if (rBinary L f 1 d s).2.is L wFby then (.mk 9 0 0 ⟨#[]⟩ [] [(rBinary L f 1 d s).1, (rExpr L f d ((if isCst (rBinary L f 1 d s).1 then (rBinary L f 1 d s).2 else (rBinary L f 1 d s).2.here L 2).want L wFby)).1] t.line t.col, (rExpr L f d ((if isCst (rBinary L f 1 d s).1 then (rBinary L f 1 d s).2 else (rBinary L f 1 d s).2.here L 2).want L wFby)).2)
     else rBinary L f 1 d s) := by rw [rFull]; simp only [h0, hi]; rfl
 refine eN [4] Tryz.func44 ?_
 (repeat revert X); refine wE (And.intro tfPsR3 (And.intro hA h0)) ?_; repeat intro X hX
 refine callM (qskip_any hL a _ xA s hs d wIf) ?_
 rintro v m' ⟨rfl, rfl⟩
 rw [hsk, hi, if_neg (by simp)]
 refine wS (And.intro tfPsR3 (And.intro hA @pB.eq_1)) ?_
 (repeat revert X); refine wE (And.intro tfPsR3 (And.intro hA @pB.eq_1)) ?_; repeat intro X hX
 refine callM (hcb _ xA s hs d hd4 1 (by omega)) ?_
 rintro v m' ⟨rfl, rfl⟩
 generalize rBinary L f 1 d s = e at *
 refine wS (And.intro tfPsR3 hA) ?_
 (repeat revert X); refine wE (And.intro tfPsR3 hA) ?_; repeat intro X hX
 refine callM (qskip_any hL a _ xA _ b1.ok d wArrow) ?_
 rintro v m' ⟨rfl, rfl⟩
 rw [hsk]
 cases hw : e.2.is L wArrow with
 | true =>
  have a1 := is_adv hL b1.ok hw
  have m2 := mu_le a1
  rw [hw, if_pos rfl] at hun
  rw [if_pos rfl]
  refine wS (And.intro tfPsR3 (And.intro hA @pB.eq_1)) ?_
  (repeat revert X); refine wE (And.intro tfPsR3 (And.intro hA @pB.eq_1)) ?_; repeat intro X hX
  refine callM (hc1 _ xA _ a1.ok d hd4 (by omega)) ?_
  rintro v m' ⟨rfl, rfl⟩
  generalize rExpr L f d e.2.nx = g at *
  refine wS (And.intro tfPsR3 hA) ?_
  (repeat revert X); refine wE (And.intro tfPsR3 hA) ?_; repeat intro X hX
  refine wQ Tryz.results44 (And.intro tfPsR3 hA) ?_
  exact leave_qst hA (.refl m) rfl ⟨by rw [hun, Ex.pv_eq (.mk 11 0 0 ⟨#[]⟩ [] [e.1, g.1] t.line t.col)]; simp only [Ex.cs, Ex.kids, List.map_cons, List.map_nil, Ex.pv_eq e.1, Ex.pv_eq g.1]; rfl, by rw [hun]⟩
 | false =>
  rw [hw, if_neg (by simp)] at hun
  rw [if_neg (by simp)]
  refine wS (And.intro tfPsR3 (And.intro hA @pB.eq_1)) ?_
  (repeat revert X); refine wE (And.intro tfPsR3 (And.intro hA @pB.eq_1)) ?_; repeat intro X hX
  refine callM (qis_any hL a _ xA _ b1.ok d wFby) ?_
  rintro v m' ⟨rfl, rfl⟩
  cases hv : e.2.is L wFby with
  | false =>
   rw [hv, if_neg (by simp)] at hun
   refine wS (And.intro tfPsR3 (And.intro hA @pB.eq_1)) ?_
   (repeat revert X); refine wE (And.intro tfPsR3 (And.intro hA @pB.eq_1)) ?_; repeat intro X hX
   refine wQ Tryz.results44 (And.intro tfPsR3 hA) ?_
   exact leave_qstE hA (.refl m) ⟨by rw [hun], by rw [hun]⟩
  | true =>
   rw [hv, if_pos rfl] at hun
   obtain ⟨c1, g1⟩ : ∃ b, (e.1.kind == 1) = b := ⟨_, rfl⟩
   obtain ⟨c2, g2⟩ : ∃ b, (e.1.kind == 2) = b := ⟨_, rfl⟩
   obtain ⟨c3, g3⟩ : ∃ b, (e.1.kind == 3) = b := ⟨_, rfl⟩
   have hcst : isCst e.1 = (c1 || c2 || c3) := by unfold isCst; rw [g1, g2, g3]
   rw [hcst] at hun
   refine wS (And.intro tfPsR3 (And.intro hA @pB.eq_1)) ?_
   have fin : (c1 = true) ∨ (c1 = false ∧ c2 = true) ∨ (c1 = false ∧ c2 = false ∧ c3 = true) ∨ (c1 = false ∧ c2 = false ∧ c3 = false) := by cases c1 <;> cases c2 <;> cases c3 <;> simp
   have hEQ : Ex.pv (.mk 9 0 0 ⟨#[]⟩ [] [e.1, (rExpr L f d ((if (c1 || c2 || c3) = true then e.2 else e.2.here L 2).want L wFby)).1] t.line t.col) = .ag [.v (.int .u8 9), .v (.int .u8 0), .v (.int .i32 0), .v (.string ⟨#[]⟩), .sl .no [], .sl .no [e.1.pv, (rExpr L f d ((if (c1 || c2 || c3) = true then e.2 else e.2.here L 2).want L wFby)).1.pv], .v (.int .i64 t.line), .v (.int .i64 t.col)] := by
    rw [Ex.pv_eq]; rfl
   rcases fin with rfl | ⟨rfl, rfl⟩ | ⟨rfl, rfl, rfl⟩ | ⟨rfl, rfl, rfl⟩
   iterate 3
    ·simp only [Bool.true_or, Bool.or_true, Bool.false_or, if_true] at hun hEQ
     have a3 := want_adv hL b1.ok wFby
     have m2 := mu_le a3
     (repeat revert X); refine wE (And.intro tfPsR3 (And.intro hA (And.intro @pB.eq_1 (And.intro g1 (And.intro g2 g3))))) ?_; repeat intro X hX
     refine callM (qwant_any hL a _ xA _ b1.ok d wFby) ?_
     rintro v m' rfl
     refine wS (And.intro tfPsR3 hA) ?_
     (repeat revert X); refine wE (And.intro tfPsR3 hA) ?_; repeat intro X hX
     refine callM (hc1 _ xA _ a3.ok d hd4 (by omega)) ?_
     rintro v m' ⟨rfl, rfl⟩
     generalize rExpr L f d (e.2.want L wFby) = g at *
     refine wS (And.intro tfPsR3 hA) ?_
     (repeat revert X); refine wE (And.intro tfPsR3 hA) ?_; repeat intro X hX
     refine wQ Tryz.results44 (And.intro tfPsR3 hA) ?_
     exact leave_qst hA (.refl m) (by simp only [PV.settle, PV.settles, Ex.settle_pv, PV.pure, PV.pures, Ex.pure_pv, Bool.and_self]; rfl) ⟨by rw [hun, hEQ]; simp only [PV.settle, PV.settles, Ex.settle_pv], by rw [hun]⟩
   ·simp only [Bool.or_self, Bool.false_eq_true, if_false] at hun hEQ
    have a1 := here_adv hL b1.ok 2
    have a3 := want_adv hL a1.ok wFby
    have m2 := mu_le (a1.trans a3)
    (repeat revert X); refine wE (And.intro tfPsR3 (And.intro hA (And.intro @pB.eq_1 (And.intro g1 (And.intro g2 g3))))) ?_; repeat intro X hX
    refine callM (qhere_any hL a _ xA _ b1.ok d 2) ?_
    rintro v m' rfl
    refine wS (And.intro tfPsR3 hA) ?_
    (repeat revert X); refine wE (And.intro tfPsR3 hA) ?_; repeat intro X hX
    refine callM (qwant_any hL a _ xA _ a1.ok d wFby) ?_
    rintro v m' rfl
    refine wS (And.intro tfPsR3 hA) ?_
    (repeat revert X); refine wE (And.intro tfPsR3 hA) ?_; repeat intro X hX
    refine callM (hc1 _ xA _ a3.ok d hd4 (by omega)) ?_
    rintro v m' ⟨rfl, rfl⟩
    generalize rExpr L f d ((e.2.here L 2).want L wFby) = g at *
    refine wS (And.intro tfPsR3 hA) ?_
    (repeat revert X); refine wE (And.intro tfPsR3 hA) ?_; repeat intro X hX
    refine wQ Tryz.results44 (And.intro tfPsR3 hA) ?_
    exact leave_qst hA (.refl m) (by simp only [PV.settle, PV.settles, Ex.settle_pv, PV.pure, PV.pures, Ex.pure_pv, Bool.and_self]; rfl) ⟨by rw [hun, hEQ]; simp only [PV.settle, PV.settles, Ex.settle_pv], by rw [hun]⟩
set_option maxHeartbeats 8000000 in
theorem qbinary_step (a : Nat) (m : M) (hA : a < m.nb) (s : PS) (hs : s.ok L) (d : Int) (hd : 0 ≤ d ∧ d ≤ 64) (least : Int) (hf : mu L s + 3 ≤ f + 1) : ACalls Tryz.prog 73 [.bp a 0, pI least] (qst L a m s d) (fun v m' => v = (rBinary L (f + 1) least d s).1.pv ∧ m' = qst L a m (rBinary L (f + 1) least d s).2 d) := by
 obtain ⟨b1, b2⟩ := (exL hL f).unary d s hs (by omega)
 have hcu := (IH f (Nat.le_refl _)).unary a
 have hun0 : rBinary L (f + 1) least d s = rBin L f least d (s.tk L) (rUnary L f d s).1 (rUnary L f d s).2 := rfl
 have hmu : mu L (rUnary L f d s).2 + 1 ≤ f := by
  have := mu_le b1
  by_cases hk : s.k = 0
  ·have := mu_lt b1 hs hk b2; omega
  ·rw [b1.st hk]; unfold mu; rw [if_neg hk]; omega
 refine eN [4, 6] Tryz.func73 ?_
 (repeat revert X); refine wE (And.intro tfPsR3 (And.intro hA @pI.eq_1)) ?_; repeat intro X hX
 refine callM (qtok_any hL a _ xA s hs d) ?_
 rintro v m' ⟨rfl, rfl⟩
 refine wS (And.intro tfPsR3 hA) ?_
 (repeat revert X); refine wE (And.intro tfPsR3 hA) ?_; repeat intro X hX
 refine callM (hcu _ xA s hs d ⟨⟨hd.1, by omega⟩, fun _ => hd.2⟩ (by omega)) ?_
 rintro v m' ⟨rfl, rfl⟩
 generalize rUnary L f d s = u at *
 generalize s.tk L = t at *
 refine wS (And.intro tfPsR3 hA) ?_
 (repeat revert X); refine wE aEQ_t ?_; repeat intro X hX
 obtain ⟨I, hI⟩ : ∃ I : Nat → F → M → Prop, ∀ n g m', I n g m' = (∃ (e1 : Ex) (s1 : PS) (on ok : Own), s1.ok L ∧ mu L s1 + 1 ≤ n ∧ n ≤ f ∧ rBinary L (f + 1) least d s = rBin L n least d t e1 s1 ∧ g 0 = .bp a 0 ∧ g 1 = pI least ∧ g 4 = .bp m.nb 0 ∧ g 5 = .ep [.v (.int .i64 t.line), .v (.int .i64 t.col)] ∧ g 6 = .bp (m.nb + 1) 0 ∧ m' = qst L a (m.ext [some [.v (.int .u8 0), .v (.int .u8 0), .v (.int .i32 0), .v (.string ⟨#[]⟩), .sl .full [], .sl .full [], .v (.int .i64 0), .v (.int .i64 0)], some (exB e1 on ok)]) s1 d) := ⟨_, fun _ _ _ => rfl⟩
 refine aLoopN I f ?_ ?_
 ·rw [hI]; exact ⟨u.1, u.2, .no, .no, b1.ok, hmu, Nat.le_refl _, hun0, rfl, rfl, rfl, rfl, rfl, rfl⟩
 intro W n g m' hrel hW
 rw [hI] at hrel
 obtain ⟨e1, s1, on, ok, hs1, hn, hnf, hr, f0, f1, f4, f5, f6, rfl⟩ := hrel
 obtain ⟨n, rfl⟩ : ∃ k, n = k + 1 := ⟨n - 1, by omega⟩
 cases h0 : (s1.k == 0) with
 | false =>
  have hun : rBin L (n + 1) least d t e1 s1 = (e1, s1) := by rw [rBin]; simp only [h0]; rfl
  (repeat revert X); refine wE (And.intro tfPsR3 (And.intro f0 (And.intro f1 (And.intro f4 (And.intro f5 (And.intro f6 (And.intro hA h0))))))) ?_; repeat intro X hX
  refine wQ Tryz.results73 (And.intro tfPsR3 (And.intro f0 (And.intro f4 (And.intro f6 hA)))) ?_
  exact leave_qst hA (.refl m) rfl ⟨by rw [hr, hun, Ex.pv_eq]; rfl, by rw [hr, hun]⟩
 | true =>
  have k0 : s1.k = 0 := by simpa using h0
  have hrng := rOp_rng (L := L) s1
  obtain ⟨c1, g1⟩ : ∃ b, (opStr (rOp L s1) == 0) = b := ⟨_, rfl⟩
  obtain ⟨c2, g2⟩ : ∃ b, decide (opStr (rOp L s1) < least) = b := ⟨_, rfl⟩
  have hun : rBin L (n + 1) least d t e1 s1 = if (c1 || c2) = true then (e1, s1) else rBin L n least d t (.mk 7 (rOp L s1) 0 ⟨#[]⟩ [] [e1, (rBinary L n (opStr (rOp L s1) + 1) d s1.nx).1] t.line t.col) (if opStr (rOp L s1) == 3 && opStr (rOp L (rBinary L n (opStr (rOp L s1) + 1) d s1.nx).2) == 3 then (rBinary L n (opStr (rOp L s1) + 1) d s1.nx).2.here L 2 else (rBinary L n (opStr (rOp L s1) + 1) d s1.nx).2) := by rw [rBin]; simp only [h0, g1, g2]; rfl
  have hop : rOp L s1 ≠ 0 → (s1.tk L).kind ≠ 0 := fun h => (op_is _ _ _ h).2
  (repeat revert X); refine wE (And.intro tfPsR3 (And.intro f0 (And.intro f1 (And.intro f4 (And.intro f5 (And.intro f6 (And.intro hA h0))))))) ?_; repeat intro X hX
  refine callM (qoper_any hL a _ xA s1 hs1 d) ?_
  rintro v m' ⟨rfl, rfl⟩
  refine wS (And.intro tfPsR3 (And.intro f0 (And.intro f1 (And.intro f4 (And.intro f5 (And.intro f6 hA)))))) ?_
  (repeat revert X); refine wE (And.intro tfPsR3 (And.intro f0 (And.intro f1 (And.intro f4 (And.intro f5 (And.intro f6 hA)))))) ?_; repeat intro X hX
  refine callM (qstr_any _ hrng _) ?_
  rintro v m' ⟨rfl, rfl⟩
  have stop : ∀ {b : Bool}, (c1 || c2) = b → b = true → rBin L (n + 1) least d t e1 s1 = (e1, s1) := fun h h2 => by rw [hun, h, h2]; rfl
  cases c1 with
  | true =>
   have hun2 := stop (b := true) (by simp) rfl
   refine wS (And.intro tfPsR3 (And.intro f0 (And.intro f1 (And.intro f4 (And.intro f5 (And.intro f6 (And.intro hA (And.intro @pI.eq_1 g1)))))))) ?_
   (repeat revert X); refine wE (And.intro tfPsR3 (And.intro f0 (And.intro f1 (And.intro f4 (And.intro f5 (And.intro f6 (And.intro hA (And.intro @pI.eq_1 g1)))))))) ?_; repeat intro X hX
   refine wQ Tryz.results73 (And.intro tfPsR3 (And.intro f0 (And.intro f4 (And.intro f6 hA)))) ?_
   exact leave_qst hA (.refl m) rfl ⟨by rw [hr, hun2, Ex.pv_eq]; rfl, by rw [hr, hun2]⟩
  | false =>
   cases c2 with
   | true =>
    have hun2 := stop (b := true) (by simp) rfl
    simp -implicitDefEqProofs only [↓slp, slb, ↓reduceIte, reduceCtorEq, jA, jB, jC, jD, jE, jF, jG, jH, jI, jJ, jK, tfPsR3, f0, f1, f4, f5, f6, hA, pI, g1, g2]
    (repeat revert X); refine wE (And.intro tfPsR3 (And.intro f0 (And.intro f1 (And.intro f4 (And.intro f5 (And.intro f6 (And.intro hA (And.intro @pI.eq_1 (And.intro g1 g2))))))))) ?_; repeat intro X hX
    refine wQ Tryz.results73 (And.intro tfPsR3 (And.intro f0 (And.intro f4 (And.intro f6 hA)))) ?_
    exact leave_qst hA (.refl m) rfl ⟨by rw [hr, hun2, Ex.pv_eq]; rfl, by rw [hr, hun2]⟩
   | false =>
    rw [Bool.or_self, if_neg (by simp)] at hun
    have hne : rOp L s1 ≠ 0 := fun e => by rw [e] at g1; exact absurd g1 (by decide)
    have hk := hop hne
    have a1 := nx_adv hL hs1 k0 hk
    have m1 := mu_nx hL hs1 k0 hk
    have hst : 0 ≤ opStr (rOp L s1) ∧ opStr (rOp L s1) ≤ 5 := by unfold opStr; repeat' split <;> omega
    have hi : IntKind.i64.wrap ((s1.i : Int) + 1) = ((s1.i + 1 : Nat) : Int) := by have := hs1.lt; have := hL.le; rw [wrap64 (by omega)]; omega
    have hi2 : IntKind.i64.wrap (opStr (rOp L s1) + 1) = opStr (rOp L s1) + 1 := wrap64 (by omega)
    obtain ⟨b3, b4⟩ := (exL hL n).binary (opStr (rOp L s1) + 1) d _ a1.ok (by omega)
    have m3 := mu_le b3
    have hcb := (IH n (by omega)).binary a
    simp -implicitDefEqProofs only [↓slp, slb, ↓reduceIte, reduceCtorEq, jA, jB, jC, jD, jE, jF, jG, jH, jI, jJ, jK, tfPsR3, f0, f1, f4, f5, f6, hA, pI, g1, g2]
    (repeat revert X); refine wE (And.intro tfPsR3 (And.intro f0 (And.intro f1 (And.intro f4 (And.intro f5 (And.intro f6 (And.intro hA (And.intro @pI.eq_1 (And.intro g1 (And.intro g2 (And.intro hi hi2))))))))))) ?_; repeat intro X hX
    refine callM (hcb _ xA s1.nx a1.ok d hd (opStr (rOp L s1) + 1) (by omega)) ?_
    rintro v m' ⟨rfl, rfl⟩
    generalize rBinary L n (opStr (rOp L s1) + 1) d s1.nx = r at *
    have hrng2 := rOp_rng (L := L) r.2
    obtain ⟨c3, g3⟩ : ∃ b, (opStr (rOp L s1) == 3) = b := ⟨_, rfl⟩
    obtain ⟨c4, g4⟩ : ∃ b, (opStr (rOp L r.2) == 3) = b := ⟨_, rfl⟩
    rw [g3, g4] at hun
    have bx : some (exB (.mk 7 (rOp L s1) 0 ⟨#[]⟩ [] [e1, r.1] t.line t.col) .full .full) = some [.v (.int .u8 7), .v (.int .u8 (rOp L s1)), .v (.int .i32 0), .v (.string ⟨#[]⟩), .sl .full [], .sl .full [e1.pv, r.1.pv], .v (.int .i64 t.line), .v (.int .i64 t.col)] := rfl
    cases c3 with
    | false =>
     rw [Bool.false_and, if_neg (by simp)] at hun
     refine wS (And.intro tfPsR3 (And.intro f0 (And.intro f1 (And.intro f4 (And.intro f5 (And.intro f6 (And.intro hA (And.intro @pI.eq_1 g3)))))))) ?_
     (repeat revert X); refine wE (And.intro tfPsR3 (And.intro f0 (And.intro f1 (And.intro f4 (And.intro f5 (And.intro f6 (And.intro hA (And.intro @pI.eq_1 g3)))))))) ?_; repeat intro X hX
     refine hW n _ _ (by omega) ?_
     rw [hI]
     exact ⟨_, r.2, .full, .full, b3.ok, by omega, by omega, by rw [hr, hun], f0, f1, f4, f5, f6, by rw [bx, Ex.pv_eq e1]⟩
    | true =>
     rw [Bool.true_and] at hun
     refine wS (And.intro tfPsR3 (And.intro f0 (And.intro f1 (And.intro f4 (And.intro f5 (And.intro f6 (And.intro hA (And.intro @pI.eq_1 g3)))))))) ?_
     (repeat revert X); refine wE (And.intro tfPsR3 (And.intro f0 (And.intro f1 (And.intro f4 (And.intro f5 (And.intro f6 (And.intro hA (And.intro @pI.eq_1 g3)))))))) ?_; repeat intro X hX
     refine callM (qoper_any hL a _ xA r.2 b3.ok d) ?_
     rintro v m' ⟨rfl, rfl⟩
     refine wS (And.intro tfPsR3 (And.intro f0 (And.intro f1 (And.intro f4 (And.intro f5 (And.intro f6 (And.intro hA (And.intro @pI.eq_1 g3)))))))) ?_
     (repeat revert X); refine wE (And.intro tfPsR3 (And.intro f0 (And.intro f1 (And.intro f4 (And.intro f5 (And.intro f6 (And.intro hA (And.intro @pI.eq_1 g3)))))))) ?_; repeat intro X hX
     refine callM (qstr_any _ hrng2 _) ?_
     rintro v m' ⟨rfl, rfl⟩
     cases c4 with
     | false =>
      rw [if_neg (by simp)] at hun
      refine wS (And.intro tfPsR3 (And.intro f0 (And.intro f1 (And.intro f4 (And.intro f5 (And.intro f6 (And.intro hA (And.intro @pI.eq_1 (And.intro g3 g4))))))))) ?_
      (repeat revert X); refine wE (And.intro tfPsR3 (And.intro f0 (And.intro f1 (And.intro f4 (And.intro f5 (And.intro f6 (And.intro hA (And.intro @pI.eq_1 (And.intro g3 g4))))))))) ?_; repeat intro X hX
      refine hW n _ _ (by omega) ?_
      rw [hI]
      exact ⟨_, r.2, .full, .full, b3.ok, by omega, by omega, by rw [hr, hun], f0, f1, f4, f5, f6, by rw [bx, Ex.pv_eq e1]⟩
     | true =>
      rw [if_pos rfl] at hun
      have a5 := here_adv hL b3.ok 2
      have m5 := mu_le a5
      refine wS (And.intro tfPsR3 (And.intro f0 (And.intro f1 (And.intro f4 (And.intro f5 (And.intro f6 (And.intro hA (And.intro @pI.eq_1 (And.intro g3 g4))))))))) ?_
      (repeat revert X); refine wE (And.intro tfPsR3 (And.intro f0 (And.intro f1 (And.intro f4 (And.intro f5 (And.intro f6 (And.intro hA (And.intro @pI.eq_1 (And.intro g3 g4))))))))) ?_; repeat intro X hX
      refine callM (qhere_any hL a _ xA _ b3.ok d 2) ?_
      rintro v m' rfl
      refine wS (And.intro tfPsR3 (And.intro f0 (And.intro f1 (And.intro f4 (And.intro f5 (And.intro f6 (And.intro hA @pI.eq_1))))))) ?_
      (repeat revert X); refine wE (And.intro tfPsR3 (And.intro f0 (And.intro f1 (And.intro f4 (And.intro f5 (And.intro f6 (And.intro hA @pI.eq_1))))))) ?_; repeat intro X hX
      refine hW n _ _ (by omega) ?_
      rw [hI]
      exact ⟨_, r.2.here L 2, .full, .full, a5.ok, by omega, by omega, by rw [hr, hun], f0, f1, f4, f5, f6, by rw [bx, Ex.pv_eq e1]⟩
set_option maxHeartbeats 8000000 in
theorem qunary_step (a : Nat) (m : M) (hA : a < m.nb) (s : PS) (hs : s.ok L) (d : Int) (hd : (0 ≤ d ∧ d ≤ 65) ∧ (s.k = 0 → d ≤ 64)) (hf : mu L s + 2 ≤ f + 1) : ACalls Tryz.prog 94 [.bp a 0] (qst L a m s d) (fun v m' => v = (rUnary L (f + 1) d s).1.pv ∧ m' = qst L a m (rUnary L (f + 1) d s).2 d) := by
 have hsk : ∀ (s : PS) w, s.skp L w = if s.is L w then s.nx else s := fun _ _ => rfl
 cases h0 : (s.k == 0) with
 | false =>
  have hun : rUnary L (f + 1) d s = (z0, s) := by rw [rUnary]; simp only [h0]; rfl
  rw [hun]
  refine eN [2, 4] Tryz.func94 ?_
  (repeat revert X); refine wE (And.intro tfPsR3 (And.intro hA h0)) ?_; repeat intro X hX
  refine wQ Tryz.results94 (And.intro tfPsR3 hA) ?_
  exact leave_qst hA (.refl m) rfl ⟨by rw [Ex.pv_eq]; rfl, rfl⟩
 | true =>
 have k0 : s.k = 0 := by simpa using h0
 have hd4 : 0 ≤ d ∧ d ≤ 64 := ⟨hd.1.1, hd.2 k0⟩
 have hcu := (IH f (Nat.le_refl _)).unary a
 have hca := (IH f (Nat.le_refl _)).atom a
 have hi9 : IntKind.i64.wrap (d + 1 - 1) = d := by rw [wrap64 (by omega)]; omega
 obtain ⟨t, ht⟩ : ∃ t, s.tk L = t := ⟨_, rfl⟩
 have hun : rUnary L (f + 1) d s = (if s.is L wNot then (.mk 6 1 0 ⟨#[]⟩ [] [(rUnary L f (d + 1) (rOpen L d s.nx)).1] t.line t.col, (rUnary L f (d + 1) (rOpen L d s.nx)).2)
     else if s.is L wMinus then (if (s.nx.tk L).kind == 1 then rWhen L L.length (.mk 1 0 (w32 (0 - (s.nx.tk L).n)) ⟨#[]⟩ [] [] t.line t.col) s.nx.nx else (.mk 6 2 0 ⟨#[]⟩ [] [(rUnary L f (d + 1) (rOpen L d s.nx)).1] t.line t.col, (rUnary L f (d + 1) (rOpen L d s.nx)).2))
     else if s.is L wPre then (.mk 10 0 0 ⟨#[]⟩ [] [(rUnary L f (d + 1) (rOpen L d s.nx)).1] t.line t.col, (rUnary L f (d + 1) (rOpen L d s.nx)).2)
     else rWhen L L.length (rAtom L f d s).1 (rAtom L f d s).2) := by rw [rUnary]; simp only [h0, ht]; rfl
 have opn : (s.is L wNot = true ∨ s.is L wMinus = true ∨ s.is L wPre = true) → s.nx.ok L ∧ (rOpen L d s.nx).ok L ∧ ((rOpen L d s.nx).k = 0 → d + 1 ≤ 64) ∧ mu L (rOpen L d s.nx) + 2 ≤ f := fun h => by
  have hw : ∃ w, s.is L w = true := by rcases h with h | h | h <;> exact ⟨_, h⟩
  obtain ⟨w, hw⟩ := hw
  have a1 := is_adv hL hs hw
  have m1 := mu_nx hL hs k0 (is_of hw).2.1
  have a2 := open_adv hL a1.ok d
  have m2 := mu_le a2
  refine ⟨a1.ok, a2.ok, fun hk => ?_, by omega⟩
  unfold rOpen at hk
  split at hk
  ·exact absurd hk (fail_k (by decide))
  ·omega
 have hEQ : ∀ (k o : Int) (x : Ex), Ex.pv (.mk k o 0 ⟨#[]⟩ [] [x] t.line t.col) = .ag [.v (.int .u8 k), .v (.int .u8 o), .v (.int .i32 0), .v (.string ⟨#[]⟩), .sl .no [], .sl .no [x.pv], .v (.int .i64 t.line), .v (.int .i64 t.col)] := fun k o x => by
  rw [Ex.pv_eq]; rfl
 have tail : ∀ {X : F → M → Prop} {g : F} {k o : Int}, True := fun {_ _ _ _} => trivial
 refine eN [2, 4] Tryz.func94 ?_
 (repeat revert X); refine wE (And.intro tfPsR3 (And.intro hA h0)) ?_; repeat intro X hX
 refine callM (qtok_any hL a _ xA s hs d) ?_
 rintro v m' ⟨rfl, rfl⟩
 rw [ht]
 refine wS (And.intro tfPsR3 hA) ?_
 (repeat revert X); refine wE (And.intro tfPsR3 hA) ?_; repeat intro X hX
 refine callM (qskip_any hL a _ xA s hs d wNot) ?_
 rintro v m' ⟨rfl, rfl⟩
 rw [hsk]
 cases h1 : s.is L wNot with
 | true =>
  obtain ⟨o1, o2, o3, o4⟩ := opn (.inl h1)
  rw [h1, if_pos rfl] at hun
  rw [if_pos rfl]
  refine wS (And.intro tfPsR3 (And.intro hA @pB.eq_1)) ?_
  (repeat revert X); refine wE (And.intro tfPsR3 (And.intro hA @pB.eq_1)) ?_; repeat intro X hX
  refine callM (qopen_any hL a _ xA s.nx o1 d ⟨hd4.1, by omega⟩) ?_
  rintro v m' rfl
  refine wS (And.intro tfPsR3 hA) ?_
  (repeat revert X); refine wE (And.intro tfPsR3 hA) ?_; repeat intro X hX
  refine callM (hcu _ xA _ o2 (d + 1) ⟨⟨by omega, by omega⟩, o3⟩ o4) ?_
  rintro v m' ⟨rfl, rfl⟩
  generalize rUnary L f (d + 1) (rOpen L d s.nx) = x at *
  refine wS (And.intro tfPsR3 hA) ?_
  (repeat revert X); refine wE (And.intro tfPsR3 (And.intro hA hi9)) ?_; repeat intro X hX
  refine wQ Tryz.results94 (And.intro tfPsR3 hA) ?_
  exact leave_qst hA (.refl m) (by simp only [PV.settle, PV.settles, Ex.settle_pv, PV.pure, PV.pures, Ex.pure_pv, Bool.and_self]; rfl) ⟨by rw [hun, hEQ]; simp only [PV.settle, PV.settles, Ex.settle_pv], by rw [hun]⟩
 | false =>
 rw [h1, if_neg (by simp)] at hun
 rw [if_neg (by simp)]
 refine wS (And.intro tfPsR3 (And.intro hA @pB.eq_1)) ?_
 (repeat revert X); refine wE (And.intro tfPsR3 (And.intro hA @pB.eq_1)) ?_; repeat intro X hX
 refine callM (qskip_any hL a _ xA s hs d wMinus) ?_
 rintro v m' ⟨rfl, rfl⟩
 rw [hsk]
 cases h2 : s.is L wMinus with
 | true =>
  obtain ⟨o1, o2, o3, o4⟩ := opn (.inr (.inl h2))
  rw [h2, if_pos rfl] at hun
  rw [if_pos rfl]
  refine wS (And.intro tfPsR3 (And.intro hA @pB.eq_1)) ?_
  (repeat revert X); refine wE (And.intro tfPsR3 (And.intro hA @pB.eq_1)) ?_; repeat intro X hX
  refine callM (qtok_any hL a _ xA s.nx o1 d) ?_
  rintro v m' ⟨rfl, rfl⟩
  have hmem := tk_mem o1
  generalize hu : s.nx.tk L = u at *
  obtain ⟨c1, g1⟩ : ∃ b, (u.kind == 1) = b := ⟨_, rfl⟩
  rw [g1] at hun
  cases c1 with
  | true =>
   rw [if_pos rfl] at hun
   have hk1 : (s.nx.tk L).kind ≠ 0 := by rw [hu]; have : u.kind = 1 := by simpa using g1
                                         omega
   have a2 := nx_adv hL o1 k0 hk1
   have hi : IntKind.i64.wrap ((s.nx.i : Int) + 1) = ((s.nx.i + 1 : Nat) : Int) := by have := o1.lt; have := hL.le; rw [wrap64 (by omega)]; omega
   refine wS (And.intro tfPsR3 (And.intro hA g1)) ?_
   (repeat revert X); refine wE (And.intro tfPsR3 (And.intro hA (And.intro g1 hi))) ?_; repeat intro X hX
   refine aDrw (fun _ => True) (by kernel_rfl) trivial ?_; simp -implicitDefEqProofs only [forall_eq, eq_self, ↓slp, slb, ↓reduceIte, reduceCtorEq, jA, jB, jC, jD, jE, jF, jG, jH, jI, jJ, jK, tfPsR3, hA]
   refine callM (qun_any u.n (hL.rng u hmem) _) ?_
   rintro v m' ⟨rfl, rfl⟩
   simp -implicitDefEqProofs only [↓slp, slb, ↓reduceIte, reduceCtorEq, jA, jB, jC, jD, jE, jF, jG, jH, jI, jJ, jK, tfPsR3, hA, eq_self, forall_const]
   refine callMS (qwhen_any hL a _ xA s.nx.nx a2.ok d (.mk 1 0 (w32 (0 - u.n)) ⟨#[]⟩ [] [] t.line t.col)) (by rw [Ex.pv_eq]; rfl) ?_
   rintro v m' ⟨rfl, rfl⟩
   generalize rWhen L L.length (.mk 1 0 (w32 (0 - u.n)) ⟨#[]⟩ [] [] t.line t.col) s.nx.nx = y at *
   simp -implicitDefEqProofs only [↓slp, slb, ↓reduceIte, reduceCtorEq, jA, jB, jC, jD, jE, jF, jG, jH, jI, jJ, jK, tfPsR3, hA, eq_self, forall_const]; try simp only [fo]
   (repeat revert X); refine wE aEQ_t ?_; repeat intro X hX
   refine wQ Tryz.results94 (And.intro tfPsR3 hA) ?_
   exact leave_qstE hA (.refl m) ⟨by rw [hun], by rw [hun]⟩
  | false =>
   rw [if_neg (by simp)] at hun
   refine wS (And.intro tfPsR3 (And.intro hA g1)) ?_
   (repeat revert X); refine wE (And.intro tfPsR3 (And.intro hA g1)) ?_; repeat intro X hX
   refine callM (qopen_any hL a _ xA s.nx o1 d ⟨hd4.1, by omega⟩) ?_
   rintro v m' rfl
   refine wS (And.intro tfPsR3 hA) ?_
   (repeat revert X); refine wE (And.intro tfPsR3 hA) ?_; repeat intro X hX
   refine callM (hcu _ xA _ o2 (d + 1) ⟨⟨by omega, by omega⟩, o3⟩ o4) ?_
   rintro v m' ⟨rfl, rfl⟩
   generalize rUnary L f (d + 1) (rOpen L d s.nx) = x at *
   refine wS (And.intro tfPsR3 hA) ?_
   (repeat revert X); refine wE (And.intro tfPsR3 (And.intro hA hi9)) ?_; repeat intro X hX
   refine wQ Tryz.results94 (And.intro tfPsR3 hA) ?_
   exact leave_qst hA (.refl m) (by simp only [PV.settle, PV.settles, Ex.settle_pv, PV.pure, PV.pures, Ex.pure_pv, Bool.and_self]; rfl) ⟨by rw [hun, hEQ]; simp only [PV.settle, PV.settles, Ex.settle_pv], by rw [hun]⟩
 | false =>
 rw [h2, if_neg (by simp)] at hun
 rw [if_neg (by simp)]
 refine wS (And.intro tfPsR3 (And.intro hA @pB.eq_1)) ?_
 (repeat revert X); refine wE (And.intro tfPsR3 (And.intro hA @pB.eq_1)) ?_; repeat intro X hX
 refine callM (qskip_any hL a _ xA s hs d wPre) ?_
 rintro v m' ⟨rfl, rfl⟩
 rw [hsk]
 cases h3 : s.is L wPre with
 | true =>
  obtain ⟨o1, o2, o3, o4⟩ := opn (.inr (.inr h3))
  rw [h3, if_pos rfl] at hun
  rw [if_pos rfl]
  refine wS (And.intro tfPsR3 (And.intro hA @pB.eq_1)) ?_
  (repeat revert X); refine wE (And.intro tfPsR3 (And.intro hA @pB.eq_1)) ?_; repeat intro X hX
  refine callM (qopen_any hL a _ xA s.nx o1 d ⟨hd4.1, by omega⟩) ?_
  rintro v m' rfl
  refine wS (And.intro tfPsR3 hA) ?_
  (repeat revert X); refine wE (And.intro tfPsR3 hA) ?_; repeat intro X hX
  refine callM (hcu _ xA _ o2 (d + 1) ⟨⟨by omega, by omega⟩, o3⟩ o4) ?_
  rintro v m' ⟨rfl, rfl⟩
  generalize rUnary L f (d + 1) (rOpen L d s.nx) = x at *
  refine wS (And.intro tfPsR3 hA) ?_
  (repeat revert X); refine wE (And.intro tfPsR3 (And.intro hA hi9)) ?_; repeat intro X hX
  refine wQ Tryz.results94 (And.intro tfPsR3 hA) ?_
  exact leave_qst hA (.refl m) (by simp only [PV.settle, PV.settles, Ex.settle_pv, PV.pure, PV.pures, Ex.pure_pv, Bool.and_self]; rfl) ⟨by rw [hun, hEQ]; simp only [PV.settle, PV.settles, Ex.settle_pv], by rw [hun]⟩
 | false =>
 rw [h3, if_neg (by simp)] at hun
 rw [if_neg (by simp)]
 obtain ⟨a1, a2⟩ := (exL hL f).atom d s hs k0 (by omega)
 refine wS (And.intro tfPsR3 (And.intro hA @pB.eq_1)) ?_
 (repeat revert X); refine wE (And.intro tfPsR3 (And.intro hA @pB.eq_1)) ?_; repeat intro X hX
 refine callM (hca _ xA s hs k0 d hd4 (by omega)) ?_
 rintro v m' ⟨rfl, rfl⟩
 generalize rAtom L f d s = x at *
 refine wS (And.intro tfPsR3 hA) ?_
 (repeat revert X); refine wE (And.intro tfPsR3 hA) ?_; repeat intro X hX
 refine callM (qwhen_any hL a _ xA x.2 a1.ok d x.1) ?_
 rintro v m' ⟨rfl, rfl⟩
 generalize rWhen L L.length x.1 x.2 = y at *
 refine wS (And.intro tfPsR3 hA) ?_
 (repeat revert X); refine wE aEQ_t ?_; repeat intro X hX
 refine wQ Tryz.results94 (And.intro tfPsR3 hA) ?_
 exact leave_qstE hA (.refl m) ⟨by rw [hun], by rw [hun]⟩
end
end Go.Proofs.YtohgdopfjkjppaaGreatDoor
