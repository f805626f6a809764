/-
 parse's reader: operators of one.
-/
-- halved
import Derived.Test.YtohgdopfjkjppaaGreatDoorAbMac
import Derived.Test.YtohgdopfjkjppaaGreatDoorPp3
set_option linter.unusedSectionVars false
set_option linter.unusedVariables false
set_option linter.unusedSimpArgs false
namespace Go.Proofs.YtohgdopfjkjppaaGreatDoor
open Nat renaming reduceEqDiff → jA, reduceAdd → jB, reduceMul → jC, reduceLT → jD, reduceLeDiff → jE, reduceBEq → jF, reduceBNe → jG
open Int renaming reduceLE → jH, reduceLT → jI, reduceToNat → jJ, reduceEq → jK
open Go
set_option maxRecDepth 20000
set_option linter.defProp false
def tfPp3b := tfPp1

section
variable {L : List Tk} (hL : TksOk L) {f : Nat} (IH : ∀ g, g ≤ f → PExC L g)
include hL IH
set_option maxHeartbeats 8000000 in
theorem punary_step (a : Nat) (m : M) (hA : a < m.nb) (s : PS) (hs : s.ok L) (k0 : s.k = 0) (d : Int) (hd : 0 ≤ d ∧ d ≤ 64) (hf : mu L s + 2 ≤ f + 1) : ACallsZ Tryz.prog 91 [.bp a 0] (pst L a m s.i d) (RP L a m d (rUnary L (f + 1) d s).1.pv (rUnary L (f + 1) d s).2) (ZP L a m (rUnary L (f + 1) d s).2) := by
 have h0 : (s.k == 0) = true := by rw [k0]; rfl
 have hiK0 : IntKind.i64.wrap ((0 : Int) + 1) = 1 := rfl
 have hiK1 : IntKind.i64.wrap ((1 : Int) + 1) = 2 := rfl
 have hiK2 : IntKind.i64.wrap ((2 : Int) + 1) = 3 := rfl
 have hcu := (IH f (Nat.le_refl _)).unary a
 have hca := (IH f (Nat.le_refl _)).atom a
 have hi9 : IntKind.i64.wrap (d + 1 - 1) = d := by rw [wrap64 (by omega)]; omega
 obtain ⟨t, ht⟩ : ∃ t, s.tk L = t := ⟨_, rfl⟩
 obtain ⟨r, hr⟩ : ∃ r, rUnary L (f + 1) d s = r := ⟨_, rfl⟩
 rw [hr]
 have hun : r = (if s.is L wNot then (.mk 6 1 0 ⟨#[]⟩ [] [(rUnary L f (d + 1) (rOpen L d s.nx)).1] t.line t.col, (rUnary L f (d + 1) (rOpen L d s.nx)).2)
     else if s.is L wMinus then (if (s.nx.tk L).kind == 1 then rWhen L L.length (.mk 1 0 (w32 (0 - (s.nx.tk L).n)) ⟨#[]⟩ [] [] t.line t.col) s.nx.nx else (.mk 6 2 0 ⟨#[]⟩ [] [(rUnary L f (d + 1) (rOpen L d s.nx)).1] t.line t.col, (rUnary L f (d + 1) (rOpen L d s.nx)).2))
     else if s.is L wPre then (.mk 10 0 0 ⟨#[]⟩ [] [(rUnary L f (d + 1) (rOpen L d s.nx)).1] t.line t.col, (rUnary L f (d + 1) (rOpen L d s.nx)).2)
     else rWhen L L.length (rAtom L f d s).1 (rAtom L f d s).2) := by rw [← hr, rUnary]; simp only [h0, ht]; rfl
 have opn : (s.is L wNot = true ∨ s.is L wMinus = true ∨ s.is L wPre = true) → s.nx.ok L ∧ (rOpen L d s.nx).ok L ∧ mu L (rOpen L d s.nx) + 2 ≤ f ∧ Adv L (rOpen L d s.nx) (rUnary L f (d + 1) (rOpen L d s.nx)).2 := fun h => by
  have hw : ∃ w, s.is L w = true := by rcases h with h | h | h <;> exact ⟨_, h⟩
  obtain ⟨w, hw⟩ := hw
  have a1 := is_adv hL hs hw
  have m1 := mu_nx hL hs k0 (is_of hw).2.1
  have a2 := open_adv hL a1.ok d
  have m2 := mu_le a2
  exact ⟨a1.ok, a2.ok, by omega, ((exL hL f).unary (d + 1) _ a2.ok (by omega)).1⟩
 refine ACallsZ.enterWD (h := 32) (dargs := [.bp a 0]) (Z1 := noZ) (Q := ShutQ L a) ok_mix Tryz.func91 rfl (by kernel_rfl) (by kernel_rfl) (by simp only [List.length_cons, List.length_nil, Tryz.ntmps91]; omega) (fun m2 m3 h => shut_dany m2 m3 h) ?_
 refine WD.sq ok_mix [2] (by kernel_rfl) fun X hX => ?_
 (repeat (first | refine aReg ?_; simp -implicitDefEqProofs only [↓slp, slb, ↓reduceIte, tfPp3b, hA] | apply hX; clear hX X))
 refine WD.sq ok_mix [2] (by kernel_rfl) fun X hX => ?_
 (repeat revert X); refine wE aEQ_t ?_; repeat intro X hX
 refine callM (ptok_any hL a _ xA s hs d) ?_
 rintro v m' ⟨rfl, rfl⟩
 rw [ht]
 refine wS tfPp3b ?_
 (repeat (apply hX; clear hX X))
 refine WD.seq ?_
 refine WD.sq ok_mix [2] (by kernel_rfl) fun X hX => ?_
 (repeat (first | refine aReg ?_; simp -implicitDefEqProofs only [↓slp, slb, ↓reduceIte, jA, jB, jD, jE, jF, tfPp3b] | apply hX; clear hX X))
 refine WD.block ?_
 obtain ⟨I, hI⟩ : ∃ I : F → M → Prop, ∀ g m', I g m' = (∃ k : Int, 0 ≤ k ∧ k ≤ 3 ∧ (0 < k → s.is L wNot = false) ∧ (1 < k → s.is L wMinus = false) ∧ (2 < k → s.is L wPre = false) ∧ g 0 = .bp a 0 ∧ g 2 = .bp m.nb 0 ∧ g 3 = .ep [.v (.int .i64 t.line), .v (.int .i64 t.col)] ∧ g 13 = .ag [.v (.int .u8 6), .v (.int .u8 1), .v (.int .i32 0), .v (.string wNot), .sl .full [], .sl .full [], .v (.int .i64 0), .v (.int .i64 0), .v (.int .u8 6), .v (.int .u8 2), .v (.int .i32 0), .v (.string wMinus), .sl .full [], .sl .full [], .v (.int .i64 0), .v (.int .i64 0), .v (.int .u8 10), .v (.int .u8 0), .v (.int .i32 0), .v (.string wPre), .sl .full [], .sl .full [], .v (.int .i64 0), .v (.int .i64 0)] ∧ g 14 = .v (.int .i64 k) ∧ m' = pst L a (m.ext [some [.v (.int .u8 0), .v (.int .u8 0), .v (.int .i32 0), .v (.string ⟨#[]⟩), .sl .full [], .sl .full [], .v (.int .i64 0), .v (.int .i64 0)]]) s.i d) := ⟨_, fun _ _ => rfl⟩
 refine WD.loop I (fun g _ => 3 - numOf (g 14)) ?_ ?_
 ·rw [hI]; exact ⟨0, by decide, by decide, fun h => by omega, fun h => by omega, fun h => by omega, rfl, rfl, rfl, rfl, rfl, rfl⟩
 intro g m' hrel
 rw [hI] at hrel
 obtain ⟨k, hk0, hk3, n1, n2, n3, f0, f2, f3, f13, f14, rfl⟩ := hrel
 have hk4 : k = 0 ∨ k = 1 ∨ k = 2 ∨ k = 3 := by omega
 rcases hk4 with rfl | rfl | rfl | rfl
 ·
  refine WD.sq ok_mix [2] (by kernel_rfl) fun X hX => ?_
  (repeat (first | refine aReg ?_; simp -implicitDefEqProofs only [↓slp, slb, ↓reduceIte, jF, jI, jJ, f14, Int.reduceLT] | apply hX; clear hX X))
  refine WD.sq ok_mix [2] (by kernel_rfl) fun X hX => ?_
  (repeat (first | refine aSkip ?_ | refine aIf ?_; simp -implicitDefEqProofs only [slb, ↓reduceIte, reduceCtorEq, jJ, f14] | apply hX; clear hX X))
  refine WD.seq (WD.block ?_)
  refine WD.sq ok_mix [2] (by kernel_rfl) fun X hX => ?_
  (repeat (first | refine aReg ?_; simp -implicitDefEqProofs only [↓slp, slb, ↓reduceIte, jA, jB, jC, jE, jF, jH, jJ, tfPp3b, f13, f14] | apply hX; clear hX X))
  refine WD.sq ok_mix [2] (by kernel_rfl) fun X hX => ?_
  (repeat revert X); refine wE (And.intro tfPp3b f0) ?_; repeat intro X hX
  refine callM (pis_any hL a _ xA s hs d k0 wNot) ?_
  rintro v m' ⟨rfl, rfl⟩
  cases h1 : s.is L wNot with
  | false =>
   refine wS (And.intro f14 @pB.eq_1) ?_
   (repeat (first | refine aExit ?_; try simp only [slx, ↓reduceIte, jA, reduceCtorEq] | refine aIf ?_; simp -implicitDefEqProofs only [slb, ↓reduceIte, reduceCtorEq, jJ, f14] | apply hX; clear hX X))
   simp -implicitDefEqProofs only [↓reduceIte, aThenD_n, aBlockD_e]
   refine WD.plain (mu := [2]) ok_mix (by kernel_rfl) ?_
   (repeat (refine aReg ?_; simp -implicitDefEqProofs only [↓slp, slb, ↓reduceIte, jA, jF, f14, Int.reduceAdd]))
   simp -implicitDefEqProofs only [slb, ↓reduceIte, aThenD_n]
   rw [hI]
   refine ⟨⟨1, by decide, by decide, fun _ => h1, fun h => by omega, fun h => by omega, f0, f2, f3, f13, rfl, rfl⟩, ?_⟩
   decide
  | true =>
   have hiN : IntKind.i64.wrap ((s.i : Int) + 1) = ((s.i + 1 : Nat) : Int) := by have := hs.lt; have := hL.le; rw [wrap64 (by omega)]; omega
   obtain ⟨o1, o2, o3, e8⟩ := opn (.inl h1)
   rw [h1, if_pos rfl] at hun
   refine wS (And.intro f14 @pB.eq_1) ?_
   (repeat (first | refine aSkip ?_ | refine aIf ?_; simp -implicitDefEqProofs only [slb, ↓reduceIte, jJ, f14] | apply hX; clear hX X))
   refine WD.sq ok_mix [2] (by kernel_rfl) fun X hX => ?_
   (repeat (first | refine aReg ?_; simp -implicitDefEqProofs only [↓slp, slb, ↓reduceIte, reduceCtorEq, jA, jB, jD, jE, jF, jJ, tfPp3b, f0, f14, hA, hiN] | apply hX; clear hX X))
   refine WD.sq ok_mix [2] (by kernel_rfl) fun X hX => ?_
   (repeat revert X); refine wE f0 ?_; repeat intro X hX
   refine callM (ptok_any hL a _ xA s.nx o1 d) ?_
   rintro v m' ⟨rfl, rfl⟩
   refine wS (And.intro tfPp3b f14) ?_
   (repeat (first | refine aSeq fun X hX => ?_ | refine aSkip ?_ | (first | apply aReg | apply aIf); simp -implicitDefEqProofs only [↓slp, slb, ↓reduceIte, reduceCtorEq, jA, jB, jE, jF, jJ, tfPp3b, f14, Int.reduceBEq] | apply hX; clear hX X))
   have e9 : Adv L (rOpen L d s.nx) r.2 := by rw [hun]; exact e8
   refine WD.sq ok_mix [2] (by kernel_rfl) fun X hX => ?_
   (repeat revert X); refine wE f0 ?_; repeat intro X hX
   refine callP (popen_any hL a _ xA s.nx o1 d k0 ⟨hd.1, by omega⟩) (by first | exact zz hA (.refl m) (e9) | exact zz0 hA (.refl m) (e9)) ?_
   rintro v m' ⟨k1, ho, hd1, rfl⟩
   rw [ho] at hun e9 o3 e8
   refine wS f14 ?_
   (repeat (apply hX; clear hX X))
   refine WD.seq (WD.defer2 ⟨rfl, rfl⟩ (by kernel_rfl) ⟨rfl, rfl, rfl, rfl, rfl⟩ (by simp -implicitDefEqProofs only [slb, ↓reduceIte, reduceCtorEq, f0]) ?_)
   refine WD.plain (mu := [2]) ok_mix (by kernel_rfl) ?_
   (repeat refine aSeq fun X hX => ?_)
   refine aDrwEZ 6 (isP L a (m.ext [some [.v (.int .u8 0), .v (.int .u8 0), .v (.int .i32 0), .v (.string ⟨#[]⟩), .sl .full [], .sl .full [], .v (.int .i64 0), .v (.int .i64 0)]]) (d + 1)) (by decide) (hne := List.cons_ne_nil _ _) rfl (by kernel_rfl) rfl rfl (by kernel_rfl) (by kernel_rfl) isP_of ?_
   simp -implicitDefEqProofs only [↓slp, slb, ↓reduceIte, reduceCtorEq, jA, jB, jC, jD, jE, jF, jJ, tfPp3b, List.dropLast_cons_cons, List.dropLast_singleton, List.getLast_cons_cons, List.getLast_singleton, List.getElem_cons_zero, List.getElem_cons_succ, f0, f3, f14]
   refine callP (hcu _ xA s.nx o1 k0 (d + 1) ⟨by omega, hd1⟩ o3) (zzd hA (.refl m) (by rw [hun]; exact .refl e8.ok)) ?_
   rintro v m' ⟨k2, rfl, rfl⟩
   generalize rUnary L f (d + 1) s.nx = x at *
   refine ⟨isP_of, ?_⟩
   refine wS (And.intro tfPp3b (And.intro f2 hA)) ?_
   (repeat (first | refine aRet ?_ | apply hX; clear hX X))
   simp -implicitDefEqProofs only [slb, ↓reduceIte, reduceCtorEq, jJ, aThenD_r, aBlockD_r, f14]
   refine ⟨.inr trivial, _, ⟨_, _, _, (by rw [ext_nb]; omega), rfl, rfl⟩, ?_⟩
   refine wR Tryz.results91 ?_
   refine wS (And.intro tfPp3b (And.intro f2 (And.intro hA hi9))) ?_
   exact leave_pstX (e := r.1) hA (.refl m) (by rw [hun]; simp only [PV.settle, PV.settles, Ex.settle_pv]; symm; exact Ex.pv_eq _) ⟨by rw [hun]; exact k2, rfl, by rw [hun]⟩
 ·
  refine WD.sq ok_mix [2] (by kernel_rfl) fun X hX => ?_
  (repeat (first | refine aReg ?_; simp -implicitDefEqProofs only [↓slp, slb, ↓reduceIte, jF, jI, jJ, f14, Int.reduceLT] | apply hX; clear hX X))
  refine WD.sq ok_mix [2] (by kernel_rfl) fun X hX => ?_
  (repeat (first | refine aSkip ?_ | refine aIf ?_; simp -implicitDefEqProofs only [slb, ↓reduceIte, reduceCtorEq, jJ, f14] | apply hX; clear hX X))
  refine WD.seq (WD.block ?_)
  refine WD.sq ok_mix [2] (by kernel_rfl) fun X hX => ?_
  (repeat (first | refine aReg ?_; simp -implicitDefEqProofs only [↓slp, slb, ↓reduceIte, jA, jB, jC, jD, jE, jF, jH, jJ, tfPp3b, f13, f14] | apply hX; clear hX X))
  refine WD.sq ok_mix [2] (by kernel_rfl) fun X hX => ?_
  (repeat revert X); refine wE (And.intro tfPp3b f0) ?_; repeat intro X hX
  refine callM (pis_any hL a _ xA s hs d k0 wMinus) ?_
  rintro v m' ⟨rfl, rfl⟩
  have q1 := n1 (by decide)
  rw [q1, if_neg (by simp)] at hun
  cases h1 : s.is L wMinus with
  | false =>
   refine wS (And.intro f14 @pB.eq_1) ?_
   (repeat (first | refine aExit ?_; try simp only [slx, ↓reduceIte, jA, reduceCtorEq] | refine aIf ?_; simp -implicitDefEqProofs only [slb, ↓reduceIte, reduceCtorEq, jJ, f14] | apply hX; clear hX X))
   simp -implicitDefEqProofs only [↓reduceIte, aThenD_n, aBlockD_e]
   refine WD.plain (mu := [2]) ok_mix (by kernel_rfl) ?_
   (repeat (refine aReg ?_; simp -implicitDefEqProofs only [↓slp, slb, ↓reduceIte, jA, jF, f14, Int.reduceAdd]))
   simp -implicitDefEqProofs only [slb, ↓reduceIte, aThenD_n]
   rw [hI]
   refine ⟨⟨2, by decide, by decide, fun _ => q1, fun _ => h1, fun h => by omega, f0, f2, f3, f13, rfl, rfl⟩, ?_⟩
   decide
  | true =>
   have hiN : IntKind.i64.wrap ((s.i : Int) + 1) = ((s.i + 1 : Nat) : Int) := by have := hs.lt; have := hL.le; rw [wrap64 (by omega)]; omega
   obtain ⟨o1, o2, o3, e8⟩ := opn (.inr (.inl h1))
   rw [h1, if_pos rfl] at hun
   refine wS (And.intro f14 @pB.eq_1) ?_
   (repeat (first | refine aSkip ?_ | refine aIf ?_; simp -implicitDefEqProofs only [slb, ↓reduceIte, jJ, f14] | apply hX; clear hX X))
   refine WD.sq ok_mix [2] (by kernel_rfl) fun X hX => ?_
   (repeat (first | refine aReg ?_; simp -implicitDefEqProofs only [↓slp, slb, ↓reduceIte, reduceCtorEq, jA, jB, jD, jE, jF, jJ, tfPp3b, f0, f14, hA, hiN] | apply hX; clear hX X))
   refine WD.sq ok_mix [2] (by kernel_rfl) fun X hX => ?_
   (repeat revert X); refine wE f0 ?_; repeat intro X hX
   refine callM (ptok_any hL a _ xA s.nx o1 d) ?_
   rintro v m' ⟨rfl, rfl⟩
   have hmem := tk_mem o1
   generalize hu : s.nx.tk L = u at *
   obtain ⟨c1, g1⟩ : ∃ b, (u.kind == 1) = b := ⟨_, rfl⟩
   rw [g1] at hun
   have hng : IntKind.i32.wrap (-u.n) = w32 (0 - u.n) := by unfold w32; rw [Int.zero_sub]
   cases c1 with
   | true =>
    rw [if_pos rfl] at hun
    have hk1 : (s.nx.tk L).kind ≠ 0 := by rw [hu]; have : u.kind = 1 := by simpa using g1
                                          omega
    have a2 := nx_adv hL o1 k0 hk1
    have hi2 : IntKind.i64.wrap ((s.nx.i : Int) + 1) = ((s.nx.nx.i : Nat) : Int) := by have := o1.lt; have := hL.le; rw [wrap64 (by omega)]; rfl
    have e9 : Adv L (rWhen L L.length (.mk 1 0 (w32 (0 - u.n)) ⟨#[]⟩ [] [] t.line t.col) s.nx.nx).2 r.2 := by rw [hun]; exact .refl (when_adv hL _ _ _ a2.ok).ok
    refine wS (And.intro tfPp3b f14) ?_
    (repeat revert X); refine wE (And.intro tfPp3b (And.intro f0 (And.intro f3 (And.intro f14 (And.intro hA (And.intro g1 hi2)))))) ?_; repeat intro X hX
    refine callPS (pwhen_any hL a _ xA s.nx.nx a2.ok k0 d (.mk 1 0 (w32 (0 - u.n)) ⟨#[]⟩ [] [] t.line t.col)) (by rw [Ex.pv_eq]; rfl) (by first | exact zz hA (.refl m) (e9) | exact zz0 hA (.refl m) (e9)) ?_
    rintro v m' ⟨k2, rfl, rfl⟩
    generalize rWhen L L.length (.mk 1 0 (w32 (0 - u.n)) ⟨#[]⟩ [] [] t.line t.col) s.nx.nx = y at *
    refine wS (And.intro tfPp3b (And.intro f2 hA)) ?_
    (repeat (first | refine aRet ?_; try simp only [slx, ↓reduceIte, jA, reduceCtorEq] | apply hX; clear hX X))
    simp -implicitDefEqProofs only [slb, ↓reduceIte, reduceCtorEq, tfPp3b, aThenD_r, aBlockD_r]; try simp only [fo]
    refine ⟨.inr trivial, ?_⟩
    refine wR Tryz.results91 ?_
    refine wS (And.intro tfPp3b (And.intro f2 hA)) ?_
    exact leave_pstE hA (.refl m) ⟨by rw [hun]; exact k2, by rw [hun], by rw [hun]⟩
   | false =>
   rw [if_neg (by simp)] at hun
   refine wS (And.intro tfPp3b f14) ?_
   (repeat (first | refine aSeq fun X hX => ?_ | refine aSkip ?_ | (first | apply aReg | apply aIf); simp -implicitDefEqProofs only [↓slp, slb, ↓reduceIte, reduceCtorEq, jA, jB, jE, jF, jJ, tfPp3b, f14, g1] | apply hX; clear hX X))
   have e9 : Adv L (rOpen L d s.nx) r.2 := by rw [hun]; exact e8
   refine WD.sq ok_mix [2] (by kernel_rfl) fun X hX => ?_
   (repeat revert X); refine wE f0 ?_; repeat intro X hX
   refine callP (popen_any hL a _ xA s.nx o1 d k0 ⟨hd.1, by omega⟩) (by first | exact zz hA (.refl m) (e9) | exact zz0 hA (.refl m) (e9)) ?_
   rintro v m' ⟨k1, ho, hd1, rfl⟩
   rw [ho] at hun e9 o3 e8
   refine wS f14 ?_
   (repeat (apply hX; clear hX X))
   refine WD.seq (WD.defer2 ⟨rfl, rfl⟩ (by kernel_rfl) ⟨rfl, rfl, rfl, rfl, rfl⟩ (by simp -implicitDefEqProofs only [slb, ↓reduceIte, reduceCtorEq, f0]) ?_)
   refine WD.plain (mu := [2]) ok_mix (by kernel_rfl) ?_
   (repeat refine aSeq fun X hX => ?_)
   refine aDrwEZ 6 (isP L a (m.ext [some [.v (.int .u8 0), .v (.int .u8 0), .v (.int .i32 0), .v (.string ⟨#[]⟩), .sl .full [], .sl .full [], .v (.int .i64 0), .v (.int .i64 0)]]) (d + 1)) (by decide) (hne := List.cons_ne_nil _ _) rfl (by kernel_rfl) rfl rfl (by kernel_rfl) (by kernel_rfl) isP_of ?_
   simp -implicitDefEqProofs only [↓slp, slb, ↓reduceIte, reduceCtorEq, jA, jB, jC, jD, jE, jF, jJ, tfPp3b, List.dropLast_cons_cons, List.dropLast_singleton, List.getLast_cons_cons, List.getLast_singleton, List.getElem_cons_zero, List.getElem_cons_succ, f0, f3, f14]
   refine callP (hcu _ xA s.nx o1 k0 (d + 1) ⟨by omega, hd1⟩ o3) (zzd hA (.refl m) (by rw [hun]; exact .refl e8.ok)) ?_
   rintro v m' ⟨k2, rfl, rfl⟩
   generalize rUnary L f (d + 1) s.nx = x at *
   refine ⟨isP_of, ?_⟩
   refine wS (And.intro tfPp3b (And.intro f2 hA)) ?_
   (repeat (first | refine aRet ?_ | apply hX; clear hX X))
   simp -implicitDefEqProofs only [slb, ↓reduceIte, reduceCtorEq, jJ, aThenD_r, aBlockD_r, f14]
   refine ⟨.inr trivial, _, ⟨_, _, _, (by rw [ext_nb]; omega), rfl, rfl⟩, ?_⟩
   refine wR Tryz.results91 ?_
   refine wS (And.intro tfPp3b (And.intro f2 (And.intro hA hi9))) ?_
   exact leave_pstX (e := r.1) hA (.refl m) (by rw [hun]; simp only [PV.settle, PV.settles, Ex.settle_pv]; symm; exact Ex.pv_eq _) ⟨by rw [hun]; exact k2, rfl, by rw [hun]⟩
 ·
  refine WD.sq ok_mix [2] (by kernel_rfl) fun X hX => ?_
  (repeat (first | refine aReg ?_; simp -implicitDefEqProofs only [↓slp, slb, ↓reduceIte, jF, jI, jJ, f14, Int.reduceLT] | apply hX; clear hX X))
  refine WD.sq ok_mix [2] (by kernel_rfl) fun X hX => ?_
  (repeat (first | refine aSkip ?_ | refine aIf ?_; simp -implicitDefEqProofs only [slb, ↓reduceIte, reduceCtorEq, jJ, f14] | apply hX; clear hX X))
  refine WD.seq (WD.block ?_)
  refine WD.sq ok_mix [2] (by kernel_rfl) fun X hX => ?_
  (repeat (first | refine aReg ?_; simp -implicitDefEqProofs only [↓slp, slb, ↓reduceIte, jA, jB, jC, jE, jF, jH, jJ, tfPp3b, f13, f14] | apply hX; clear hX X))
  refine WD.sq ok_mix [2] (by kernel_rfl) fun X hX => ?_
  (repeat revert X); refine wE (And.intro tfPp3b f0) ?_; repeat intro X hX
  refine callM (pis_any hL a _ xA s hs d k0 wPre) ?_
  rintro v m' ⟨rfl, rfl⟩
  have q1 := n1 (by decide)
  have q2 := n2 (by decide)
  rw [q1, if_neg (by simp), q2, if_neg (by simp)] at hun
  cases h1 : s.is L wPre with
  | false =>
   refine wS (And.intro f14 @pB.eq_1) ?_
   (repeat (first | refine aExit ?_; try simp only [slx, ↓reduceIte, jA, reduceCtorEq] | refine aIf ?_; simp -implicitDefEqProofs only [slb, ↓reduceIte, reduceCtorEq, jJ, f14] | apply hX; clear hX X))
   simp -implicitDefEqProofs only [↓reduceIte, aThenD_n, aBlockD_e]
   refine WD.plain (mu := [2]) ok_mix (by kernel_rfl) ?_
   (repeat (refine aReg ?_; simp -implicitDefEqProofs only [↓slp, slb, ↓reduceIte, jA, jF, f14, Int.reduceAdd]))
   simp -implicitDefEqProofs only [slb, ↓reduceIte, aThenD_n]
   rw [hI]
   refine ⟨⟨3, by decide, by decide, fun _ => q1, fun _ => q2, fun _ => h1, f0, f2, f3, f13, rfl, rfl⟩, ?_⟩
   decide
  | true =>
   have hiN : IntKind.i64.wrap ((s.i : Int) + 1) = ((s.i + 1 : Nat) : Int) := by have := hs.lt; have := hL.le; rw [wrap64 (by omega)]; omega
   obtain ⟨o1, o2, o3, e8⟩ := opn (.inr (.inr h1))
   rw [h1, if_pos rfl] at hun
   refine wS (And.intro f14 @pB.eq_1) ?_
   (repeat (first | refine aSkip ?_ | refine aIf ?_; simp -implicitDefEqProofs only [slb, ↓reduceIte, jJ, f14] | apply hX; clear hX X))
   refine WD.sq ok_mix [2] (by kernel_rfl) fun X hX => ?_
   (repeat (first | refine aReg ?_; simp -implicitDefEqProofs only [↓slp, slb, ↓reduceIte, reduceCtorEq, jA, jB, jD, jE, jF, jJ, tfPp3b, f0, f14, hA, hiN] | apply hX; clear hX X))
   refine WD.sq ok_mix [2] (by kernel_rfl) fun X hX => ?_
   (repeat revert X); refine wE f0 ?_; repeat intro X hX
   refine callM (ptok_any hL a _ xA s.nx o1 d) ?_
   rintro v m' ⟨rfl, rfl⟩
   refine wS (And.intro tfPp3b f14) ?_
   (repeat (first | refine aSeq fun X hX => ?_ | refine aSkip ?_ | (first | apply aReg | apply aIf); simp -implicitDefEqProofs only [↓slp, slb, ↓reduceIte, reduceCtorEq, jA, jB, jE, jF, jJ, tfPp3b, f14, Int.reduceBEq] | apply hX; clear hX X))
   have e9 : Adv L (rOpen L d s.nx) r.2 := by rw [hun]; exact e8
   refine WD.sq ok_mix [2] (by kernel_rfl) fun X hX => ?_
   (repeat revert X); refine wE f0 ?_; repeat intro X hX
   refine callP (popen_any hL a _ xA s.nx o1 d k0 ⟨hd.1, by omega⟩) (by first | exact zz hA (.refl m) (e9) | exact zz0 hA (.refl m) (e9)) ?_
   rintro v m' ⟨k1, ho, hd1, rfl⟩
   rw [ho] at hun e9 o3 e8
   refine wS f14 ?_
   (repeat (apply hX; clear hX X))
   refine WD.seq (WD.defer2 ⟨rfl, rfl⟩ (by kernel_rfl) ⟨rfl, rfl, rfl, rfl, rfl⟩ (by simp -implicitDefEqProofs only [slb, ↓reduceIte, reduceCtorEq, f0]) ?_)
   refine WD.plain (mu := [2]) ok_mix (by kernel_rfl) ?_
   (repeat refine aSeq fun X hX => ?_)
   refine aDrwEZ 6 (isP L a (m.ext [some [.v (.int .u8 0), .v (.int .u8 0), .v (.int .i32 0), .v (.string ⟨#[]⟩), .sl .full [], .sl .full [], .v (.int .i64 0), .v (.int .i64 0)]]) (d + 1)) (by decide) (hne := List.cons_ne_nil _ _) rfl (by kernel_rfl) rfl rfl (by kernel_rfl) (by kernel_rfl) isP_of ?_
   simp -implicitDefEqProofs only [↓slp, slb, ↓reduceIte, reduceCtorEq, jA, jB, jC, jD, jE, jF, jJ, tfPp3b, List.dropLast_cons_cons, List.dropLast_singleton, List.getLast_cons_cons, List.getLast_singleton, List.getElem_cons_zero, List.getElem_cons_succ, f0, f3, f14]
   refine callP (hcu _ xA s.nx o1 k0 (d + 1) ⟨by omega, hd1⟩ o3) (zzd hA (.refl m) (by rw [hun]; exact .refl e8.ok)) ?_
   rintro v m' ⟨k2, rfl, rfl⟩
   generalize rUnary L f (d + 1) s.nx = x at *
   refine ⟨isP_of, ?_⟩
   refine wS (And.intro tfPp3b (And.intro f2 hA)) ?_
   (repeat (first | refine aRet ?_ | apply hX; clear hX X))
   simp -implicitDefEqProofs only [slb, ↓reduceIte, reduceCtorEq, jJ, aThenD_r, aBlockD_r, f14]
   refine ⟨.inr trivial, _, ⟨_, _, _, (by rw [ext_nb]; omega), rfl, rfl⟩, ?_⟩
   refine wR Tryz.results91 ?_
   refine wS (And.intro tfPp3b (And.intro f2 (And.intro hA hi9))) ?_
   exact leave_pstX (e := r.1) hA (.refl m) (by rw [hun]; simp only [PV.settle, PV.settles, Ex.settle_pv]; symm; exact Ex.pv_eq _) ⟨by rw [hun]; exact k2, rfl, by rw [hun]⟩
 ·
  have q1 := n1 (by decide)
  have q2 := n2 (by decide)
  have q3 := n3 (by decide)
  rw [q1, if_neg (by simp), q2, if_neg (by simp), q3, if_neg (by simp)] at hun
  obtain ⟨a1, a2⟩ := (exL hL f).atom d s hs k0 (by omega)
  have a3 := when_adv hL L.length (rAtom L f d s).1 _ a1.ok
  have e2 : Adv L (rWhen L L.length (rAtom L f d s).1 (rAtom L f d s).2).2 r.2 := by rw [hun]; exact .refl a3.ok
  have e1 := a3.trans e2
  refine WD.sq ok_mix [2] (by kernel_rfl) fun X hX => ?_
  (repeat (first | refine aReg ?_; simp -implicitDefEqProofs only [↓slp, slb, ↓reduceIte, jF, jI, jJ, f14, Int.reduceLT] | apply hX; clear hX X))
  refine WD.sq ok_mix [2] (by kernel_rfl) fun X hX => ?_
  (repeat (first | refine aExit ?_; try simp only [slx, ↓reduceIte, jA, reduceCtorEq] | refine aIf ?_; simp -implicitDefEqProofs only [slb, ↓reduceIte, jJ, f14]))
  simp -implicitDefEqProofs only [↓reduceIte, aThenD_n, aThenD_e, aBlockD_e]
  refine WD.plain (mu := [2]) ok_mix (by kernel_rfl) ?_
  (repeat revert X); refine wE f0 ?_; repeat intro X hX
  refine callP (hca _ xA s hs k0 d hd (by omega)) (by first | exact zz hA (.refl m) (e1) | exact zz0 hA (.refl m) (e1)) ?_
  rintro v m' ⟨k1, rfl, rfl⟩
  generalize rAtom L f d s = x at *
  refine wS aEQ_t ?_
  (repeat (first | refine aSeq fun X hX => ?_ | apply aBlk | refine aSkip ?_ | (first | refine aExit ?_ | refine aRet ?_); try simp only [slx, ↓reduceIte, jA, reduceCtorEq] | (first | apply aReg | apply aIf); simp -implicitDefEqProofs only [forall_eq, ↓slp, slb, ↓reduceIte, reduceCtorEq, jA, jB, jC, jD, jE, jF, jG, jH, jI, jJ, jK, tfPp3b, f0, f2, f3, f13, f14, hA, Int.reduceLT, Int.reduceAdd, Int.reduceBEq, decide_true, decide_false]; try simp only [fo] | apply hX; clear hX X | clear hX X; apply hX; clear hX X | clear hX X; clear hX X; apply hX; clear hX X | intro hlen; unfold maxLen at hlen | apply And.intro; · first | assumption | and_intros <;> first | omega | assumption))
  refine callP (pwhen_any hL a _ xA x.2 a1.ok k1 d x.1) (by first | exact zz hA (.refl m) (e2) | exact zz0 hA (.refl m) (e2)) ?_
  rintro v m' ⟨k2, rfl, rfl⟩
  generalize rWhen L L.length x.1 x.2 = y at *
  refine wS (And.intro tfPp3b (And.intro f2 hA)) ?_
  (repeat (first | refine aRet ?_; try simp only [slx, ↓reduceIte, jA, reduceCtorEq] | apply hX; clear hX X))
  simp -implicitDefEqProofs only [tfPp3b]; try simp only [fo]
  refine ⟨.inr trivial, ?_⟩
  simp only [aPost, Tryz.results91, aRes_n, aRes_t, aRes_c, pack_one, pack_two]
  refine wS (And.intro tfPp3b (And.intro f2 hA)) ?_
  exact leave_pstE hA (.refl m) ⟨by rw [hun]; exact k2, by rw [hun], by rw [hun]⟩
end
end Go.Proofs.YtohgdopfjkjppaaGreatDoor
