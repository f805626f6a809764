/-
 Texts that belong together: Pp8, Pp9.
-/
-- halved
import Derived.Test.YtohgdopfjkjppaaGreatDoorAbMac
import Derived.Test.YtohgdopfjkjppaaGreatDoorPB
import Derived.Test.YtohgdopfjkjppaaGreatDoorRD
set_option linter.unusedSectionVars false
set_option linter.unusedVariables false
set_option linter.unusedSimpArgs false
namespace Go.Proofs.YtohgdopfjkjppaaGreatDoor
open Nat renaming reduceEqDiff → jA, reduceAdd → jB, reduceMul → jC, reduceLT → jD, reduceLeDiff → jE, reduceBEq → jF, reduceBNe → jG
open Int renaming reduceLE → jH, reduceLT → jI, reduceToNat → jJ, reduceEq → jK
open Go
set_option maxRecDepth 20000
set_option linter.defProp false
def tfPp8 := And.intro @tfA (And.intro @Ex.settle_pv (And.intro @Ex.pure_pv (And.intro @Ex.cells_pv (And.intro @Ex.cs.eq_1 (And.intro @On.pv.eq_1 (And.intro @Ty.pv.eq_1 (And.intro @Va.settle_pv (And.intro @Va.pure_pv (And.intro @Va.cells_pv (And.intro @Va.cs.eq_1 (And.intro @Tk.settle_pv (And.intro @Tk.pure_pv (And.intro @Tk.cells_pv (And.intro @Tk.pv.eq_1 (And.intro @Tk.cs.eq_1 (And.intro @Tr.settle_pv (And.intro @Tr.pure_pv (And.intro @Tr.cells_pv (And.intro @Qu.settle_pv (And.intro @Qu.pure_pv (And.intro @Qu.cells_pv (And.intro @Am.settle_pv (And.intro @Am.pure_pv (And.intro @Am.cells_pv (And.intro @pst_nb (And.intro @pst_nt (And.intro @pst_fresh (And.intro @pst_use (And.intro @pst_free (And.intro @pst_alive (And.intro @pst_a (And.intro @pst_upda (And.intro @pst_ext (And.intro @pst_ext2 (And.intro @pst_ea (And.intro @pst_own (And.intro @pst_own0 (And.intro @pst_ou @pst_ou0))))))))))))))))))))))))))))))))))))))

def M.del (m : M) (b : Nat) : M := ⟨m.boxes.set b none, m.toks⟩
def PRightC (L : List Tk) : Prop := ∀ (a b : Nat) (m : M), a < m.nb → b < m.nb → b ≠ a → ∀ (s : PS), s.ok L → s.k = 0 → ∀ (d : Int), 0 ≤ d ∧ d ≤ 64 → ∀ (lhs : List Str) (t : Tk), m.get b = some ([.v (.int .u8 0), .sl .no (lhs.map pS), .v (.string ⟨#[]⟩), .sl .full [], .v (.bool false), .v (.int .u8 0), .v (.int .u8 0), .v (.int .i32 0), .v (.string ⟨#[]⟩), .sl .full [], .sl .full [], .v (.int .i64 0), .v (.int .i64 0), .sl .full [], .v (.int .i64 t.line), .v (.int .i64 t.col)] : List PV) →
 ACallsZ Tryz.prog 136 [.bp a 0, .bp b 0] (pst L a m s.i d) (fun v m' => (rRight L d lhs t s).2.k = 0 ∧ ∃ oa on ok, (rRight L d lhs t s).1.arms = [] ∧ m' = pst L a (m.upd b (quB (rRight L d lhs t s).1 oa on ok)) (rRight L d lhs t s).2.i d) (ZP L a (m.del b) (rRight L d lhs t s).2)
structure PBlC (L : List Tk) (f : Nat) : Prop where
 block : ∀ (a : Nat) (m : M), a < m.nb → ∀ (s : PS), s.ok L → s.k = 0 → ∀ (d : Int), 0 ≤ d ∧ d ≤ 64 → mu L s + 3 ≤ f → ACallsZ Tryz.prog 134 [.bp a 0] (pst L a m s.i d) (RP L a m d (.ag [.sl .no ((rBlock L f d s).1.1.map Va.pv), .sl .no ((rBlock L f d s).1.2.map Qu.pv)]) (rBlock L f d s).2) (ZP L a m (rBlock L f d s).2)
 eqs : ∀ (a : Nat) (m : M), a < m.nb → ∀ (s : PS), s.ok L → s.k = 0 → ∀ (d : Int), 0 ≤ d ∧ d ≤ 64 → mu L s + 2 ≤ f → ACallsZ Tryz.prog 100 [.bp a 0] (pst L a m s.i d) (RP L a m d (.sl .no ((rEqs L f d [] s).1.map Qu.pv)) (rEqs L f d [] s).2) (ZP L a m (rEqs L f d [] s).2)
 eq : ∀ (a : Nat) (m : M), a < m.nb → ∀ (s : PS), s.ok L → s.k = 0 → ∀ (d : Int), 0 ≤ d ∧ d ≤ 64 → mu L s + 1 ≤ f → ACallsZ Tryz.prog 117 [.bp a 0] (pst L a m s.i d) (RP L a m d (rEq L f d s).1.pv ((rEq L f d s).2.want L wSemi)) (ZP L a m ((rEq L f d s).2.want L wSemi))
 arms : ∀ (a : Nat) (m : M), a < m.nb → ∀ (s : PS), s.ok L → s.k = 0 → ∀ (d : Int), 0 ≤ d ∧ d ≤ 64 → ∀ st : Bool, mu L s + 2 ≤ f → ACallsZ Tryz.prog 133 [.bp a 0, pB st] (pst L a m s.i d) (RP L a m d (.sl .no ((rArms L f d st s).1.map Am.pv)) (rArms L f d st s).2) (ZP L a m (rArms L f d st s).2)
section
variable {L : List Tk} (hL : TksOk L) {f : Nat} (IH : ∀ g, g ≤ f → PBlC L g)
include hL IH
set_option maxHeartbeats 8000000 in
theorem pblock_step (a : Nat) (m : M) (hA : a < m.nb) (s : PS) (hs : s.ok L) (k0 : s.k = 0) (d : Int) (hd : 0 ≤ d ∧ d ≤ 64) (hf : mu L s + 3 ≤ f + 1) : ACallsZ Tryz.prog 134 [.bp a 0] (pst L a m s.i d) (RP L a m d (.ag [.sl .no ((rBlock L (f + 1) d s).1.1.map Va.pv), .sl .no ((rBlock L (f + 1) d s).1.2.map Qu.pv)]) (rBlock L (f + 1) d s).2) (ZP L a m (rBlock L (f + 1) d s).2) := by
 have h1 := open_adv hL hs d
 have hm1 := mu_le h1
 have h2 := locals_adv hL (d := d + 1) h1.ok
 have h3 := want_adv hL h2.ok wDo
 have n2 := mu_le h2
 have n3 := want_mu hL h2.ok wDo
 have n0 := mu0 hs k0
 have h4 := (quL hL f).eqs (d + 1) [] _ h3.ok (by omega)
 have hce := (IH f (Nat.le_refl _)).eqs a
 have hi : IntKind.i64.wrap (d + 1 - 1) = d := by rw [wrap64 (by omega)]; omega
 obtain ⟨r, hr⟩ : ∃ r, rBlock L (f + 1) d s = r := ⟨_, rfl⟩
 have hun : r = (((rLocals L (d + 1) (rOpen L d s)).1, (rEqs L f (d + 1) [] ((rLocals L (d + 1) (rOpen L d s)).2.want L wDo)).1), (rEqs L f (d + 1) [] ((rLocals L (d + 1) (rOpen L d s)).2.want L wDo)).2) := by rw [← hr, rBlock]
 rw [hr]
 have e4 : Adv L (rEqs L f (d + 1) [] ((rLocals L (d + 1) (rOpen L d s)).2.want L wDo)).2 r.2 := by rw [hun]; exact .refl h4.ok
 have e3 := h4.trans e4
 have e2 := h3.trans e3
 have e1 := h2.trans e2
 refine eZ [2, 3] Tryz.func134 ?_
 (repeat revert X); refine wE (And.intro tfPp8 hA) ?_; repeat intro X hX
 refine callP (popen_any hL a _ xA s hs d k0 ⟨hd.1, by omega⟩) (by first | exact zz hA (.refl m) (e1) | exact zz0 hA (.refl m) (e1)) ?_
 rintro v m' ⟨k1, ho, hd1, rfl⟩
 rw [ho] at hun e2 e3 e4 h2 h3 h4 n2 n3
 refine wS aEQ_t ?_
 (repeat revert X); refine wE aEQ_t ?_; repeat intro X hX
 refine callP (plocals_any hL a _ xA s hs k0 (d + 1) ⟨by omega, hd1⟩) (by first | exact zz hA (.refl m) (e2) | exact zz0 hA (.refl m) (e2)) ?_
 rintro v m' ⟨k2, rfl, rfl⟩
 generalize rLocals L (d + 1) s = w at *
 refine wS (And.intro tfPp8 hA) ?_
 (repeat revert X); refine wE aEQ_t ?_; repeat intro X hX
 refine callP (pwant_any hL a _ xA _ h2.ok (d + 1) k2 wDo) (by first | exact zz hA (.refl m) (e3) | exact zz0 hA (.refl m) (e3)) ?_
 rintro v m' ⟨k3, rfl⟩
 refine wS aEQ_t ?_
 (repeat revert X); refine wE aEQ_t ?_; repeat intro X hX
 refine callP (hce _ xA _ h3.ok k3 (d + 1) ⟨by omega, hd1⟩ (by omega)) (by first | exact zz hA (.refl m) (e4) | exact zz0 hA (.refl m) (e4)) ?_
 rintro v m' ⟨k4, rfl, rfl⟩
 generalize rEqs L f (d + 1) [] (w.2.want L wDo) = q at *
 refine wS (And.intro tfPp8 hA) ?_
 (repeat revert X); refine wE aEQ_t ?_; repeat intro X hX
 refine callM (pshut_any a _ xA _ _) ?_
 rintro v m' rfl
 rw [hi]
 refine wS aEQ_t ?_
 (repeat revert X); refine wE (And.intro tfPp8 hA) ?_; repeat intro X hX
 refine wQ Tryz.results134 (And.intro tfPp8 hA) ?_
 exact leave_pst hA (.refl m) rfl ⟨by rw [hun]; exact k4, by rw [hun]; rfl, by rw [hun]⟩
set_option maxHeartbeats 8000000 in
theorem peqs_step (a : Nat) (m : M) (hA : a < m.nb) (s : PS) (hs : s.ok L) (k0 : s.k = 0) (d : Int) (hd : 0 ≤ d ∧ d ≤ 64) (hf : mu L s + 2 ≤ f + 1) : ACallsZ Tryz.prog 100 [.bp a 0] (pst L a m s.i d) (RP L a m d (.sl .no ((rEqs L (f + 1) d [] s).1.map Qu.pv)) (rEqs L (f + 1) d [] s).2) (ZP L a m (rEqs L (f + 1) d [] s).2) := by
 have hll := hL.le
 have hmx := mu_fx (L := L) (s := s)
 obtain ⟨r, hr0⟩ : ∃ r, rEqs L (f + 1) d [] s = r := ⟨_, rfl⟩
 rw [hr0]
 refine eZ [3] Tryz.func100 ?_
 (repeat revert X); refine wE tfPp8 ?_; repeat intro X hX
 obtain ⟨I, hI⟩ : ∃ I : Nat → F → M → Prop, ∀ n g m', I n g m' = (∃ (l : List Qu) (s1 : PS) (o : Own) (mm : M), s1.ok L ∧ s1.k = 0 ∧ mu L s1 + 2 ≤ n ∧ n ≤ f + 1 ∧ l.length * 16 + mu L s1 ≤ 16 * L.length + 16 ∧ r = rEqs L n d l s1 ∧ g 0 = .bp a 0 ∧ g 3 = .sl o (l.map Qu.pv) ∧ m' = pst L a mm s1.i d ∧ BaseR m mm ∧ Mine m mm o 16) := ⟨_, fun _ _ _ => rfl⟩
 refine aLoopN I (f + 1) ?_ ?_
 ·rw [hI]; exact ⟨[], s, .full, m, hs, k0, hf, Nat.le_refl _, by simp; omega, hr0.symm, rfl, rfl, rfl, .refl m, .full⟩
 clear hr0
 intro W n g m' hrel hW
 rw [hI] at hrel
 obtain ⟨l, s1, o, mm, hs1, k1, hn, hnf, hln, hr, f0, f3, rfl, htk, ho⟩ := hrel
 obtain ⟨n, rfl⟩ : ∃ k, n = k + 1 := ⟨n - 1, by omega⟩
 have hnb := htk.nb
 have hAm : a < mm.nb := by omega
 have h1 : (s1.k == 0) = true := by rw [k1]; rfl
 have hun2 : rEqs L (n + 1) d l s1 = if !((s1.tk L).kind == 2) && !s1.is L wOpen && !s1.is L wSwitch && !s1.is L wAuto && !s1.is L wReset then (l, s1) else rEqs L n d (l ++ [(rEq L n d s1).1]) ((rEq L n d s1).2.want L wSemi) := by rw [rEqs, h1, if_pos rfl]
 have b1 := (quL hL n).eq d s1 hs1 (by omega)
 have b2 := want_adv hL b1.ok wSemi
 have n0 := mu0 hs1 k1
 have n1 := mu_le b1
 have n2 := want_mu hL b1.ok wSemi
 have hfree := ho.free
 have q1 : l.length + 1 ≤ maxLen := by unfold maxLen; omega
 have q2 : (l.length + 1) * 224 ≤ 140737488355328 := by omega
 have q3 := qus_one16 l
 have hce := (IH n (by omega)).eq a
 have e2 : rEqs L (n + 1) d l s1 = rEqs L n d (l ++ [(rEq L n d s1).1]) ((rEq L n d s1).2.want L wSemi) → Adv L ((rEq L n d s1).2.want L wSemi) r.2 := fun h => by rw [hr, h]; exact (quL hL n).eqs _ _ _ b2.ok (by omega)
 (repeat revert X); refine wE f0 ?_; repeat intro X hX
 refine callM (ptok_any hL a _ xA _ hs1 d) ?_
 rintro v m' ⟨rfl, rfl⟩
 obtain ⟨c2, g2⟩ : ∃ b, ((s1.tk L).kind == 2) = b := ⟨_, rfl⟩
 have g2n : ((s1.tk L).kind != 2) = !c2 := by rw [← g2]; rfl
 rw [g2] at hun2
 refine wS tfPp8 ?_
 cases c2 with
 | true =>
  simp only [Bool.not_true, Bool.false_and, Bool.false_eq_true, if_false] at hun2
  (repeat revert X); refine wE (And.intro tfPp8 (And.intro f0 (And.intro f3 g2))) ?_; repeat intro X hX
  refine callP (hce _ xA s1 hs1 k1 d hd (by omega)) (by first | exact zzB hA (htk) (e2 hun2) | exact zzB hA ((htk).ext _) (e2 hun2)) ?_
  rintro v m' ⟨k2, rfl, rfl⟩
  generalize rEq L n d s1 = c at *
  have hpv := Qu.pv_eq c.1
  unfold Qu.cs at hpv
  rw [hpv]
  refine wS tfPp8 ?_
  (repeat (apply And.intro; focus ((repeat' apply And.intro) <;> first | omega | assumption)))
  refine hW n _ _ (by omega) ?_
  rw [hI]
  exact ⟨l ++ [c.1], c.2.want L wSemi, .tok mm.nt, _, b2.ok, k2, by omega, by omega, by simp; omega, by rw [hr, hun2], f0, by rw [List.map_append, List.map_cons, List.map_nil, hpv]; rfl, rfl, htk.fresh ho, Mine.newB htk o 16⟩
 | false =>
 (repeat revert X); refine wE (And.intro tfPp8 (And.intro f0 g2)) ?_; repeat intro X hX
 refine callM (pis_any hL a _ xA s1 hs1 d k1 wOpen) ?_
 rintro v m' ⟨rfl, rfl⟩
 cases w_wOpen : s1.is L wOpen with
 | true =>
  simp only [w_wOpen, Bool.not_true, Bool.and_false, Bool.false_and, Bool.false_eq_true, if_false] at hun2
  refine wS @pB.eq_1 ?_
  (repeat revert X); refine wE (And.intro f0 f3) ?_; repeat intro X hX
  refine callP (hce _ xA s1 hs1 k1 d hd (by omega)) (by first | exact zzB hA (htk) (e2 hun2) | exact zzB hA ((htk).ext _) (e2 hun2)) ?_
  rintro v m' ⟨k2, rfl, rfl⟩
  generalize rEq L n d s1 = c at *
  have hpv := Qu.pv_eq c.1
  unfold Qu.cs at hpv
  rw [hpv]
  refine wS tfPp8 ?_
  (repeat (apply And.intro; focus ((repeat' apply And.intro) <;> first | omega | assumption)))
  refine hW n _ _ (by omega) ?_
  rw [hI]
  exact ⟨l ++ [c.1], c.2.want L wSemi, .tok mm.nt, _, b2.ok, k2, by omega, by omega, by simp; omega, by rw [hr, hun2], f0, by rw [List.map_append, List.map_cons, List.map_nil, hpv]; rfl, rfl, htk.fresh ho, Mine.newB htk o 16⟩
 | false =>
 refine wS (And.intro f0 @pB.eq_1) ?_
 (repeat revert X); refine wE (And.intro tfPp8 (And.intro f0 (And.intro f3 (And.intro hAm (And.intro hA (And.intro g2 (And.intro g2n @pB.eq_1))))))) ?_; repeat intro X hX
 refine callM (pis_any hL a _ xA s1 hs1 d k1 wSwitch) ?_
 rintro v m' ⟨rfl, rfl⟩
 cases w_wSwitch : s1.is L wSwitch with
 | true =>
  simp only [w_wSwitch, Bool.not_true, Bool.and_false, Bool.false_and, Bool.false_eq_true, if_false] at hun2
  refine wS @pB.eq_1 ?_
  (repeat revert X); refine wE (And.intro f0 f3) ?_; repeat intro X hX
  refine callP (hce _ xA s1 hs1 k1 d hd (by omega)) (by first | exact zzB hA (htk) (e2 hun2) | exact zzB hA ((htk).ext _) (e2 hun2)) ?_
  rintro v m' ⟨k2, rfl, rfl⟩
  generalize rEq L n d s1 = c at *
  have hpv := Qu.pv_eq c.1
  unfold Qu.cs at hpv
  rw [hpv]
  refine wS tfPp8 ?_
  (repeat (apply And.intro; focus ((repeat' apply And.intro) <;> first | omega | assumption)))
  refine hW n _ _ (by omega) ?_
  rw [hI]
  exact ⟨l ++ [c.1], c.2.want L wSemi, .tok mm.nt, _, b2.ok, k2, by omega, by omega, by simp; omega, by rw [hr, hun2], f0, by rw [List.map_append, List.map_cons, List.map_nil, hpv]; rfl, rfl, htk.fresh ho, Mine.newB htk o 16⟩
 | false =>
 refine wS (And.intro f0 @pB.eq_1) ?_
 (repeat revert X); refine wE (And.intro tfPp8 (And.intro f0 (And.intro f3 (And.intro hAm (And.intro hA (And.intro g2 (And.intro g2n @pB.eq_1))))))) ?_; repeat intro X hX
 refine callM (pis_any hL a _ xA s1 hs1 d k1 wAuto) ?_
 rintro v m' ⟨rfl, rfl⟩
 cases w_wAuto : s1.is L wAuto with
 | true =>
  simp only [w_wAuto, Bool.not_true, Bool.and_false, Bool.false_and, Bool.false_eq_true, if_false] at hun2
  refine wS @pB.eq_1 ?_
  (repeat revert X); refine wE (And.intro f0 f3) ?_; repeat intro X hX
  refine callP (hce _ xA s1 hs1 k1 d hd (by omega)) (by first | exact zzB hA (htk) (e2 hun2) | exact zzB hA ((htk).ext _) (e2 hun2)) ?_
  rintro v m' ⟨k2, rfl, rfl⟩
  generalize rEq L n d s1 = c at *
  have hpv := Qu.pv_eq c.1
  unfold Qu.cs at hpv
  rw [hpv]
  refine wS tfPp8 ?_
  (repeat (apply And.intro; focus ((repeat' apply And.intro) <;> first | omega | assumption)))
  refine hW n _ _ (by omega) ?_
  rw [hI]
  exact ⟨l ++ [c.1], c.2.want L wSemi, .tok mm.nt, _, b2.ok, k2, by omega, by omega, by simp; omega, by rw [hr, hun2], f0, by rw [List.map_append, List.map_cons, List.map_nil, hpv]; rfl, rfl, htk.fresh ho, Mine.newB htk o 16⟩
 | false =>
 refine wS (And.intro f0 @pB.eq_1) ?_
 (repeat revert X); refine wE (And.intro tfPp8 (And.intro f0 (And.intro f3 (And.intro hAm (And.intro hA (And.intro g2 (And.intro g2n @pB.eq_1))))))) ?_; repeat intro X hX
 refine callM (pis_any hL a _ xA s1 hs1 d k1 wReset) ?_
 rintro v m' ⟨rfl, rfl⟩
 cases w_wReset : s1.is L wReset with
 | true =>
  simp only [w_wReset, Bool.not_true, Bool.and_false, Bool.false_and, Bool.false_eq_true, if_false] at hun2
  refine wS @pB.eq_1 ?_
  (repeat revert X); refine wE (And.intro f0 f3) ?_; repeat intro X hX
  refine callP (hce _ xA s1 hs1 k1 d hd (by omega)) (by first | exact zzB hA (htk) (e2 hun2) | exact zzB hA ((htk).ext _) (e2 hun2)) ?_
  rintro v m' ⟨k2, rfl, rfl⟩
  generalize rEq L n d s1 = c at *
  have hpv := Qu.pv_eq c.1
  unfold Qu.cs at hpv
  rw [hpv]
  refine wS tfPp8 ?_
  (repeat (apply And.intro; focus ((repeat' apply And.intro) <;> first | omega | assumption)))
  refine hW n _ _ (by omega) ?_
  rw [hI]
  exact ⟨l ++ [c.1], c.2.want L wSemi, .tok mm.nt, _, b2.ok, k2, by omega, by omega, by simp; omega, by rw [hr, hun2], f0, by rw [List.map_append, List.map_cons, List.map_nil, hpv]; rfl, rfl, htk.fresh ho, Mine.newB htk o 16⟩
 | false =>
 refine wS @pB.eq_1 ?_
 simp only [w_wOpen, w_wSwitch, w_wAuto, w_wReset, Bool.not_false, Bool.and_self, if_true] at hun2
 (repeat revert X); refine wE f3 ?_; repeat intro X hX
 refine wQ Tryz.results100 aEQ_t ?_
 exact leave_pstB hA htk rfl ⟨by rw [hr, hun2]; exact k1, by rw [hr, hun2]; rfl, by rw [hr, hun2]⟩
end

def tfPp9 := tfPp8

theorem ext_del {m : M} {bs : List (Option (List PV))} {k i : Nat} (h : m.nb = k) : (m.ext bs).del (k + i) = m.ext (bs.set i none) := by
 subst h
 unfold M.del M.ext M.nb
 congr 1
 simp only []
 rw [List.set_append_right _ _ (by omega), Nat.add_sub_cancel_left]
section
variable {L : List Tk} (hL : TksOk L) (hR : PRightC L) {f : Nat} (IH : ∀ g, g ≤ f → PBlC L g)
include hL hR IH
set_option maxHeartbeats 16000000 in
theorem peq_step (a : Nat) (m : M) (hA : a < m.nb) (s : PS) (hs : s.ok L) (k0 : s.k = 0) (d : Int) (hd : 0 ≤ d ∧ d ≤ 64) (hf : mu L s + 1 ≤ f + 1) : ACallsZ Tryz.prog 117 [.bp a 0] (pst L a m s.i d) (RP L a m d (rEq L (f + 1) d s).1.pv ((rEq L (f + 1) d s).2.want L wSemi)) (ZP L a m ((rEq L (f + 1) d s).2.want L wSemi)) := by
 have hsk : ∀ (s : PS) w, s.skp L w = if s.is L w then s.nx else s := fun _ _ => rfl
 have n0 := mu0 hs k0
 have nx : ∀ {w : Str}, s.is L w = true → Adv L s s.nx ∧ mu L s.nx + 16 ≤ mu L s := fun {w} hi => ⟨is_adv hL hs hi, mu_nx hL hs (is_of hi).1 (is_of hi).2.1⟩
 obtain ⟨t, ht⟩ : ∃ t, s.tk L = t := ⟨_, rfl⟩
 obtain ⟨r, hr⟩ : ∃ r, rEq L (f + 1) d s = r := ⟨_, rfl⟩
 have hun : r = (if s.is L wSwitch then
     (.mk 3 [] ⟨#[]⟩ [] false (eX L d s.nx).1 (rArms L f d false (eX L d s.nx).2).1 t.line t.col, (rArms L f d false (eX L d s.nx).2).2)
  else if s.is L wAuto then
   (.mk 4 [] ⟨#[]⟩ [] false z0 (rArms L f d true s.nx).1 t.line t.col, (rArms L f d true s.nx).2)
  else if s.is L wReset then
   (.mk 5 [] ⟨#[]⟩ [] false (eX L d ((rBlock L f d s.nx).2.want L wEvery)).1 [.mk ⟨#[]⟩ (rBlock L f d s.nx).1.1 (rBlock L f d s.nx).1.2 [] [] t.line t.col] t.line t.col, (eX L d ((rBlock L f d s.nx).2.want L wEvery)).2)
  else rRight L d (rLhs L s).1 t ((rLhs L s).2.want L wEq)) := by rw [← hr, rEq, ht]
 rw [hr]
 have er := (quL hL (f + 1)).eq d s hs (by omega)
 rw [hr] at er
 have ew := want_adv hL er.ok wSemi
 have e9 : Adv L (r.2.want L wSemi) (r.2.want L wSemi) := .refl ew.ok
 refine eZ [2, 3] Tryz.func117 ?_
 (repeat revert X); refine wE (And.intro tfPp9 hA) ?_; repeat intro X hX
 refine callM (ptok_any hL a _ xA s hs d) ?_
 rintro v m' ⟨rfl, rfl⟩
 rw [ht]
 refine wS (And.intro tfPp9 hA) ?_
 (repeat revert X); refine wE (And.intro tfPp9 hA) ?_; repeat intro X hX
 refine callM (pskip_any hL a _ xA s hs d k0 wSwitch) ?_
 rintro v m' ⟨rfl, rfl⟩
 rw [hsk]
 cases h1 : s.is L wSwitch with
 | true =>
  obtain ⟨a1, m1⟩ := nx h1
  have a2 := (eX_adv hL (d := d) a1.ok).1
  have m2 := mu_le a2
  have hca := (IH f (Nat.le_refl _)).arms a
  rw [h1, if_pos rfl] at hun
  have hr2 : r.2 = (rArms L f d false (eX L d s.nx).2).2 := by rw [hun]
  have a3 := (quL hL f).arms d false _ a2.ok (by omega)
  have e3 : Adv L (rArms L f d false (eX L d s.nx).2).2 (r.2.want L wSemi) := by rw [← hr2]; exact ew
  have e2 := a3.trans e3
  rw [if_pos rfl]
  refine wS (And.intro tfPp9 (And.intro hA @pB.eq_1)) ?_
  (repeat revert X); refine wE (And.intro tfPp9 (And.intro hA @pB.eq_1)) ?_; repeat intro X hX
  refine callP (peX_any hL a _ xA s.nx a1.ok k0 d hd) (by first | exact zz hA (.refl m) (e2) | exact zz0 hA (.refl m) (e2)) ?_
  rintro v m' ⟨k1, rfl, rfl⟩
  generalize eX L d s.nx = e at *
  rw [show e.1.pv = .ag [.v (.int .u8 e.1.kind), .v (.int .u8 e.1.op), .v (.int .i32 e.1.n), .v (.string e.1.name), .sl .no (e.1.names.map pS), .sl .no (e.1.kids.map Ex.pv), .v (.int .i64 e.1.line), .v (.int .i64 e.1.col)] from Ex.pv_eq e.1]
  refine wS (And.intro tfPp9 hA) ?_
  (repeat revert X); refine wE (And.intro tfPp9 hA) ?_; repeat intro X hX
  refine callP (hca _ xA _ a2.ok k1 d hd false (by omega)) (by first | exact zz hA (.refl m) (e3) | exact zz0 hA (.refl m) (e3)) ?_
  rintro v m' ⟨k2, rfl, rfl⟩
  generalize rArms L f d false e.2 = x at *
  refine wS (And.intro tfPp9 hA) ?_
  (repeat revert X); refine wE (And.intro tfPp9 hA) ?_; repeat intro X hX
  refine callP (pwant_any hL a _ xA x.2 a3.ok d k2 wSemi) (by first | exact zz hA (.refl m) ((by rw [← hr2]; exact e9)) | exact zz0 hA (.refl m) ((by rw [← hr2]; exact e9))) ?_
  rintro v m' ⟨k3, rfl⟩
  refine wS (And.intro tfPp9 hA) ?_
  (repeat revert X); refine wE (And.intro tfPp9 hA) ?_; repeat intro X hX
  refine wQ Tryz.results117 (And.intro tfPp9 hA) ?_
  exact leave_pst hA (.refl m) rfl ⟨by rw [hr2]; exact k3, by rw [hun, Qu.pv_eq]; rfl, by rw [hr2]⟩
 | false =>
 rw [h1, if_neg (by simp)] at hun
 rw [if_neg (by simp)]
 refine wS (And.intro tfPp9 (And.intro hA @pB.eq_1)) ?_
 (repeat revert X); refine wE (And.intro tfPp9 (And.intro hA @pB.eq_1)) ?_; repeat intro X hX
 refine callM (pskip_any hL a _ xA s hs d k0 wAuto) ?_
 rintro v m' ⟨rfl, rfl⟩
 rw [hsk]
 cases h2 : s.is L wAuto with
 | true =>
  obtain ⟨a1, m1⟩ := nx h2
  have hca := (IH f (Nat.le_refl _)).arms a
  rw [h2, if_pos rfl] at hun
  have hr2 : r.2 = (rArms L f d true s.nx).2 := by rw [hun]
  have a3 := (quL hL f).arms d true _ a1.ok (by omega)
  have e3 : Adv L (rArms L f d true s.nx).2 (r.2.want L wSemi) := by rw [← hr2]; exact ew
  rw [if_pos rfl]
  refine wS (And.intro tfPp9 (And.intro hA @pB.eq_1)) ?_
  (repeat revert X); refine wE (And.intro tfPp9 (And.intro hA @pB.eq_1)) ?_; repeat intro X hX
  refine callP (hca _ xA s.nx a1.ok k0 d hd true (by omega)) (by first | exact zz hA (.refl m) (e3) | exact zz0 hA (.refl m) (e3)) ?_
  rintro v m' ⟨k2, rfl, rfl⟩
  generalize rArms L f d true s.nx = x at *
  refine wS (And.intro tfPp9 hA) ?_
  (repeat revert X); refine wE (And.intro tfPp9 hA) ?_; repeat intro X hX
  refine callP (pwant_any hL a _ xA x.2 a3.ok d k2 wSemi) (by first | exact zz hA (.refl m) ((by rw [← hr2]; exact e9)) | exact zz0 hA (.refl m) ((by rw [← hr2]; exact e9))) ?_
  rintro v m' ⟨k3, rfl⟩
  refine wS (And.intro tfPp9 hA) ?_
  (repeat revert X); refine wE (And.intro tfPp9 hA) ?_; repeat intro X hX
  refine wQ Tryz.results117 (And.intro tfPp9 hA) ?_
  exact leave_pst hA (.refl m) rfl ⟨by rw [hr2]; exact k3, by rw [hun, Qu.pv_eq]; rfl, by rw [hr2]⟩
 | false =>
 rw [h2, if_neg (by simp)] at hun
 rw [if_neg (by simp)]
 refine wS (And.intro tfPp9 (And.intro hA @pB.eq_1)) ?_
 (repeat revert X); refine wE (And.intro tfPp9 (And.intro hA @pB.eq_1)) ?_; repeat intro X hX
 refine callM (pskip_any hL a _ xA s hs d k0 wReset) ?_
 rintro v m' ⟨rfl, rfl⟩
 rw [hsk]
 cases h3 : s.is L wReset with
 | true =>
  obtain ⟨a1, m1⟩ := nx h3
  have a2 := (quL hL f).block d _ a1.ok (by omega)
  have a3 := want_adv hL a2.ok wEvery
  have a4 := (eX_adv hL (d := d) a3.ok).1
  have hcb := (IH f (Nat.le_refl _)).block a
  rw [h3, if_pos rfl] at hun
  have hr2 : r.2 = (eX L d ((rBlock L f d s.nx).2.want L wEvery)).2 := by rw [hun]
  have e4 : Adv L (eX L d ((rBlock L f d s.nx).2.want L wEvery)).2 (r.2.want L wSemi) := by rw [← hr2]; exact ew
  have e3 := a4.trans e4
  have e2 := a3.trans e3
  rw [if_pos rfl]
  refine wS (And.intro tfPp9 (And.intro hA @pB.eq_1)) ?_
  (repeat revert X); refine wE (And.intro tfPp9 (And.intro hA @pB.eq_1)) ?_; repeat intro X hX
  refine aDrwPC 4 1 (isP1 L a m [.v (.int .u8 5), .sl .full [], .v (.string ⟨#[]⟩), .sl .full [], .v (.bool false), .v (.int .u8 0), .v (.int .u8 0), .v (.int .i32 0), .v (.string ⟨#[]⟩), .sl .full [], .sl .full [], .v (.int .i64 0), .v (.int .i64 0), .sl .full [], .v (.int .i64 t.line), .v (.int .i64 t.col)] d) (by decide) (by decide) (by kernel_rfl) (by kernel_rfl) (by kernel_rfl) (isP1_of rfl) ?_
  simp -implicitDefEqProofs only [↓slp, slb, ↓reduceIte, reduceCtorEq, jA, jB, jC, jD, jE, jF, jG, jH, jI, jJ, jK, tfPp9, isP1_all, forall_const, List.dropLast_cons_cons, List.dropLast_singleton, List.getLast_cons_cons, List.getLast_singleton, List.getElem_cons_zero, List.getElem_cons_succ, List.take_succ_cons, List.drop_succ_cons, List.take_zero, List.drop_zero, List.cons_append, List.nil_append, Nat.reduceSub, aSeqO.eq_1, aSeqO.eq_2, hA, pst_gx1]
  refine callP (hcb _ xA s.nx a1.ok k0 d hd (by omega)) (by first | exact zz hA (.refl m) (e2) | exact zz0 hA (.refl m) (e2)) ?_
  rintro v m' ⟨k1, rfl, rfl⟩
  generalize rBlock L f d s.nx = x at *
  refine ⟨isP1_of rfl, ?_⟩
  simp -implicitDefEqProofs only [↓slp, slb, ↓reduceIte, reduceCtorEq, jA, jB, jC, jD, jE, jF, jG, jH, jI, jJ, jK, tfPp9, isP1_all, pst_gx1, hA, aSeqO.eq_1, aSeqO.eq_2, forall_const, List.dropLast_cons_cons, List.dropLast_singleton, List.getLast_cons_cons, List.getLast_singleton, List.getElem_cons_zero, List.getElem_cons_succ, List.take_succ_cons, List.drop_succ_cons, List.take_zero, List.drop_zero]
  (repeat revert X); refine wE (And.intro tfPp9 hA) ?_; repeat intro X hX
  refine callP (pwant_any hL a _ xA _ a2.ok d k1 wEvery) (by first | exact zz hA (.refl m) (e3) | exact zz0 hA (.refl m) (e3)) ?_
  rintro v m' ⟨k2, rfl⟩
  refine wS (And.intro tfPp9 hA) ?_
  (repeat revert X); refine wE (And.intro tfPp9 hA) ?_; repeat intro X hX
  refine callP (peX_any hL a _ xA _ a3.ok k2 d hd) (by first | exact zz hA (.refl m) (e4) | exact zz0 hA (.refl m) (e4)) ?_
  rintro v m' ⟨k3, rfl, rfl⟩
  generalize eX L d (x.2.want L wEvery) = e at *
  rw [show e.1.pv = .ag [.v (.int .u8 e.1.kind), .v (.int .u8 e.1.op), .v (.int .i32 e.1.n), .v (.string e.1.name), .sl .no (e.1.names.map pS), .sl .no (e.1.kids.map Ex.pv), .v (.int .i64 e.1.line), .v (.int .i64 e.1.col)] from Ex.pv_eq e.1]
  refine wS (And.intro tfPp9 hA) ?_
  (repeat revert X); refine wE (And.intro tfPp9 hA) ?_; repeat intro X hX
  refine callP (pwant_any hL a _ xA e.2 a4.ok d k3 wSemi) (by first | exact zz hA (.refl m) ((by rw [← hr2]; exact e9)) | exact zz0 hA (.refl m) ((by rw [← hr2]; exact e9))) ?_
  rintro v m' ⟨k4, rfl⟩
  refine wS (And.intro tfPp9 hA) ?_
  (repeat revert X); refine wE (And.intro tfPp9 hA) ?_; repeat intro X hX
  refine wQ Tryz.results117 (And.intro tfPp9 hA) ?_
  obtain ⟨arm, harm⟩ : ∃ y : Am, y = .mk ⟨#[]⟩ x.1.1 x.1.2 [] [] t.line t.col := ⟨_, rfl⟩
  have hap : arm.pv = .ag [.v (.string ⟨#[]⟩), .sl .no (x.1.1.map Va.pv), .sl .no (x.1.2.map Qu.pv), .sl .no [], .sl .no [], .v (.int .i64 t.line), .v (.int .i64 t.col)] := by rw [harm, Am.pv_eq]; rfl
  have hcs : Qu.cs (.mk 5 [] ⟨#[]⟩ [] false e.1 [arm] t.line t.col) = [.v (.int .u8 5), .sl .no [], .v (.string ⟨#[]⟩), .sl .no [], .v (.bool false), .v (.int .u8 e.1.kind), .v (.int .u8 e.1.op), .v (.int .i32 e.1.n), .v (.string e.1.name), .sl .no (e.1.names.map pS), .sl .no (e.1.kids.map Ex.pv), .v (.int .i64 e.1.line), .v (.int .i64 e.1.col), .sl .no [arm.pv], .v (.int .i64 t.line), .v (.int .i64 t.col)] := rfl
  rw [← harm] at hun
  exact leave_pst hA (.refl m) rfl ⟨by rw [hr2]; exact k4, by rw [hun]; show _ = (Qu.mk 5 [] ⟨#[]⟩ [] false e.1 [arm] t.line t.col).pv; rw [Qu.pv_eq, hcs, hap]; rfl, by rw [hr2]⟩
 | false =>
 rw [h3, if_neg (by simp)] at hun
 rw [if_neg (by simp)]
 have a1 := lhs_adv hL hs
 have a2 := want_adv hL a1.ok wEq
 have hr2 : r.2 = (rRight L d (rLhs L s).1 t ((rLhs L s).2.want L wEq)).2 := by rw [hun]
 have a3 := right_adv hL (d := d) (lhs := (rLhs L s).1) (t := t) a2.ok
 have e3 : Adv L (rRight L d (rLhs L s).1 t ((rLhs L s).2.want L wEq)).2 (r.2.want L wSemi) := by rw [← hr2]; exact ew
 have e2 := a3.trans e3
 have e1 := a2.trans e2
 refine wS (And.intro tfPp9 (And.intro hA @pB.eq_1)) ?_
 (repeat revert X); refine wE (And.intro tfPp9 (And.intro hA @pB.eq_1)) ?_; repeat intro X hX
 refine callP (plhs_any hL a _ xA s hs k0 d) (by first | exact zz hA (.refl m) (e1) | exact zz0 hA (.refl m) (e1)) ?_
 rintro v m' ⟨k1, rfl, rfl⟩
 generalize rLhs L s = l at *
 refine wS (And.intro tfPp9 hA) ?_
 (repeat revert X); refine wE (And.intro tfPp9 hA) ?_; repeat intro X hX
 refine callP (pwant_any hL a _ xA _ a1.ok d k1 wEq) (by first | exact zz hA (.refl m) (e2) | exact zz0 hA (.refl m) (e2)) ?_
 rintro v m' ⟨k2, rfl⟩
 refine wS (And.intro tfPp9 hA) ?_
 (repeat revert X); refine wE (And.intro tfPp9 hA) ?_; repeat intro X hX
 refine callP (hR a (m.nb + 1) _ (by rw [ext_nb]; omega) (by rw [ext_nb]; simp) (by omega) _ a2.ok k2 d hd l.1 t (ext_get (i := 1) rfl)) (by rw [ext_del (i := 1) rfl]; exact zz hA (.refl m) e3) ?_
 rintro v m' ⟨k3, oa, on, ok, harm, rfl⟩
 rw [ext_upd (i := 1) rfl]
 simp only [List.set_cons_succ, List.set_cons_zero]
 generalize rRight L d l.1 t (l.2.want L wEq) = x at *
 refine wS (And.intro tfPp9 hA) ?_
 (repeat revert X); refine wE (And.intro tfPp9 hA) ?_; repeat intro X hX
 refine callP (pwant_any hL a _ xA x.2 a3.ok d k3 wSemi) (by first | exact zz hA (.refl m) ((by rw [← hr2]; exact e9)) | exact zz0 hA (.refl m) ((by rw [← hr2]; exact e9))) ?_
 rintro v m' ⟨k4, rfl⟩
 refine wS (And.intro tfPp9 hA) ?_
 (repeat revert X); refine wE (And.intro tfPp9 hA) ?_; repeat intro X hX
 refine wQ Tryz.results117 (And.intro tfPp9 hA) ?_
 exact leave_pst hA (.refl m) rfl ⟨by rw [hr2]; exact k4, by rw [hun, Qu.pv_eq]; unfold Qu.cs; rw [harm]; rfl, by rw [hr2]⟩
omit hR in
set_option maxHeartbeats 16000000 in
theorem parms_step (a : Nat) (m : M) (hA : a < m.nb) (s : PS) (hs : s.ok L) (k0 : s.k = 0) (d : Int) (hd : 0 ≤ d ∧ d ≤ 64) (st : Bool) (hf : mu L s + 2 ≤ f + 1) : ACallsZ Tryz.prog 133 [.bp a 0, pB st] (pst L a m s.i d) (RP L a m d (.sl .no ((rArms L (f + 1) d st s).1.map Am.pv)) (rArms L (f + 1) d st s).2) (ZP L a m (rArms L (f + 1) d st s).2) := by
 obtain ⟨R, hR0⟩ : ∃ r, rArms L (f + 1) d st s = r := ⟨_, rfl⟩
 obtain ⟨r, hr0⟩ : ∃ r, rArmL L f d st [] s = r := ⟨_, rfl⟩
 have hun : R = (r.1, (if r.1.length == 0 then r.2.here L 2 else r.2).want L wEnd) := by rw [← hR0, rArms, hr0]
 have ar := (quL hL f).armL d st [] s hs (by omega)
 rw [hr0] at ar
 have a6 : Adv L r.2 (if r.1.length == 0 then r.2.here L 2 else r.2) := by
  split
  ·exact here_adv hL ar.ok 2
  ·exact .refl ar.ok
 have a7 := want_adv hL a6.ok wEnd
 have e7 : Adv L ((if r.1.length == 0 then r.2.here L 2 else r.2).want L wEnd) R.2 := by rw [hun]; exact .refl a7.ok
 have e6 := a7.trans e7
 have e5 : Adv L r.2 R.2 := a6.trans e6
 rw [hR0]
 refine eZ [5, 6] Tryz.func133 ?_
 (repeat revert X); refine wE (And.intro tfPp9 hA) ?_; repeat intro X hX
 obtain ⟨I, hI⟩ : ∃ I : Nat → F → M → Prop, ∀ n g m', I n g m' = (∃ (l : List Am) (s1 : PS) (o : Own) (mm : M), s1.ok L ∧ s1.k = 0 ∧ mu L s1 + 1 ≤ n ∧ n ≤ f ∧ l.length ≤ 32 ∧ r = rArmL L n d st l s1 ∧ g 0 = .bp a 0 ∧ g 1 = pB st ∧ g 5 = .sl o (l.map Am.pv) ∧ m' = pst L a mm s1.i d ∧ BaseR m mm ∧ Mine m mm o 7) := ⟨_, fun _ _ _ => rfl⟩
 refine aLoopN I f ?_ ?_
 ·rw [hI]; exact ⟨[], s, .full, m, hs, k0, by omega, Nat.le_refl _, by simp, hr0.symm, rfl, rfl, rfl, rfl, .refl m, .full⟩
 clear hr0
 intro W n g m' hrel hW
 rw [hI] at hrel
 obtain ⟨l, s1, o, mm, hs1, k1, hn, hnf, hl, hr, f0, f1, f5, rfl, htk, ho⟩ := hrel
 obtain ⟨n, rfl⟩ : ∃ k, n = k + 1 := ⟨n - 1, by omega⟩
 have hnb := htk.nb
 have hAm : a < mm.nb := by omega
 have hun2 : rArmL L (n + 1) d st l s1 = if s1.is L wBar then (if l.length == 32 then (l, s1.here L 3) else
     (if st then rArmL L n d st (l ++ [.mk (if st then rName L 3 (s1.want L wBar) else rCtor L (s1.want L wBar)).1 (rBlock L n d (if st then rName L 3 (s1.want L wBar) else rCtor L (s1.want L wBar)).2).1.1 (rBlock L n d (if st then rName L 3 (s1.want L wBar) else rCtor L (s1.want L wBar)).2).1.2 (rWays L d wUnless (rBlock L n d (if st then rName L 3 (s1.want L wBar) else rCtor L (s1.want L wBar)).2).2).1 (rWays L d wUntil (rWays L d wUnless (rBlock L n d (if st then rName L 3 (s1.want L wBar) else rCtor L (s1.want L wBar)).2).2).2).1 ((s1.want L wBar).tk L).line ((s1.want L wBar).tk L).col]) (rWays L d wUntil (rWays L d wUnless (rBlock L n d (if st then rName L 3 (s1.want L wBar) else rCtor L (s1.want L wBar)).2).2).2).2
     else rArmL L n d st (l ++ [.mk (if st then rName L 3 (s1.want L wBar) else rCtor L (s1.want L wBar)).1 (rBlock L n d (if st then rName L 3 (s1.want L wBar) else rCtor L (s1.want L wBar)).2).1.1 (rBlock L n d (if st then rName L 3 (s1.want L wBar) else rCtor L (s1.want L wBar)).2).1.2 [] [] ((s1.want L wBar).tk L).line ((s1.want L wBar).tk L).col]) (rBlock L n d (if st then rName L 3 (s1.want L wBar) else rCtor L (s1.want L wBar)).2).2)) else (l, s1) := by rw [rArmL]
 (repeat revert X); refine wE (And.intro tfPp9 (And.intro f0 (And.intro f1 (And.intro f5 (And.intro hAm hA))))) ?_; repeat intro X hX
 refine callM (pis_any hL a _ xA s1 hs1 d k1 wBar) ?_
 rintro v m' ⟨rfl, rfl⟩
 cases h1 : s1.is L wBar with
 | false =>
  simp only [h1, Bool.false_eq_true, ↓reduceIte] at hun2
  have hr2 : r = (l, s1) := by rw [hr, hun2]
  rw [hr2] at hun e5 e6 e7 a6 a7
  obtain ⟨c6, g6⟩ : ∃ b, (l.length == 0) = b := ⟨_, rfl⟩
  have g6i : ((l.length : Int) == 0) = c6 := by rw [← g6]; cases hq : (l.length == 0) <;> simp at hq ⊢ <;> omega
  simp only [g6] at hun e5 e6 e7 a6 a7
  cases c6 with
  | true =>
   simp only [↓reduceIte] at hun e6 e7 a6 a7
   refine wS (And.intro tfPp9 (And.intro f0 (And.intro f1 (And.intro f5 (And.intro hAm (And.intro hA @pB.eq_1)))))) ?_
   (repeat revert X); refine wE (And.intro tfPp9 (And.intro f0 (And.intro f1 (And.intro f5 (And.intro hAm (And.intro hA (And.intro @pB.eq_1 g6i))))))) ?_; repeat intro X hX
   refine callP (pfail_any hL a _ xA s1 hs1 d k1 2 (by decide)) (by first | exact zzB hA (htk) (e6) | exact zzB hA ((htk).ext _) (e6)) (fun v m' h => h.elim)
  | false =>
   simp only [Bool.false_eq_true, ↓reduceIte] at hun e6 e7 a6 a7
   refine wS (And.intro tfPp9 (And.intro f0 (And.intro f1 (And.intro f5 (And.intro hAm (And.intro hA @pB.eq_1)))))) ?_
   (repeat revert X); refine wE (And.intro tfPp9 (And.intro f0 (And.intro f1 (And.intro f5 (And.intro hAm (And.intro hA (And.intro @pB.eq_1 g6i))))))) ?_; repeat intro X hX
   refine callP (pwant_any hL a _ xA s1 hs1 d k1 wEnd) (by first | exact zzB hA (htk) (e7) | exact zzB hA ((htk).ext _) (e7)) ?_
   rintro v m' ⟨k2, rfl⟩
   refine wS (And.intro tfPp9 (And.intro f0 (And.intro f1 (And.intro f5 (And.intro hAm hA))))) ?_
   (repeat revert X); refine wE (And.intro tfPp9 (And.intro f0 (And.intro f1 (And.intro f5 (And.intro hAm hA))))) ?_; repeat intro X hX
   refine wQ Tryz.results133 (And.intro tfPp9 (And.intro f0 (And.intro f1 (And.intro f5 (And.intro hAm hA))))) ?_
   exact leave_pstB hA htk rfl ⟨by rw [hun]; exact k2, by rw [hun]; rfl, by rw [hun]⟩
 | true =>
 simp only [h1, ↓reduceIte] at hun2
 obtain ⟨c7, g7⟩ : ∃ b, (l.length == 32) = b := ⟨_, rfl⟩
 have g7i : decide ((l.length : Int) ≥ 32) = c7 := by rw [← g7]; cases hq : (l.length == 32) <;> simp at hq ⊢ <;> omega
 rw [g7] at hun2
 cases c7 with
 | true =>
  simp only [↓reduceIte] at hun2
  have e8 : Adv L (s1.here L 3) R.2 := by
   refine Adv.trans (s' := r.2) ?_ e5
   rw [hr, hun2]
   exact .refl (here_adv hL hs1 3).ok
  refine wS (And.intro tfPp9 (And.intro f0 (And.intro f1 (And.intro f5 (And.intro hAm (And.intro hA @pB.eq_1)))))) ?_
  (repeat revert X); refine wE (And.intro tfPp9 (And.intro f0 (And.intro f1 (And.intro f5 (And.intro hAm (And.intro hA (And.intro @pB.eq_1 g7i))))))) ?_; repeat intro X hX
  refine callP (pfail_any hL a _ xA s1 hs1 d k1 3 (by decide)) (by first | exact zzB hA (htk) (e8) | exact zzB hA ((htk).ext _) (e8)) (fun v m' h => h.elim)
 | false =>
 simp only [Bool.false_eq_true, ↓reduceIte] at hun2
 have hk33 : l.length < 32 := by have : l.length ≠ 32 := by simpa using g7
                                 omega
 have hw : s1.want L wBar = s1.nx := by unfold PS.want; rw [if_pos h1]
 have b1 := is_adv hL hs1 h1
 have n1 := mu_nx hL hs1 (is_of h1).1 (is_of h1).2.1
 have n0 := mu0 hs1 (is_of h1).1
 rw [hw] at hun2
 have hcb := (IH n (by omega)).block a
 have hfree := ho.free
 have q1 : l.length + 1 ≤ maxLen := by unfold maxLen; omega
 have q2 : (l.length + 1) * 128 ≤ 140737488355328 := by omega
 have q3 := ams_one7 l
 have rr : ∀ {x : List Am × PS}, r = x → Adv L x.2 R.2 := fun h => by rw [← h]; exact e5
 have al : ∀ (l2 : List Am) (s2 : PS), s2.ok L → mu L s2 + 1 ≤ n → r = rArmL L n d st l2 s2 → Adv L s2 R.2 := fun l2 s2 h2 h3 h4 => ((quL hL n).armL d st l2 s2 h2 h3).trans (rr h4)
 cases st with
 | true =>
  simp only [↓reduceIte] at hun2
  have b2 := name_adv hL b1.ok (kd := 3) (by decide)
  have n2 := mu_le b2
  have b3 := (quL hL n).block d _ b2.ok (by omega)
  have b4 := ways_adv hL (d := d) (w := wUnless) b3.ok
  have b5 := ways_adv hL (d := d) (w := wUntil) b4.ok
  have n5 := mu_le (b3.trans (b4.trans b5))
  have c5 := al _ _ b5.ok (by omega) (by rw [hr, hun2])
  have c4 := b5.trans c5
  have c3 := b4.trans c4
  have c2 := b3.trans c3
  have c1 := b2.trans c2
  refine wS (And.intro tfPp9 (And.intro f0 (And.intro f1 (And.intro f5 (And.intro hAm (And.intro hA @pB.eq_1)))))) ?_
  (repeat revert X); refine wE (And.intro tfPp9 (And.intro f0 (And.intro f1 (And.intro f5 (And.intro hAm (And.intro hA (And.intro @pB.eq_1 g7i))))))) ?_; repeat intro X hX
  refine callP (pwant_any hL a _ xA s1 hs1 d k1 wBar) (by first | exact zzB hA (htk) ((by rw [hw]; exact c1)) | exact zzB hA ((htk).ext _) ((by rw [hw]; exact c1))) ?_
  rintro v m' ⟨k2, rfl⟩
  rw [hw] at k2 ⊢
  refine wS (And.intro tfPp9 (And.intro f0 (And.intro f1 (And.intro f5 (And.intro hAm hA))))) ?_
  (repeat revert X); refine wE (And.intro tfPp9 (And.intro f0 (And.intro f1 (And.intro f5 (And.intro hAm hA))))) ?_; repeat intro X hX
  refine callM (ptok_any hL a _ xA _ b1.ok d) ?_
  rintro v m' ⟨rfl, rfl⟩
  generalize s1.nx.tk L = t at *
  refine wS (And.intro tfPp9 (And.intro f0 (And.intro f1 (And.intro f5 (And.intro hAm (And.intro hA @pB.eq_1)))))) ?_
  (repeat revert X); refine wE (And.intro tfPp9 (And.intro f0 (And.intro f1 (And.intro f5 (And.intro hAm (And.intro hA @pB.eq_1)))))) ?_; repeat intro X hX
  refine callP (pname_any hL a _ xA s1.nx b1.ok d k2 3) (by first | exact zzB hA (htk) (c2) | exact zzB hA ((htk).ext _) (c2)) ?_
  rintro v m' ⟨k3, rfl, rfl⟩
  generalize rName L 3 s1.nx = nm at *
  refine wS (And.intro tfPp9 (And.intro f0 (And.intro f1 (And.intro f5 (And.intro hAm (And.intro hA @pB.eq_1)))))) ?_
  (repeat revert X); refine wE (And.intro tfPp9 (And.intro f0 (And.intro f1 (And.intro f5 (And.intro hAm (And.intro hA @pB.eq_1)))))) ?_; repeat intro X hX
  refine callP (hcb _ xA _ b2.ok k3 d hd (by omega)) (by first | exact zzB hA (htk) (c3) | exact zzB hA ((htk).ext _) (c3)) ?_
  rintro v m' ⟨k4, rfl, rfl⟩
  generalize rBlock L n d nm.2 = bk at *
  refine wS (And.intro tfPp9 (And.intro f0 (And.intro f1 (And.intro f5 (And.intro hAm (And.intro hA @pB.eq_1)))))) ?_
  (repeat revert X); refine wE (And.intro tfPp9 (And.intro f0 (And.intro f1 (And.intro f5 (And.intro hAm (And.intro hA @pB.eq_1)))))) ?_; repeat intro X hX
  refine callP (pways_any hL a _ xA _ b3.ok k4 d hd wUnless) (by first | exact zzB hA (htk) (c4) | exact zzB hA ((htk).ext _) (c4)) ?_
  rintro v m' ⟨k5, rfl, rfl⟩
  generalize rWays L d wUnless bk.2 = u at *
  refine wS (And.intro tfPp9 (And.intro f0 (And.intro f1 (And.intro f5 (And.intro hAm (And.intro hA @pB.eq_1)))))) ?_
  (repeat revert X); refine wE (And.intro tfPp9 (And.intro f0 (And.intro f1 (And.intro f5 (And.intro hAm (And.intro hA @pB.eq_1)))))) ?_; repeat intro X hX
  refine callP (pways_any hL a _ xA _ b4.ok k5 d hd wUntil) (by first | exact zzB hA (htk) (c5) | exact zzB hA ((htk).ext _) (c5)) ?_
  rintro v m' ⟨k6, rfl, rfl⟩
  generalize rWays L d wUntil u.2 = w at *
  refine wS (And.intro tfPp9 (And.intro f0 (And.intro f1 (And.intro f5 (And.intro hAm (And.intro hA @pB.eq_1)))))) ?_
  (repeat (first | refine aReg ?_; simp -implicitDefEqProofs only [forall_eq, ↓slp, slb, ↓reduceIte, reduceCtorEq, jA, jB, jC, jD, jE, jF, jG, jH, jI, jJ, jK, tfPp9, f0, f1, f5, hAm, hA, pB] | apply hX; clear hX X | apply And.intro; focus ((repeat' apply And.intro) <;> first | omega | assumption)))
  refine hW n _ _ (by omega) ?_
  rw [hI]
  exact ⟨l ++ [.mk nm.1 bk.1.1 bk.1.2 u.1 w.1 t.line t.col], w.2, .tok mm.nt, _, b5.ok, k6, by omega, by omega, by simp; omega, by rw [hr, hun2], f0, f1, by rw [List.map_append, List.map_cons, List.map_nil, Am.pv_eq]; rfl, rfl, (htk.fresh ho).ext _, (Mine.newB htk o 7).ext _⟩
 | false =>
  simp only [Bool.false_eq_true, ↓reduceIte] at hun2
  have b2 := ctor_adv hL b1.ok
  have n2 := mu_le b2
  have b3 := (quL hL n).block d _ b2.ok (by omega)
  have n5 := mu_le b3
  have c3 := al _ _ b3.ok (by omega) (by rw [hr, hun2])
  have c2 := b3.trans c3
  have c1 := b2.trans c2
  refine wS (And.intro tfPp9 (And.intro f0 (And.intro f1 (And.intro f5 (And.intro hAm (And.intro hA @pB.eq_1)))))) ?_
  (repeat revert X); refine wE (And.intro tfPp9 (And.intro f0 (And.intro f1 (And.intro f5 (And.intro hAm (And.intro hA (And.intro @pB.eq_1 g7i))))))) ?_; repeat intro X hX
  refine callP (pwant_any hL a _ xA s1 hs1 d k1 wBar) (by first | exact zzB hA (htk) ((by rw [hw]; exact c1)) | exact zzB hA ((htk).ext _) ((by rw [hw]; exact c1))) ?_
  rintro v m' ⟨k2, rfl⟩
  rw [hw] at k2 ⊢
  refine wS (And.intro tfPp9 (And.intro f0 (And.intro f1 (And.intro f5 (And.intro hAm hA))))) ?_
  (repeat revert X); refine wE (And.intro tfPp9 (And.intro f0 (And.intro f1 (And.intro f5 (And.intro hAm hA))))) ?_; repeat intro X hX
  refine callM (ptok_any hL a _ xA _ b1.ok d) ?_
  rintro v m' ⟨rfl, rfl⟩
  generalize s1.nx.tk L = t at *
  refine wS (And.intro tfPp9 (And.intro f0 (And.intro f1 (And.intro f5 (And.intro hAm (And.intro hA @pB.eq_1)))))) ?_
  (repeat revert X); refine wE (And.intro tfPp9 (And.intro f0 (And.intro f1 (And.intro f5 (And.intro hAm (And.intro hA @pB.eq_1)))))) ?_; repeat intro X hX
  refine callP (pctor_any hL a _ xA s1.nx b1.ok k2 d) (by first | exact zzB hA (htk) (c2) | exact zzB hA ((htk).ext _) (c2)) ?_
  rintro v m' ⟨k3, rfl, rfl⟩
  generalize rCtor L s1.nx = nm at *
  refine wS (And.intro tfPp9 (And.intro f0 (And.intro f1 (And.intro f5 (And.intro hAm (And.intro hA @pB.eq_1)))))) ?_
  (repeat revert X); refine wE (And.intro tfPp9 (And.intro f0 (And.intro f1 (And.intro f5 (And.intro hAm (And.intro hA @pB.eq_1)))))) ?_; repeat intro X hX
  refine callP (hcb _ xA _ b2.ok k3 d hd (by omega)) (by first | exact zzB hA (htk) (c3) | exact zzB hA ((htk).ext _) (c3)) ?_
  rintro v m' ⟨k4, rfl, rfl⟩
  generalize rBlock L n d nm.2 = bk at *
  refine wS (And.intro tfPp9 (And.intro f0 (And.intro f1 (And.intro f5 (And.intro hAm (And.intro hA @pB.eq_1)))))) ?_
  (repeat (first | refine aSeq fun X hX => ?_ | refine aSkip ?_ | (first | apply aReg | apply aIf); simp -implicitDefEqProofs only [forall_eq, ↓slp, slb, ↓reduceIte, reduceCtorEq, jA, jB, jC, jD, jE, jF, jG, jH, jI, jJ, jK, tfPp9, f0, f1, f5, hAm, hA, pB] | apply hX; clear hX X | apply And.intro; focus ((repeat' apply And.intro) <;> first | omega | assumption)))
  refine hW n _ _ (by omega) ?_
  rw [hI]
  exact ⟨l ++ [.mk nm.1 bk.1.1 bk.1.2 [] [] t.line t.col], bk.2, .tok mm.nt, _, b3.ok, k4, by omega, by omega, by simp; omega, by rw [hr, hun2], f0, f1, by rw [List.map_append, List.map_cons, List.map_nil, Am.pv_eq]; rfl, rfl, (htk.fresh ho).ext _, (Mine.newB htk o 7).ext _⟩
end
theorem pblC {L : List Tk} (hL : TksOk L) (hR : PRightC L) : ∀ f, ∀ g, g ≤ f → PBlC L g
 | 0, g, hg => by
  obtain rfl : g = 0 := by omega
  exact ⟨fun _ _ _ _ _ _ _ _ h => by omega, fun _ _ _ _ _ _ _ _ h => by omega, fun _ _ _ _ _ _ _ _ h => by omega, fun _ _ _ _ _ _ _ _ _ h => by omega⟩
 | f + 1, g, hg => by
  have IH := pblC hL hR f
  by_cases h : g ≤ f
  ·exact IH g h
  ·obtain rfl : g = f + 1 := by omega
   exact ⟨fun a m hA s hs k0 d hd hf => pblock_step hL IH a m hA s hs k0 d hd hf, fun a m hA s hs k0 d hd hf => peqs_step hL IH a m hA s hs k0 d hd hf, fun a m hA s hs k0 d hd hf => peq_step hL hR IH a m hA s hs k0 d hd hf, fun a m hA s hs k0 d hd st hf => parms_step hL IH a m hA s hs k0 d hd st hf⟩
end Go.Proofs.YtohgdopfjkjppaaGreatDoor
