/-
 Texts that belong together: PsR2, AbMk8c.
-/
-- halved
import Derived.Test.YtohgdopfjkjppaaGreatDoorAbMac
import Derived.Test.YtohgdopfjkjppaaGreatDoorPsR1
import Derived.Test.YtohgdopfjkjppaaGreatDoorAbLp
import Derived.Test.YtohgdopfjkjppaaGreatDoorAbKit
set_option linter.unusedSectionVars false
set_option linter.unusedVariables false
set_option linter.unusedSimpArgs false
namespace Go.Proofs.YtohgdopfjkjppaaGreatDoor
open Nat renaming reduceEqDiff → jA, reduceAdd → jB, reduceMul → jC, reduceLT → jD, reduceLeDiff → jE, reduceBEq → jF, reduceBNe → jG
open Int renaming reduceLE → jH, reduceLT → jI, reduceToNat → jJ, reduceEq → jK
open Go
set_option maxRecDepth 20000
set_option linter.defProp false
def tfPsR2 := tfPsR1

theorem rOpF_rng {L : List Tk} : ∀ (f : Nat) (o : Int) (s : PS), 3 ≤ o → o + f ≤ 17 → rOpF L f o s = 0 ∨ (3 ≤ rOpF L f o s ∧ rOpF L f o s ≤ 16)
 | 0, o, s, _, _ => .inl rfl
 | f + 1, o, s, h1, h2 => by
  unfold rOpF
  split
  ·right; omega
  ·exact rOpF_rng f (o + 1) s (by omega) (by omega)
theorem rOp_rng {L : List Tk} (s : PS) : rOp L s = 0 ∨ (3 ≤ rOp L s ∧ rOp L s ≤ 16) := rOpF_rng 14 3 s (by decide) (by decide)
theorem cas16 {o : Int} (h : 3 ≤ o ∧ o ≤ 16) : o = 3 ∨ o = 4 ∨ o = 5 ∨ o = 6 ∨ o = 7 ∨ o = 8 ∨ o = 9 ∨ o = 10 ∨ o = 11 ∨ o = 12 ∨ o = 13 ∨ o = 14 ∨ o = 15 ∨ o = 16 := by omega
set_option maxHeartbeats 8000000 in
theorem qword_any (o : Int) (h : 3 ≤ o ∧ o ≤ 16) (m : M) : ACalls Tryz.prog 115 [.v (.int .u8 o)] m (fun v m' => v = pS (opWord o) ∧ m' = m) := by
 rcases cas16 h with rfl | rfl | rfl | rfl | rfl | rfl | rfl | rfl | rfl | rfl | rfl | rfl | rfl | rfl <;> (
  refine eN [] Tryz.func115 ?_
  (repeat (first | refine aSeq fun X hX => ?_ | refine aRet ?_; try simp only [slx, ↓reduceIte, jA, reduceCtorEq] | (first | apply aReg | apply aIf); simp -implicitDefEqProofs only [↓slp, slb, ↓reduceIte, reduceCtorEq, jA, Int.reduceBEq] | apply hX; clear hX X))
  refine wR Tryz.results115 ?_
  exact leave_same rfl ⟨rfl, rfl⟩)
set_option maxHeartbeats 8000000 in
theorem qstr_any (o : Int) (h : o = 0 ∨ 3 ≤ o ∧ o ≤ 16) (m : M) : ACalls Tryz.prog 96 [.v (.int .u8 o)] m (fun v m' => v = pI (opStr o) ∧ m' = m) := by
 have h : o = 0 ∨ o = 3 ∨ o = 4 ∨ o = 5 ∨ o = 6 ∨ o = 7 ∨ o = 8 ∨ o = 9 ∨ o = 10 ∨ o = 11 ∨ o = 12 ∨ o = 13 ∨ o = 14 ∨ o = 15 ∨ o = 16 := h.imp id cas16
 rcases h with rfl | rfl | rfl | rfl | rfl | rfl | rfl | rfl | rfl | rfl | rfl | rfl | rfl | rfl | rfl <;> (
  refine eN [] Tryz.func96 ?_
  (repeat (first | refine aSeq fun X hX => ?_ | refine aSkip ?_ | refine aRet ?_; try simp only [slx, ↓reduceIte, jA, reduceCtorEq] | (first | apply aReg | apply aIf); simp -implicitDefEqProofs only [↓slp, slb, ↓reduceIte, reduceCtorEq, jA, jH, Int.reduceBEq, Int.reduceLE, ge_iff_le] | apply hX; clear hX X))
  refine wR Tryz.results96 ?_
  exact leave_same rfl ⟨rfl, rfl⟩)
section
variable {L : List Tk} (hL : TksOk L) (a : Nat) (m : M) (hA : a < m.nb) (s : PS) (hs : s.ok L) (d : Int)
include hL hA hs
set_option maxHeartbeats 1000000 in
theorem qctor_any : ACalls Tryz.prog 130 [.bp a 0] (qst L a m s d) (fun v m' => v = pS (rCtor L s).1 ∧ m' = qst L a m (rCtor L s).2 d) := by
 have hsk : ∀ w, s.skp L w = if s.is L w then s.nx else s := fun _ => rfl
 cases h1 : s.is L wTrue with
 | true =>
  have hr : rCtor L s = (wTrue, s.nx) := by unfold rCtor; rw [if_pos h1]
  rw [hr]
  refine eN [] Tryz.func130 ?_
  (repeat revert X); refine wE aEQ_t ?_; repeat intro X hX
  refine callM (qskip_any hL a _ xA s hs d wTrue) ?_
  rintro v m' ⟨rfl, rfl⟩
  rw [hsk, h1, if_pos rfl]
  refine wS @pB.eq_1 ?_
  (repeat revert X); refine wE aEQ_t ?_; repeat intro X hX
  refine wR Tryz.results130 ?_
  exact leave_qst0 hA (.refl m) rfl ⟨rfl, rfl⟩
 | false =>
  cases h2 : s.is L wFalse with
  | true =>
   have hr : rCtor L s = (wFalse, s.nx) := by unfold rCtor; rw [if_neg (by simp [h1]), if_pos h2]
   rw [hr]
   refine eN [] Tryz.func130 ?_
   (repeat revert X); refine wE aEQ_t ?_; repeat intro X hX
   refine callM (qskip_any hL a _ xA s hs d wTrue) ?_
   rintro v m' ⟨rfl, rfl⟩
   rw [hsk, h1, if_neg (by simp)]
   refine wS @pB.eq_1 ?_
   (repeat revert X); refine wE aEQ_t ?_; repeat intro X hX
   refine callM (qskip_any hL a _ xA s hs d wFalse) ?_
   rintro v m' ⟨rfl, rfl⟩
   rw [hsk, h2, if_pos rfl]
   refine wS @pB.eq_1 ?_
   (repeat revert X); refine wE aEQ_t ?_; repeat intro X hX
   refine wR Tryz.results130 ?_
   exact leave_qst0 hA (.refl m) rfl ⟨rfl, rfl⟩
  | false =>
   have hr : rCtor L s = rName L 3 s := by unfold rCtor; rw [if_neg (by simp [h1]), if_neg (by simp [h2])]
   rw [hr]
   refine eN [] Tryz.func130 ?_
   (repeat revert X); refine wE aEQ_t ?_; repeat intro X hX
   refine callM (qskip_any hL a _ xA s hs d wTrue) ?_
   rintro v m' ⟨rfl, rfl⟩
   rw [hsk, h1, if_neg (by simp)]
   refine wS @pB.eq_1 ?_
   (repeat revert X); refine wE aEQ_t ?_; repeat intro X hX
   refine callM (qskip_any hL a _ xA s hs d wFalse) ?_
   rintro v m' ⟨rfl, rfl⟩
   rw [hsk, h2, if_neg (by simp)]
   refine wS @pB.eq_1 ?_
   (repeat revert X); refine wE aEQ_t ?_; repeat intro X hX
   refine callM (qname_any hL a _ xA s hs d 3) ?_
   rintro v m' ⟨rfl, rfl⟩
   refine wS aEQ_t ?_
   (repeat revert X); refine wE aEQ_t ?_; repeat intro X hX
   refine wR Tryz.results130 ?_
   exact leave_qst0 hA (.refl m) rfl ⟨rfl, rfl⟩
set_option maxHeartbeats 1000000 in
theorem qon_any : ACalls Tryz.prog 118 [.bp a 0] (qst L a m s d) (fun v m' => v = .ag [pS (rOn L s).1.ctor, pS (rOn L s).1.var] ∧ m' = qst L a m (rOn L s).2 d) := by
 have h1 := ctor_adv hL hs
 have h2 := want_adv hL h1.ok wOpen
 have h3 := name_adv hL h2.ok (kd := 2) (by decide)
 refine eN [2, 3] Tryz.func118 ?_
 (repeat revert X); refine wE (And.intro tfPsR2 hA) ?_; repeat intro X hX
 refine callM (qctor_any hL a _ xA s hs d) ?_
 rintro v m' ⟨rfl, rfl⟩
 refine wS (And.intro tfPsR2 hA) ?_
 (repeat revert X); refine wE aEQ_t ?_; repeat intro X hX
 refine callM (qwant_any hL a _ xA _ h1.ok d wOpen) ?_
 rintro v m' rfl
 refine wS aEQ_t ?_
 (repeat revert X); refine wE aEQ_t ?_; repeat intro X hX
 refine callM (qname_any hL a _ xA _ h2.ok d 2) ?_
 rintro v m' ⟨rfl, rfl⟩
 refine wS (And.intro tfPsR2 hA) ?_
 (repeat revert X); refine wE aEQ_t ?_; repeat intro X hX
 refine callM (qwant_any hL a _ xA _ h3.ok d wShut) ?_
 rintro v m' rfl
 refine wS aEQ_t ?_
 (repeat revert X); refine wE (And.intro tfPsR2 hA) ?_; repeat intro X hX
 refine wQ Tryz.results118 (And.intro tfPsR2 hA) ?_
 exact leave_qst hA (.refl m) rfl ⟨rfl, rfl⟩
set_option maxHeartbeats 1000000 in
theorem qoper_any : ACalls Tryz.prog 95 [.bp a 0] (qst L a m s d) (fun v m' => v = .v (.int .u8 (rOp L s)) ∧ m' = qst L a m s d) := by
 refine eN [] Tryz.func95 ?_
 (repeat revert X); refine wE aEQ_t ?_; repeat intro X hX
 obtain ⟨I, hI⟩ : ∃ I : F → M → Prop, ∀ f m', I f m' = (∃ (o : Nat), 3 ≤ o ∧ o ≤ 17 ∧ rOp L s = rOpF L (17 - o) o s ∧ f 0 = .bp a 0 ∧ f 3 = .v (.int .u8 (o : Int)) ∧ m' = qst L a m s d) := ⟨_, fun _ _ => rfl⟩
 refine aLoop I (fun f m => 17 - numOf (f 3)) ?_ ?_
 ·rw [hI]; exact ⟨3, by decide, by decide, rfl, rfl, rfl, rfl⟩
 intro f m' hrel
 rw [hI] at hrel
 obtain ⟨o, ho1, ho2, hro, f0, f3, rfl⟩ := hrel
 cases c1 : decide ((o : Int) ≤ 16) with
 | false =>
  have : o = 17 := by simp at c1; omega
  subst this
  (repeat revert X); refine wE (And.intro f3 c1) ?_; repeat intro X hX
  refine wR Tryz.results95 ?_
  exact leave_qst0 hA (.refl m) rfl ⟨by rw [hro]; rfl, rfl⟩
 | true =>
  have ho3 : (o : Int) ≤ 16 := of_decide_eq_true c1
  have hun : rOpF L (17 - o) o s = if s.is L (opWord (o : Int)) then (o : Int) else rOpF L (17 - (o + 1)) ((o + 1 : Nat) : Int) s := by
   rw [show 17 - o = (17 - (o + 1)) + 1 by omega]
   rfl
  have hi : IntKind.u8.wrap ((o : Int) + 1) = ((o + 1 : Nat) : Int) := by
   show ((o : Int) + 1) % 256 = _
   omega
  have hme : numOf (f 3) = o := by rw [f3]; exact Int.toNat_natCast o
  (repeat revert X); refine wE (And.intro f0 (And.intro f3 c1)) ?_; repeat intro X hX
  refine callM (qword_any (o : Int) ⟨by omega, ho3⟩ _) ?_
  rintro v m' ⟨rfl, rfl⟩
  refine wS aEQ_t ?_
  (repeat revert X); refine wE (And.intro tfPsR2 (And.intro f0 f3)) ?_; repeat intro X hX
  refine callM (qis_any hL a _ xA s hs d _) ?_
  rintro v m' ⟨rfl, rfl⟩
  cases hb : s.is L (opWord (o : Int)) with
  | true =>
   rw [hb, if_pos rfl] at hun
   refine wS (And.intro f3 @pB.eq_1) ?_
   (repeat revert X); refine wE f3 ?_; repeat intro X hX
   refine wR Tryz.results95 ?_
   exact leave_qst0 hA (.refl m) rfl ⟨by rw [hro, hun]; rfl, rfl⟩
  | false =>
   rw [hb, if_neg (by simp)] at hun
   refine wS (And.intro f3 @pB.eq_1) ?_
   (repeat (first | refine aSkip ?_ | (first | apply aReg | apply aIf); simp -implicitDefEqProofs only [↓slp, slb, ↓reduceIte, jA, f3, hi] | apply hX; clear hX X))
   rw [hI]
   exact ⟨⟨o + 1, by omega, by omega, by rw [hro, hun], f0, rfl, rfl⟩, by omega⟩
end
abbrev exB (e : Ex) (on ok : Own) : List PV := [.v (.int .u8 e.kind), .v (.int .u8 e.op), .v (.int .i32 e.n), .v (.string e.name), .sl on (e.names.map pS), .sl ok (e.kids.map Ex.pv), .v (.int .i64 e.line), .v (.int .i64 e.col)]
set_option maxHeartbeats 4000000 in
theorem qwhen_any {L : List Tk} (hL : TksOk L) (a : Nat) (m : M) (hA : a < m.nb) (s : PS) (hs : s.ok L) (d : Int) (e : Ex) : ACalls Tryz.prog 112 [.bp a 0, e.pv] (qst L a m s d) (fun v m' => v = (rWhen L L.length e s).1.pv ∧ m' = qst L a m (rWhen L L.length e s).2 d) := by
 have hsk : ∀ (s : PS) w, s.skp L w = if s.is L w then s.nx else s := fun _ _ => rfl
 refine eN [3, 4] Tryz.func112 ?_
 (repeat revert X); refine wE (And.intro tfPsR2 hA) ?_; repeat intro X hX
 obtain ⟨I, hI⟩ : ∃ I : Nat → F → M → Prop, ∀ n f m', I n f m' = (∃ (e1 : Ex) (s1 : PS) (on ok : Own) (mb : M), s1.ok L ∧ L.length - s1.i ≤ n ∧ rWhen L L.length e s = rWhen L n e1 s1 ∧ f 0 = .bp a 0 ∧ f 3 = .bp m.nb 0 ∧ f 4 = .bp (m.nb + 1) 0 ∧ m' = qst L a (mb.ext [some (exB e1 on ok), some [.v (.int .u8 0), .v (.int .u8 0), .v (.int .i32 0), .v (.string ⟨#[]⟩), .sl .full [], .sl .full [], .v (.int .i64 0), .v (.int .i64 0)]]) s1 d ∧ mb = m) := ⟨_, fun _ _ _ => rfl⟩
 refine aLoopN I L.length ?_ ?_
 ·rw [hI]; exact ⟨e, s, .no, .no, m, hs, by omega, rfl, rfl, rfl, rfl, rfl, rfl⟩
 intro W n f m' hrel hW
 rw [hI] at hrel
 obtain ⟨e1, s1, on, ok, mb, hs1, hn, hr, f0, f3, f4, rfl, rfl⟩ := hrel
 have hlt := hs1.lt
 obtain ⟨n, rfl⟩ : ∃ k, n = k + 1 := ⟨n - 1, by omega⟩
 have hun : rWhen L (n + 1) e1 s1 = if s1.is L wWhen then rWhen L n (.mk 12 0 0 (rOn L s1.nx).1.var [(rOn L s1.nx).1.ctor] [e1] e1.line e1.col) (rOn L s1.nx).2 else (e1, s1) := rfl
 (repeat revert X); refine wE f0 ?_; repeat intro X hX
 refine callM (qskip_any hL a _ xA s1 hs1 d wWhen) ?_
 rintro v m' ⟨rfl, rfl⟩
 rw [hsk]
 cases hb : s1.is L wWhen with
 | false =>
  rw [hb, if_neg (by simp)] at hun
  rw [if_neg (by simp)]
  refine wS @pB.eq_1 ?_
  (repeat revert X); refine wE (And.intro tfPsR2 (And.intro f3 (And.intro f4 hA))) ?_; repeat intro X hX
  refine wQ Tryz.results112 (And.intro tfPsR2 (And.intro f4 hA)) ?_
  exact leave_qst hA (.refl mb) rfl ⟨by rw [hr, hun, Ex.pv_eq]; rfl, by rw [hr, hun]⟩
 | true =>
  have h1 := is_adv hL hs1 hb
  have h2 := on_adv hL h1.ok
  have hle := h2.le
  rw [hb, if_pos rfl] at hun
  rw [if_pos rfl]
  refine wS @pB.eq_1 ?_
  (repeat revert X); refine wE f0 ?_; repeat intro X hX
  refine callM (qon_any hL a _ xA _ h1.ok d) ?_
  rintro v m' ⟨rfl, rfl⟩
  generalize rOn L s1.nx = o at *
  refine wS tfPsR2 ?_
  (repeat revert X); refine wE (And.intro tfPsR2 (And.intro f3 hA)) ?_; repeat intro X hX
  refine hW n _ _ (by omega) ?_
  rw [hI]
  exact ⟨.mk 12 0 0 o.1.var [o.1.ctor] [e1] e1.line e1.col, o.2, .full, .full, mb, h2.ok, by have : s1.nx.i = s1.i + 1 := rfl; omega, by rw [hr, hun], f0, f3, f4, by rw [show exB (.mk 12 0 0 o.1.var [o.1.ctor] [e1] e1.line e1.col) .full .full = [.v (.int .u8 12), .v (.int .u8 0), .v (.int .i32 0), .v (.string o.1.var), .sl .full [pS o.1.ctor], .sl .full [e1.pv], .v (.int .i64 e1.line), .v (.int .i64 e1.col)] from rfl, Ex.pv_eq], rfl⟩
set_option maxHeartbeats 1000000 in
theorem qun_any (n : Int) (hn : -2147483648 ≤ n ∧ n ≤ 2147483647) (m : M) : ACalls Tryz.prog 113 [.v (.int .u8 2), .v (.int .i32 n)] m (fun v m' => v = .v (.int .i32 (w32 (0 - n))) ∧ m' = m) := by
 have hw1 : IntKind.i64.wrap n = n := wrap64 (by omega)
 have hw2 : IntKind.i64.wrap (0 - n) = 0 - n := wrap64 (by omega)
 have hlo : ∀ (k : Int) (m : M), -2147483648 ≤ k → k < 2147483648 → ACalls Tryz.prog 129 [.v (.int .i64 k)] m (fun v m' => v = .v (.int .i32 (w32 k)) ∧ m' = m) := fun k m h1 h2 => by
  have g1 : decide (k ≥ 2147483648) = false := decide_eq_false (by omega)
  have g2 : decide (k < -2147483648) = false := decide_eq_false (by omega)
  refine eN [] Tryz.func129 ?_
  (repeat revert X); refine wE aEQ_t ?_; repeat intro X hX
  refine aLoop (fun f m' => f 0 = .v (.int .i64 k) ∧ m' = m) (fun _ _ => 0) ⟨rfl, rfl⟩ ?_
  rintro f m' ⟨f0, rfl⟩
  (repeat revert X); refine wE (And.intro f0 g1) ?_; repeat intro X hX
  refine aLoop (fun f m1 => f 0 = .v (.int .i64 k) ∧ m1 = m') (fun _ _ => 0) ⟨f0, rfl⟩ ?_
  rintro f m1 ⟨f0, rfl⟩
  (repeat revert X); refine wE (And.intro tfPsR2 (And.intro f0 g2)) ?_; repeat intro X hX
  refine wR Tryz.results129 ?_
  exact leave_same rfl ⟨rfl, rfl⟩
 have hhi : ∀ (m : M), ACalls Tryz.prog 129 [.v (.int .i64 2147483648)] m (fun v m' => v = .v (.int .i32 (w32 2147483648)) ∧ m' = m) := fun m => by
  have g1 : decide ((2147483648 : Int) ≥ 2147483648) = true := rfl
  have g2 : decide ((-2147483648 : Int) ≥ 2147483648) = false := rfl
  have g3 : decide ((-2147483648 : Int) < -2147483648) = false := rfl
  have k1 : IntKind.i64.wrap ((2147483648 : Int) - 2147483648) = 0 := rfl
  have k2 : IntKind.i64.wrap (Int.tdiv 0 4294967296) = 0 := rfl
  have k3 : IntKind.i64.wrap ((0 : Int) + 1) = 1 := rfl
  have k4 : IntKind.i64.wrap ((4294967296 : Int) * 1) = 4294967296 := rfl
  have k5 : IntKind.i64.wrap ((2147483648 : Int) - 4294967296) = -2147483648 := rfl
  have k6 : IntKind.i32.wrap (2147483648 : Int) = IntKind.i32.wrap (-2147483648) := rfl
  refine eN [] Tryz.func129 ?_
  (repeat revert X); refine wE aEQ_t ?_; repeat intro X hX
  refine aLoop (fun f m' => (f 0 = .v (.int .i64 2147483648) ∨ f 0 = .v (.int .i64 (-2147483648))) ∧ m' = m) (fun f _ => match f 0 with | .v (.int _ k) => (k + 2147483648).toNat | _ => 0) ⟨.inl rfl, rfl⟩ ?_
  rintro f m' ⟨f0 | f0, rfl⟩
  ·(repeat (first | refine aSeq fun X hX => ?_ | refine aBlk ?_ | refine aSkip ?_ | (first | apply aReg | apply aIf); simp -implicitDefEqProofs only [↓slp, slb, ↓reduceIte, reduceCtorEq, jA, jK, f0, g1, k1, k2, k3, k4, k5] | apply hX; clear hX X))
   exact ⟨.inr trivial, by decide⟩
  ·((repeat revert X); refine wE (And.intro f0 g2) ?_; repeat intro X hX)
   refine aLoop (fun f m1 => f 0 = .v (.int .i64 (-2147483648)) ∧ m1 = m') (fun _ _ => 0) ⟨f0, rfl⟩ ?_
   rintro f m1 ⟨f0, rfl⟩
   (repeat revert X); refine wE (And.intro tfPsR2 f0) ?_; repeat intro X hX
   refine wR Tryz.results129 ?_
   exact leave_same rfl ⟨rfl, rfl⟩
 have hwr : ∀ (m : M), ACalls Tryz.prog 129 [.v (.int .i64 (0 - n))] m (fun v m' => v = .v (.int .i32 (w32 (0 - n))) ∧ m' = m) := fun m => by
  by_cases hc : n = -2147483648
  ·subst hc; exact hhi m
  ·exact hlo _ m (by omega) (by omega)
 refine eN [] Tryz.func113 ?_
 (repeat (first | refine aSeq fun X hX => ?_ | refine aSkip ?_ | (first | apply aReg | apply aIf); simp -implicitDefEqProofs only [↓slp, slb, ↓reduceIte, reduceCtorEq, jA, tfPsR2, hw1, hw2, Int.reduceBEq] | apply hX; clear hX X))
 refine callE (hwr _) ?_
 refine wS aEQ_t ?_
 (repeat revert X); refine wD aEQ_t ?_; repeat intro X hX
 refine wR Tryz.results113 ?_
 exact leave_same rfl ⟨rfl, rfl⟩

theorem callMS {P : Program} {g : FuncId} {args args' : List PV} {m : M} {R K Z : PV → M → Prop} (h : ACalls P g args' m R) (he : args.map PV.settle = args') (hk : ∀ v m', R v m' → K v m') : @ACallsI P g args m ⟨K, Z⟩ := by
 subst he
 refine ACallsZ.mono (Z := noZ) ⟨h.cc, fun G w vs hI hl hr => h.run G w vs hI (by simpa using hl) (fun j h1 h2 => ?_)⟩ hk (fun _ _ h => h.elim)
 simpa using (hr j (by simpa using h1) h2).settle
end Go.Proofs.YtohgdopfjkjppaaGreatDoor
