/-
 Texts that belong together: AbMk3, AbMk4, AbMk5.
-/
-- halved
import Derived.Test.YteiaedmipkcfeaaDoorMkA
/-
 The maker: a variable of a type.
-/
set_option linter.unusedVariables false
set_option linter.unusedSimpArgs false
namespace Go.Proofs.YteiaedmipkcfeaaDoor
open Nat renaming reduceEqDiff → jA, reduceAdd → jB, reduceMul → jC, reduceLT → jD, reduceLeDiff → jE, reduceBEq → jF, reduceBNe → jG
open Int renaming reduceLE → jH, reduceLT → jI, reduceToNat → jJ, reduceEq → jK
open Go


/-- A variable of a list that has a type, and stands on no clock. -/
def isVar (l : List Va) (t : Ty) (s : Str) : Prop := ∃ v ∈ l, v.t = t ∧ v.clock = [] ∧ v.name = s
set_option maxRecDepth 20000 in
set_option maxHeartbeats 1000000 in
theorem pick_any (p : GP) (m : M) (hok : p.ok m) (o : Own) (l : List Va) (hl : l.length < 2 ^ 40) (t : Ty) (i : Nat) (n q : Int) : ACalls Tryd.prog 108 [.bp p.gp 0, .sl o (l.map Va.pv), t.pv] (gst p m i n q) (fun v m' => ∃ s b i', v = .tp [pS s, pB b] ∧ (b = true → isVar l t s) ∧ m' = gst p m i' n q) := by
 have hG := hok.gp
 have hT := hok.tp
 refine ACalls.enter (mu := []) ok_mix Tryd.func108 rfl (by kernel_rfl) (by kernel_rfl) (by simp only [List.length_cons, List.length_nil, Tryd.ntmps108]; omega) ?_
 (repeat (first | refine aSeq fun X hX => ?_ | apply aBlk | apply aSkip | (first | apply aExit | apply aRet); try simp only [slx, ↓reduceIte, jA, reduceCtorEq] | (first | apply aReg | refine aDrE ?_ | apply aIf); simp -implicitDefEqProofs only [↓slp, ↓reduceIte, reduceCtorEq, jA, jE, jF, Y2, hT, hG]; try simp only [fo] | apply hX; clear hX X | clear hX X; apply hX; clear hX X | intro hlen; unfold maxLen at hlen | apply And.intro; · first | assumption | and_intros <;> first | omega | assumption))
 refine callM (next_any p _ hok 7 (by omega) i n q) ?_
 rintro v m' ⟨r, i', rfl, ⟨hr0, hr1⟩, rfl⟩
 simp -implicitDefEqProofs only [↓slp, ↓reduceIte, reduceCtorEq, jA, jE, jF, Y2, hT, hG]; try simp only [fo]
 (repeat (first | refine aSeq fun X hX => ?_ | apply aBlk | apply aSkip | (first | apply aExit | apply aRet); try simp only [slx, ↓reduceIte, jA, reduceCtorEq] | (first | apply aReg | refine aDrE ?_ | apply aIf); simp -implicitDefEqProofs only [↓slp, ↓reduceIte, reduceCtorEq, jA, jE, jF, Y2, hT, hG]; try simp only [fo] | apply hX; clear hX X | clear hX X; apply hX; clear hX X | intro hlen; unfold maxLen at hlen | apply And.intro; · first | assumption | and_intros <;> first | omega | assumption))
 obtain ⟨I, hI⟩ : ∃ I : F → M → Prop, ∀ f m', I f m' = (∃ k : Nat, k ≤ l.length ∧ f 1 = .sl o (l.map Va.pv) ∧ f 5 = .ep [.v (.int .u8 t.kind), .v (.string t.name)] ∧ f 8 = pI r ∧ f 9 = pI k ∧ m' = gst p m i' n q) := ⟨_, fun _ _ => rfl⟩
 refine aLoop I (fun f m => l.length - numOf (f 9)) ?_ ?_
 ·rw [hI]; exact ⟨0, by omega, rfl, rfl, rfl, rfl, rfl⟩
 intro f m' hrel
 rw [hI] at hrel
 obtain ⟨k, hk, h1, h5, h8, h9, rfl⟩ := hrel
 (repeat (first | refine aSeq fun X hX => ?_ | apply aBlk | apply aSkip | (first | apply aExit | apply aRet); try simp only [slx, ↓reduceIte, jA, reduceCtorEq] | (first | apply aReg | refine aDrE ?_); simp -implicitDefEqProofs only [↓slp, ↓reduceIte, reduceCtorEq, jA, jE, jF, Y2, h1, h9, pI]; try simp only [fo] | apply hX; clear hX X | clear hX X; apply hX; clear hX X | intro hlen; unfold maxLen at hlen | apply And.intro; · first | assumption | and_intros <;> first | omega | assumption))
 refine aIf ?_; simp -implicitDefEqProofs only [↓slp, slb, ↓reduceIte, reduceCtorEq, jA, jE, jF]; refine ⟨fun hb => ?_, fun hb => ?_⟩
 ·have hlt : k < l.length := by simpa using hb
  have hi : IntKind.i64.wrap ((k : Int) + 1) = ((k + 1 : Nat) : Int) := by rw [wrap64 (by omega)]; omega
  have hw : IntKind.i64.wrap ((k : Int) + r) = (k : Int) + r := wrap64 (by omega)
  have hz : ¬ (l.length : Int) = 0 := by omega
  obtain ⟨j, hj⟩ : ∃ j : Nat, ((k : Int) + r).tmod (l.length : Int) = (j : Int) := ⟨(((k : Int) + r).tmod (l.length : Int)).toNat, (Int.toNat_of_nonneg (Int.tmod_nonneg _ (by omega))).symm⟩
  have hjl : j < l.length := by
   have := Int.tmod_lt_of_pos ((k : Int) + r) (show (0 : Int) < (l.length : Int) by omega)
   omega
  have g0 := getD_map Va.pv l j hjl
  cases c1 : (l[j].t.kind == t.kind && l[j].t.name.toList == t.name.toList) with
  | false =>
   (repeat (first | refine aSeq fun X hX => ?_ | apply aBlk | apply aSkip | (first | apply aExit | apply aRet); try simp only [slx, ↓reduceIte, jA, reduceCtorEq] | (first | apply aReg | refine aDrE ?_ | apply aIf); simp -implicitDefEqProofs only [↓slp, ↓reduceIte, reduceCtorEq, jA, jE, jF, Y2, h1, h5, h8, h9, pI, hw, hz, hj, g0, hi, c1]; try simp only [fo] | apply hX; clear hX X | clear hX X; apply hX; clear hX X | intro hlen; unfold maxLen at hlen | apply And.intro; · first | assumption | and_intros <;> first | omega | assumption))
   rw [hI]
   exact ⟨⟨k + 1, hlt, h1, h5, h8, rfl, rfl⟩, by omega⟩
  | true =>
  have hty : l[j].t = t := Ty.ext' c1
  cases c2 : ((l[j].clock.length : Int) == 0) with
  | false =>
   (repeat (first | refine aSeq fun X hX => ?_ | apply aBlk | apply aSkip | (first | apply aExit | apply aRet); try simp only [slx, ↓reduceIte, jA, reduceCtorEq] | (first | apply aReg | refine aDrE ?_ | apply aIf); simp -implicitDefEqProofs only [↓slp, ↓reduceIte, reduceCtorEq, jA, jE, jF, Y2, h1, h5, h8, h9, pI, hw, hz, hj, g0, hi, c1, c2]; try simp only [fo] | apply hX; clear hX X | clear hX X; apply hX; clear hX X | intro hlen; unfold maxLen at hlen | apply And.intro; · first | assumption | and_intros <;> first | omega | assumption))
   rw [hI]
   exact ⟨⟨k + 1, hlt, h1, h5, h8, rfl, rfl⟩, by omega⟩
  | true =>
   have hcl : l[j].clock = [] := List.eq_nil_of_length_eq_zero (by simp at c2; simp [c2])
   (repeat (first | refine aSeq fun X hX => ?_ | apply aBlk | apply aSkip | (first | apply aExit | apply aRet); try simp only [slx, ↓reduceIte, jA, reduceCtorEq] | (first | apply aReg | refine aDrE ?_ | apply aIf); simp -implicitDefEqProofs only [↓slp, ↓reduceIte, reduceCtorEq, jA, jE, jF, Y2, h1, h5, h8, h9, pI, hw, hz, hj, g0, hi, c1, c2]; try simp only [fo] | apply hX; clear hX X | clear hX X; apply hX; clear hX X | intro hlen; unfold maxLen at hlen | apply And.intro; · first | assumption | and_intros <;> first | omega | assumption))
   simp only [aPost, Tryd.results108, aRes_n, aRes_t, aRes_c, pack_one, pack_two]
   exact leave_gst0 hok (.refl m) rfl ⟨l[j].name, true, i', rfl, fun _ => ⟨_, List.getElem_mem hjl, hty, hcl, rfl⟩, rfl⟩
 ·(repeat (first | refine aSeq fun X hX => ?_ | apply aBlk | apply aSkip | (first | apply aExit | apply aRet); try simp only [slx, ↓reduceIte, jA, reduceCtorEq] | (first | apply aReg | refine aDrE ?_ | apply aIf); simp -implicitDefEqProofs only [↓slp, ↓reduceIte, reduceCtorEq, jA, jE, jF, Y2]; try simp only [fo] | apply hX; clear hX X | clear hX X; apply hX; clear hX X | intro hlen; unfold maxLen at hlen | apply And.intro; · first | assumption | and_intros <;> first | omega | assumption))
  simp only [aPost, Tryd.results108, aRes_n, aRes_t, aRes_c, pack_one, pack_two]
  exact leave_gst0 hok (.refl m) rfl ⟨sE, false, i', rfl, (fun h => by cases h), rfl⟩

/-- A variable, or a constant. -/
def isVC (l : List Va) (t : Ty) (e : Ex) : Prop := (∃ s, isVar l t s ∧ e = Ex.sc 4 0 0 s) ∨ isConst t e
set_option maxRecDepth 20000 in
set_option maxHeartbeats 1000000 in
theorem variable_any (p : GP) (m : M) (hok : p.ok m) (o : Own) (l : List Va) (hl : l.length < 2 ^ 40) (t : Ty) (ht : isTy t) (i : Nat) (n q : Int) : ACalls Tryd.prog 106 [.bp p.gp 0, .sl o (l.map Va.pv), t.pv] (gst p m i n q) (fun v m' => ∃ e i', v = Ex.pv e ∧ isVC l t e ∧ m' = gst p m i' n q) := by
 have hG := hok.gp
 have hT := hok.tp
 refine ACalls.enter (mu := [6]) ok_mix Tryd.func106 rfl (by kernel_rfl) (by kernel_rfl) (by simp only [List.length_cons, List.length_nil, Tryd.ntmps106]; omega) ?_
 (repeat (first | refine aSeq fun X hX => ?_ | apply aBlk | apply aSkip | (first | apply aExit | apply aRet); try simp only [slx, ↓reduceIte, jA, reduceCtorEq] | (first | apply aReg | refine aDrE ?_ | apply aIf); simp -implicitDefEqProofs only [↓slp, ↓reduceIte, reduceCtorEq, jA, jE, jF, Y2, hT, hG]; try simp only [fo] | apply hX; clear hX X | clear hX X; apply hX; clear hX X | intro hlen; unfold maxLen at hlen | apply And.intro; · first | assumption | and_intros <;> first | omega | assumption))
 refine callM (pick_any p _ (hok.ext _) o l hl t i n q) ?_
 rintro v m' ⟨s, b, i', rfl, hb, rfl⟩
 cases b with
 | true =>
  simp -implicitDefEqProofs only [↓slp, ↓reduceIte, reduceCtorEq, jA, jE, jF, Y2, hT, hG]; try simp only [fo]
  (repeat (first | refine aSeq fun X hX => ?_ | apply aBlk | apply aSkip | (first | apply aExit | apply aRet); try simp only [slx, ↓reduceIte, jA, reduceCtorEq] | (first | apply aReg | refine aDrE ?_ | apply aIf); simp -implicitDefEqProofs only [↓slp, ↓reduceIte, reduceCtorEq, jA, jE, jF, Y2, hT, hG]; try simp only [fo] | apply hX; clear hX X | clear hX X; apply hX; clear hX X | intro hlen; unfold maxLen at hlen | apply And.intro; · first | assumption | and_intros <;> first | omega | assumption))
  simp only [aPost, Tryd.results106, aRes_n, aRes_t, aRes_c, pack_one, pack_two]
  simp -implicitDefEqProofs only [↓slp, ↓reduceIte, reduceCtorEq, jA, jE, jF, Y2, hT, hG]; try simp only [fo]
  refine leave_gst hok (.refl m) rfl ⟨Ex.sc 4 0 0 s, i', ?_, .inl ⟨s, hb rfl, rfl⟩, rfl⟩
  rw [← Ex.sc_lit]; rfl
 | false =>
  simp -implicitDefEqProofs only [↓slp, ↓reduceIte, reduceCtorEq, jA, jE, jF, Y2, hT, hG]; try simp only [fo]
  (repeat (first | refine aSeq fun X hX => ?_ | apply aBlk | apply aSkip | (first | apply aExit | apply aRet); try simp only [slx, ↓reduceIte, jA, reduceCtorEq] | (first | apply aReg | refine aDrE ?_ | apply aIf); simp -implicitDefEqProofs only [↓slp, ↓reduceIte, reduceCtorEq, jA, jE, jF, Y2, hT, hG]; try simp only [fo] | apply hX; clear hX X | clear hX X; apply hX; clear hX X | intro hlen; unfold maxLen at hlen | apply And.intro; · first | assumption | and_intros <;> first | omega | assumption))
  refine callM (constant_any p _ (hok.ext _) t ht i' n q) ?_
  rintro v m' ⟨e, i2, rfl, he, rfl⟩
  simp -implicitDefEqProofs only [↓slp, ↓reduceIte, reduceCtorEq, jA, jE, jF, Y2, hT, hG]; try simp only [fo]
  (repeat (first | refine aSeq fun X hX => ?_ | apply aBlk | apply aSkip | (first | apply aExit | apply aRet); try simp only [slx, ↓reduceIte, jA, reduceCtorEq] | (first | apply aReg | refine aDrE ?_ | apply aIf); simp -implicitDefEqProofs only [↓slp, ↓reduceIte, reduceCtorEq, jA, jE, jF, Y2, hT, hG]; try simp only [fo] | apply hX; clear hX X | clear hX X; apply hX; clear hX X | intro hlen; unfold maxLen at hlen | apply And.intro; · first | assumption | and_intros <;> first | omega | assumption))
  simp only [aPost, Tryd.results106, aRes_n, aRes_t, aRes_c, pack_one, pack_two]
  simp -implicitDefEqProofs only [↓slp, ↓reduceIte, reduceCtorEq, jA, jE, jF, Y2, hT, hG]; try simp only [fo]
  exact leave_gst hok (.refl m) (by simp only [Ex.settle_pv, Ex.pure_pv]) ⟨e, i2, by simp only [Ex.settle_pv], .inr he, rfl⟩
end Go.Proofs.YteiaedmipkcfeaaDoor

/-
 The maker: operators' expressions.
-/
set_option linter.unusedVariables false
set_option linter.unusedSimpArgs false
namespace Go.Proofs.YteiaedmipkcfeaaDoor
open Nat renaming reduceEqDiff → jA, reduceAdd → jB, reduceMul → jC, reduceLT → jD, reduceLeDiff → jE, reduceBEq → jF, reduceBNe → jG
open Int renaming reduceLE → jH, reduceLT → jI, reduceToNat → jJ, reduceEq → jK
open Go
set_option linter.defProp false
def Y3 := And.intro @slb (And.intro @td_3 (And.intro @zv_3 (And.intro @Tryd.underlying3 (And.intro @td_4 (And.intro @zv_4 (And.intro @Tryd.underlying4 (And.intro @td_5 (And.intro @zv_5 (And.intro @Tryd.underlying5 (And.intro @td_9 (And.intro @zv_9 (And.intro @Tryd.underlying9 (And.intro @td_21 (And.intro @zv_21 (And.intro @Tryd.underlying21 (And.intro @td_22 (And.intro @zv_22 (And.intro @tel_22 (And.intro @Tryd.underlying22 (And.intro @td_57 (And.intro @zv_57 (And.intro @tel_57 (And.intro @Tryd.underlying57 (And.intro @td_48 (And.intro @zv_48 (And.intro @tel_48 (And.intro @Tryd.underlying48 (And.intro @td_33 (And.intro @zv_33 (And.intro @tel_33 (And.intro @Tryd.underlying33 (And.intro @td_59 (And.intro @zv_59 (And.intro @tf_59 (And.intro @td_64 (And.intro @zv_64 (And.intro @tf_64 (And.intro @fl_64 (And.intro @td_65 (And.intro @zv_65 (And.intro @tel_65 (And.intro @Tryd.underlying65 (And.intro @td_67 (And.intro @zv_67 (And.intro @tf_67 (And.intro @nk_76 (And.intro @td_76 (And.intro @zv_76 (And.intro @Tryd.underlying76 (And.intro @td_78 (And.intro @zv_78 (And.intro @tf_78 (And.intro @nk_80 (And.intro @td_80 (And.intro @zv_80 (And.intro @Tryd.underlying80 (And.intro @td_82 (And.intro @zv_82 (And.intro @tf_82 (And.intro @td_117 (And.intro @zv_117 (And.intro @tf_117 (And.intro @td_153 (And.intro @zv_153 (And.intro @tel_153 (And.intro @Tryd.underlying153 (And.intro @Ex.settle_pv (And.intro @Ex.pure_pv (And.intro @Ex.cells_pv (And.intro @Ex.cs.eq_1 (And.intro @On.pv.eq_1 (And.intro @Ty.pv.eq_1 (And.intro @Va.settle_pv (And.intro @Va.pure_pv (And.intro @Va.cells_pv (And.intro @Va.cs.eq_1 (And.intro @Sc.pv.eq_1 (And.intro @gst_nb (And.intro @gst_nt (And.intro @gst_fresh (And.intro @gst_use (And.intro @gst_free (And.intro @gst_alive (And.intro @gst_t (And.intro @gst_g (And.intro @gst_updt (And.intro @gst_updg (And.intro @gst_ext (And.intro @gst_ext2 (And.intro @gst_et (And.intro @gst_eg (And.intro @gst_own (And.intro @gst_own0 (And.intro @gst_ou (And.intro @gst_ou0 (And.intro @GP.tape.eq_1 @GP.gen.eq_1))))))))))))))))))))))))))))))))))))))))))))))))))))))))))))))))))))))))))))))))))))))))))))))))

structure Sc.ok (s : Sc) : Prop where
 ready : s.ready.length < 2 ^ 40
 all : s.all.length < 2 ^ 40
 lasts : s.lasts.length < 2 ^ 40
def Sc.toAll (s : Sc) : Sc := ⟨s.all, s.all, s.lasts⟩
theorem Sc.ok.toAll {s : Sc} (h : s.ok) : s.toAll.ok := ⟨h.all, h.all, h.lasts⟩
def Ex.un (k o : Int) (l : List Ex) : Ex := .mk k o 0 sE [] l 0 0
theorem Ex.un_lit (k o : Int) (l : List Ex) : PV.ag [PV.v (Value.int IntKind.u8 k), PV.v (Value.int IntKind.u8 o), PV.v (Value.int IntKind.i32 0), PV.v (Value.string sE), PV.sl Own.no [], PV.sl Own.no (l.map Ex.pv), PV.v (Value.int IntKind.i64 0), PV.v (Value.int IntKind.i64 0)] = (Ex.un k o l).pv := by
 rw [Ex.pv_eq]; rfl
/-- The expressions that are made by an operator, of those of R. -/
def GOp (R : Sc → Ty → Bool → Ex → Prop) (s : Sc) (t : Ty) (st : Bool) (e : Ex) : Prop :=
 (t = tyI ∧ ∃ a, R s t st a ∧ e = Ex.un 6 2 [a]) ∨
 (t = tyI ∧ ∃ o a b, (3 ≤ o ∧ o ≤ 7) ∧ R s t st a ∧ R s t st b ∧ e = Ex.two 7 o a b) ∨
 (t = tyB ∧ ∃ a, R s t st a ∧ e = Ex.un 6 1 [a]) ∨
 (t = tyB ∧ ∃ o u a b, (((o = 8 ∨ o = 9 ∨ o = 10) ∧ u = tyB) ∨ ((o = 13 ∨ o = 16) ∧ u = tyI) ∨ (o = 11 ∧ isTy u)) ∧ R s u st a ∧ R s u st b ∧ e = Ex.two 7 o a b) ∨
 isVC s.ready t e
def GStepE (R : Sc → Ty → Bool → Ex → Prop) (s : Sc) (t : Ty) (st : Bool) (e : Ex) : Prop :=
 (∃ c a b, R s tyB st c ∧ R s t st a ∧ R s t st b ∧ e = Ex.un 8 0 [c, a, b]) ∨
 (st = true ∧ ∃ c b, isConst t c ∧ R s.toAll t st b ∧ e = Ex.two 9 0 c b) ∨
 (st = true ∧ ∃ a b, R s t st a ∧ R s.toAll t st b ∧ e = Ex.two 11 0 a (Ex.un 10 0 [b])) ∨
 (∃ x, isVar s.lasts t x ∧ e = Ex.sc 5 0 0 x) ∨ GOp R s t st e
/-- The expressions that are made, so deep. -/
def GEx : Nat → Sc → Ty → Bool → Ex → Prop
 | 0, s, t, _, e => isVC s.ready t e
 | d + 1, s, t, st, e => isVC s.ready t e ∨ GStepE (GEx d) s t st e
/-- The contract of expr, so deep. -/
def ExprC (d : Nat) : Prop := ∀ (p : GP) (m : M) (hok : p.ok m) (s : Sc) (hs : s.ok) (t : Ty) (ht : isTy t) (st : Bool) (i : Nat) (n q : Int), ACalls Tryd.prog 95 [.bp p.gp 0, s.pv, t.pv, pI d, pB st] (gst p m i n q) (fun v m' => ∃ e i', v = Ex.pv e ∧ GEx d s t st e ∧ m' = gst p m i' n q)
theorem pickI (r : Int) (h0 : 0 ≤ r) (h1 : r < 5) : [PV.v (Value.int IntKind.u8 3), PV.v (Value.int IntKind.u8 4), PV.v (Value.int IntKind.u8 5), PV.v (Value.int IntKind.u8 6), PV.v (Value.int IntKind.u8 7)].getD r.toNat PV.junk = .v (.int .u8 (3 + r)) := by
 have cas : r = 0 ∨ r = 1 ∨ r = 2 ∨ r = 3 ∨ r = 4 := by omega
 rcases cas with rfl | rfl | rfl | rfl | rfl <;> rfl
theorem pickB (r : Int) (h0 : 0 ≤ r) (h1 : r < 6) : ∃ o : Int, [PV.v (Value.int IntKind.u8 8), PV.v (Value.int IntKind.u8 9), PV.v (Value.int IntKind.u8 10), PV.v (Value.int IntKind.u8 13), PV.v (Value.int IntKind.u8 16), PV.v (Value.int IntKind.u8 11)].getD r.toNat PV.junk = .v (.int .u8 o) ∧ ((r < 3 ∧ (o = 8 ∨ o = 9 ∨ o = 10)) ∨ ((3 ≤ r ∧ r < 5) ∧ (o = 13 ∨ o = 16)) ∨ (r = 5 ∧ o = 11)) := by
 have cas : r = 0 ∨ r = 1 ∨ r = 2 ∨ r = 3 ∨ r = 4 ∨ r = 5 := by omega
 rcases cas with rfl | rfl | rfl | rfl | rfl | rfl
 ·exact ⟨8, rfl, by omega⟩
 ·exact ⟨9, rfl, by omega⟩
 ·exact ⟨10, rfl, by omega⟩
 ·exact ⟨13, rfl, by omega⟩
 ·exact ⟨16, rfl, by omega⟩
 ·exact ⟨11, rfl, by omega⟩

set_option maxRecDepth 20000 in
set_option maxHeartbeats 1000000 in
theorem operatorI_any (d : Nat) (hd : d < 1000) (E : ExprC d) (p : GP) (m : M) (hok : p.ok m) (s : Sc) (hs : s.ok) (st : Bool) (i : Nat) (n q : Int) : ACalls Tryd.prog 109 [.bp p.gp 0, s.pv, tyI.pv, pI ((d + 1 : Nat) : Int), pB st] (gst p m i n q) (fun v m' => ∃ e i', v = Ex.pv e ∧ GOp (GEx d) s tyI st e ∧ m' = gst p m i' n q) := by
 have hG := hok.gp
 have hT := hok.tp
 have hN := hok.ne
 have hw : IntKind.i64.wrap (((d + 1 : Nat) : Int) - 1) = (d : Int) := by rw [wrap64 (by omega)]; omega
 have e1 : (tyI.kind == 1) = false := rfl
 have e2 : (tyI.kind == 2) = true := rfl
 have ht : isTy tyI := .inl rfl
 refine ACalls.enter (mu := [10, 15]) ok_mix Tryd.func109 rfl (by kernel_rfl) (by kernel_rfl) (by simp only [List.length_cons, List.length_nil, Tryd.ntmps109]; omega) ?_
 (repeat (first | refine aSeq fun X hX => ?_ | apply aBlk | apply aSkip | (first | apply aExit | apply aRet); try simp only [slx, ↓reduceIte, jA, reduceCtorEq] | (first | apply aReg | refine aDrE ?_ | apply aIf); simp -implicitDefEqProofs only [↓slp, ↓reduceIte, reduceCtorEq, jA, jE, jF, Y3, hT, hG]; try simp only [fo] | apply hX; clear hX X | clear hX X; apply hX; clear hX X | apply And.intro; · first | assumption | and_intros <;> first | omega | assumption))
 refine callM (next_any p _ (hok.ext _) 6 (by omega) i n q) ?_
 rintro v m' ⟨r, i', rfl, ⟨hr0, hr1⟩, rfl⟩
 simp -implicitDefEqProofs only [↓slp, ↓reduceIte, reduceCtorEq, jA, jE, jF, Y3, hT, hG]; try simp only [fo]
 cases c5 : (r == 5) with
 | true =>
  (repeat (first | refine aSeq fun X hX => ?_ | apply aBlk | apply aSkip | (first | apply aExit | apply aRet); try simp only [slx, ↓reduceIte, jA, reduceCtorEq] | (first | apply aReg | refine aDrE ?_ | apply aIf); simp -implicitDefEqProofs only [↓slp, ↓reduceIte, reduceCtorEq, jA, jE, jF, Y3, hT, hG, e1, e2, c5, hw]; try simp only [fo] | apply hX; clear hX X | clear hX X; apply hX; clear hX X | apply And.intro; · first | assumption | and_intros <;> first | omega | assumption))
  refine callM (E p _ (hok.ext _) s hs tyI ht st _ n q) ?_
  rintro v m' ⟨a, i2, rfl, ha, rfl⟩
  simp -implicitDefEqProofs only [↓slp, ↓reduceIte, reduceCtorEq, jA, jE, jF, Y3, hT, hG]; try simp only [fo]
  (repeat (first | refine aSeq fun X hX => ?_ | apply aBlk | apply aSkip | (first | apply aExit | apply aRet); try simp only [slx, ↓reduceIte, jA, reduceCtorEq] | (first | apply aReg | refine aDrE ?_ | apply aIf); simp -implicitDefEqProofs only [↓slp, ↓reduceIte, reduceCtorEq, jA, jE, jF, Y3, hT, hG]; try simp only [fo] | apply hX; clear hX X | clear hX X; apply hX; clear hX X | apply And.intro; · first | assumption | and_intros <;> first | omega | assumption))
  simp only [aPost, Tryd.results109, aRes_n, aRes_t, aRes_c, pack_one, pack_two]
  simp -implicitDefEqProofs only [↓slp, ↓reduceIte, reduceCtorEq, jA, jE, jF, Y3, hT, hG]; try simp only [fo]
  refine leave_gst hok (.refl m) (by simp only [PV.settle, PV.settles, PV.pure, PV.pures, Ex.settle_pv, Ex.pure_pv]; rfl) ⟨Ex.un 6 2 [a], i2, ?_, .inl ⟨rfl, a, ha, rfl⟩, rfl⟩
  rw [← Ex.un_lit]
  simp only [PV.settle, PV.settles, Ex.settle_pv, List.map_cons, List.map_nil]
 | false =>
  have hr5 : r < 5 := by simp at c5; omega
  have hg := pickI r hr0 hr5
  have hrn : r.toNat < 5 := by omega
  (repeat (first | refine aSeq fun X hX => ?_ | apply aBlk | apply aSkip | (first | apply aExit | apply aRet); try simp only [slx, ↓reduceIte, jA, reduceCtorEq] | (first | apply aReg | refine aDrE ?_ | apply aIf); simp -implicitDefEqProofs only [↓slp, ↓reduceIte, reduceCtorEq, jA, jE, jF, Y3, hT, hG, e1, e2, c5, hw]; try simp only [fo] | apply hX; clear hX X | clear hX X; apply hX; clear hX X | apply And.intro; · first | assumption | and_intros <;> first | omega | assumption))
  refine callM (E p _ (hok.ext _) s hs tyI ht st _ n q) ?_
  rintro v m' ⟨a, i2, rfl, ha, rfl⟩
  simp -implicitDefEqProofs only [↓slp, ↓reduceIte, reduceCtorEq, jA, jE, jF, Y3, hT, hG]; try simp only [fo]
  (repeat (first | refine aSeq fun X hX => ?_ | apply aBlk | apply aSkip | (first | apply aExit | apply aRet); try simp only [slx, ↓reduceIte, jA, reduceCtorEq] | (apply hX; clear hX X) | (clear hX X; apply hX; clear hX X)))
  refine aDrw (fun _ => True) (by kernel_rfl) trivial ?_; simp -implicitDefEqProofs only [eq_self, ↓slp, ↓reduceIte, reduceCtorEq, jA, jE, jF, Y3, hT, hG, hg, hw]; try simp only [fo]
  (repeat (first | (intro hlen; unfold maxLen at hlen) | (apply And.intro; (focus (first | omega | assumption | trivial | (repeat' apply And.intro) <;> first | omega | assumption | trivial)))))
  refine callM (E p _ (hok.ext _) s hs tyI ht st _ n q) ?_
  rintro v m' ⟨b, i3, rfl, hb, rfl⟩
  refine ⟨trivial, ?_⟩
  simp -implicitDefEqProofs only [↓slp, ↓reduceIte, reduceCtorEq, jA, jE, jF, Y3, hT, hG, hg, forall_eq]; try simp only [fo]
  refine callE (two_any 7 (3 + r) a b _) ?_
  refine ⟨trivial, ?_⟩
  simp -implicitDefEqProofs only [↓slp, ↓reduceIte, reduceCtorEq, jA, jE, jF, Y3, hT, hG, forall_eq]; try simp only [fo]
  (repeat (first | refine aSeq fun X hX => ?_ | apply aBlk | apply aSkip | (first | apply aExit | apply aRet); try simp only [slx, ↓reduceIte, jA, reduceCtorEq] | (first | apply aReg | refine aDrE ?_ | apply aIf); simp -implicitDefEqProofs only [↓slp, ↓reduceIte, reduceCtorEq, jA, jE, jF, Y3, hT, hG]; try simp only [fo] | apply hX; clear hX X | clear hX X; apply hX; clear hX X | apply And.intro; · first | assumption | and_intros <;> first | omega | assumption))
  simp only [aPost, Tryd.results109, aRes_n, aRes_t, aRes_c, pack_one, pack_two]
  simp -implicitDefEqProofs only [↓slp, ↓reduceIte, reduceCtorEq, jA, jE, jF, Y3, hT, hG]; try simp only [fo]
  exact leave_gst hok (.refl m) (by simp only [Ex.settle_pv, Ex.pure_pv]) ⟨_, i3, by simp only [Ex.settle_pv], .inr (.inl ⟨rfl, 3 + r, a, b, ⟨by omega, by omega⟩, ha, hb, rfl⟩), rfl⟩

set_option maxRecDepth 20000 in
set_option maxHeartbeats 1000000 in
theorem operatorC_any (d : Nat) (hd : d < 1000) (p : GP) (m : M) (hok : p.ok m) (s : Sc) (hs : s.ok) (st : Bool) (i : Nat) (n q : Int) : ACalls Tryd.prog 109 [.bp p.gp 0, s.pv, tyC.pv, pI ((d + 1 : Nat) : Int), pB st] (gst p m i n q) (fun v m' => ∃ e i', v = Ex.pv e ∧ GOp (GEx d) s tyC st e ∧ m' = gst p m i' n q) := by
 have hG := hok.gp
 have hT := hok.tp
 have hN := hok.ne
 have e1 : (tyC.kind == 1) = false := rfl
 have e2 : (tyC.kind == 2) = false := rfl
 have ht : isTy tyC := .inr (.inr rfl)
 refine ACalls.enter (mu := [10, 15]) ok_mix Tryd.func109 rfl (by kernel_rfl) (by kernel_rfl) (by simp only [List.length_cons, List.length_nil, Tryd.ntmps109]; omega) ?_
 (repeat (first | refine aSeq fun X hX => ?_ | apply aBlk | apply aSkip | (first | apply aExit | apply aRet); try simp only [slx, ↓reduceIte, jA, reduceCtorEq] | (first | apply aReg | refine aDrE ?_ | apply aIf); simp -implicitDefEqProofs only [↓slp, ↓reduceIte, reduceCtorEq, jA, jE, jF, Y3, hT, hG]; try simp only [fo] | apply hX; clear hX X | clear hX X; apply hX; clear hX X | apply And.intro; · first | assumption | and_intros <;> first | omega | assumption))
 refine callM (next_any p _ (hok.ext _) 6 (by omega) i n q) ?_
 rintro v m' ⟨r, i', rfl, ⟨hr0, hr1⟩, rfl⟩
 simp -implicitDefEqProofs only [↓slp, ↓reduceIte, reduceCtorEq, jA, jE, jF, Y3, hT, hG]; try simp only [fo]
 (repeat (first | refine aSeq fun X hX => ?_ | apply aBlk | apply aSkip | (first | apply aExit | apply aRet); try simp only [slx, ↓reduceIte, jA, reduceCtorEq] | (first | apply aReg | refine aDrE ?_ | apply aIf); simp -implicitDefEqProofs only [↓slp, ↓reduceIte, reduceCtorEq, jA, jE, jF, Y3, hT, hG, e1, e2]; try simp only [fo] | apply hX; clear hX X | clear hX X; apply hX; clear hX X | apply And.intro; · first | assumption | and_intros <;> first | omega | assumption))
 refine callM (variable_any p _ (hok.ext _) _ _ hs.ready tyC ht _ n q) ?_
 rintro v m' ⟨a, i2, rfl, ha, rfl⟩
 simp -implicitDefEqProofs only [↓slp, ↓reduceIte, reduceCtorEq, jA, jE, jF, Y3, hT, hG]; try simp only [fo]
 (repeat (first | refine aSeq fun X hX => ?_ | apply aBlk | apply aSkip | (first | apply aExit | apply aRet); try simp only [slx, ↓reduceIte, jA, reduceCtorEq] | (first | apply aReg | refine aDrE ?_ | apply aIf); simp -implicitDefEqProofs only [↓slp, ↓reduceIte, reduceCtorEq, jA, jE, jF, Y3, hT, hG]; try simp only [fo] | apply hX; clear hX X | clear hX X; apply hX; clear hX X | apply And.intro; · first | assumption | and_intros <;> first | omega | assumption))
 simp only [aPost, Tryd.results109, aRes_n, aRes_t, aRes_c, pack_one, pack_two]
 simp -implicitDefEqProofs only [↓slp, ↓reduceIte, reduceCtorEq, jA, jE, jF, Y3, hT, hG]; try simp only [fo]
 exact leave_gst hok (.refl m) (by simp only [Ex.settle_pv, Ex.pure_pv]) ⟨_, i2, by simp only [Ex.settle_pv], .inr (.inr (.inr (.inr ha))), rfl⟩
end Go.Proofs.YteiaedmipkcfeaaDoor

/-
 The maker: operators' expressions of truths.
-/
set_option linter.unusedVariables false
set_option linter.unusedSimpArgs false
namespace Go.Proofs.YteiaedmipkcfeaaDoor
open Nat renaming reduceEqDiff → jA, reduceAdd → jB, reduceMul → jC, reduceLT → jD, reduceLeDiff → jE, reduceBEq → jF, reduceBNe → jG
open Int renaming reduceLE → jH, reduceLT → jI, reduceToNat → jJ, reduceEq → jK
open Go


set_option maxRecDepth 20000 in
set_option maxHeartbeats 2000000 in
theorem operatorB_any (d : Nat) (hd : d < 1000) (E : ExprC d) (p : GP) (m : M) (hok : p.ok m) (s : Sc) (hs : s.ok) (st : Bool) (i : Nat) (n q : Int) : ACalls Tryd.prog 109 [.bp p.gp 0, s.pv, tyB.pv, pI ((d + 1 : Nat) : Int), pB st] (gst p m i n q) (fun v m' => ∃ e i', v = Ex.pv e ∧ GOp (GEx d) s tyB st e ∧ m' = gst p m i' n q) := by
 have hG := hok.gp
 have hT := hok.tp
 have hN := hok.ne
 have hw : IntKind.i64.wrap (((d + 1 : Nat) : Int) - 1) = (d : Int) := by rw [wrap64 (by omega)]; omega
 have e1 : (tyB.kind == 1) = true := rfl
 have e2 : (tyB.kind == 2) = false := rfl
 have ht : isTy tyB := .inr (.inl rfl)
 refine ACalls.enter (mu := [10, 15]) ok_mix Tryd.func109 rfl (by kernel_rfl) (by kernel_rfl) (by simp only [List.length_cons, List.length_nil, Tryd.ntmps109]; omega) ?_
 (repeat (first | refine aSeq fun X hX => ?_ | apply aBlk | apply aSkip | (first | apply aExit | apply aRet); try simp only [slx, ↓reduceIte, jA, reduceCtorEq] | (first | apply aReg | refine aDrE ?_ | apply aIf); simp -implicitDefEqProofs only [↓slp, ↓reduceIte, reduceCtorEq, jA, jE, jF, Y3, hT, hG]; try simp only [fo] | apply hX; clear hX X | clear hX X; apply hX; clear hX X | apply And.intro; · first | assumption | and_intros <;> first | omega | assumption))
 refine callM (next_any p _ (hok.ext _) 6 (by omega) i n q) ?_
 rintro v m' ⟨r, i', rfl, ⟨hr0, hr1⟩, rfl⟩
 simp -implicitDefEqProofs only [↓slp, ↓reduceIte, reduceCtorEq, jA, jE, jF, Y3, hT, hG]; try simp only [fo]
 obtain ⟨o, hg, ho⟩ := pickB r hr0 hr1
 have hrn : r.toNat < 6 := by omega
 cases c3 : decide (r ≥ 3) with
 | false =>
  have hlt3 : r < 3 := by simp at c3; omega
  have c5 : (r == 5) = false := by simp; omega
  have hoB : (o = 8 ∨ o = 9 ∨ o = 10) := by omega
  cases c0 : (r == 0) with
  | true =>
   have hr' : r = 0 := by simpa using c0
   (repeat (first | refine aSeq fun X hX => ?_ | apply aBlk | apply aSkip | (first | apply aExit | apply aRet); try simp only [slx, ↓reduceIte, jA, reduceCtorEq] | (first | apply aReg | refine aDrE ?_ | apply aIf); simp -implicitDefEqProofs only [↓slp, ↓reduceIte, reduceCtorEq, jA, jE, jF, Y3, hT, hG, e1, e2, c3, c5, c0]; try simp only [fo] | apply hX; clear hX X | clear hX X; apply hX; clear hX X | apply And.intro; · first | assumption | and_intros <;> first | omega | assumption))
   refine callM (next_any p _ (hok.ext _) 3 (by omega) _ n q) ?_
   rintro v m' ⟨r2, i2, rfl, ⟨h20, h21⟩, rfl⟩
   cases c2 : (r2 == 0) with
   | true =>
    simp -implicitDefEqProofs only [↓slp, ↓reduceIte, reduceCtorEq, jA, jE, jF, Y3, hT, hG, c2]; try simp only [fo]
    (repeat (first | refine aSeq fun X hX => ?_ | apply aBlk | apply aSkip | (first | apply aExit | apply aRet); try simp only [slx, ↓reduceIte, jA, reduceCtorEq] | (first | apply aReg | refine aDrE ?_ | apply aIf); simp -implicitDefEqProofs only [↓slp, ↓reduceIte, reduceCtorEq, jA, jE, jF, Y3, hT, hG, hw]; try simp only [fo] | apply hX; clear hX X | clear hX X; apply hX; clear hX X | apply And.intro; · first | assumption | and_intros <;> first | omega | assumption))
    refine callM (E p _ (hok.ext _) s hs tyB ht st _ n q) ?_
    rintro v m' ⟨a, i3, rfl, ha, rfl⟩
    simp -implicitDefEqProofs only [↓slp, ↓reduceIte, reduceCtorEq, jA, jE, jF, Y3, hT, hG]; try simp only [fo]
    (repeat (first | refine aSeq fun X hX => ?_ | apply aBlk | apply aSkip | (first | apply aExit | apply aRet); try simp only [slx, ↓reduceIte, jA, reduceCtorEq] | (first | apply aReg | refine aDrE ?_ | apply aIf); simp -implicitDefEqProofs only [↓slp, ↓reduceIte, reduceCtorEq, jA, jE, jF, Y3, hT, hG]; try simp only [fo] | apply hX; clear hX X | clear hX X; apply hX; clear hX X | apply And.intro; · first | assumption | and_intros <;> first | omega | assumption))
    simp only [aPost, Tryd.results109, aRes_n, aRes_t, aRes_c, pack_one, pack_two]
    simp -implicitDefEqProofs only [↓slp, ↓reduceIte, reduceCtorEq, jA, jE, jF, Y3, hT, hG]; try simp only [fo]
    refine leave_gst hok (.refl m) (by simp only [PV.settle, PV.settles, PV.pure, PV.pures, Ex.settle_pv, Ex.pure_pv]; rfl) ⟨Ex.un 6 1 [a], i3, ?_, .inr (.inr (.inl ⟨rfl, a, ha, rfl⟩)), rfl⟩
    rw [← Ex.un_lit]
    simp only [PV.settle, PV.settles, Ex.settle_pv, List.map_cons, List.map_nil]
   | false =>
    simp -implicitDefEqProofs only [↓slp, ↓reduceIte, reduceCtorEq, jA, jE, jF, Y3, hT, hG, c2]; try simp only [fo]
    (repeat (first | refine aSeq fun X hX => ?_ | apply aBlk | apply aSkip | (first | apply aExit | apply aRet); try simp only [slx, ↓reduceIte, jA, reduceCtorEq] | (first | apply aReg | refine aDrE ?_ | apply aIf); simp -implicitDefEqProofs only [↓slp, ↓reduceIte, reduceCtorEq, jA, jE, jF, Y3, hT, hG, hw]; try simp only [fo] | apply hX; clear hX X | clear hX X; apply hX; clear hX X | apply And.intro; · first | assumption | and_intros <;> first | omega | assumption))
    refine callM (E p _ (hok.ext _) s hs tyB ht st _ n q) ?_
    rintro v m' ⟨a, i4, rfl, ha, rfl⟩
    simp -implicitDefEqProofs only [↓slp, ↓reduceIte, reduceCtorEq, jA, jE, jF, Y3, hT, hG]; try simp only [fo]
    (repeat (first | refine aSeq fun X hX => ?_ | apply aBlk | apply aSkip | (first | apply aExit | apply aRet); try simp only [slx, ↓reduceIte, jA, reduceCtorEq] | (apply hX; clear hX X) | (clear hX X; apply hX; clear hX X)))
    refine aDrw (isG1 p m [.v (.int .u8 tyB.kind), .v (.string tyB.name)]) (by kernel_rfl) ⟨_, _, _, _, _, rfl⟩ ?_
    simp -implicitDefEqProofs only [↓slp, ↓reduceIte, reduceCtorEq, jA, jE, jF, Y3, hT, hG, hg, hw, isG1_all, forall_const]; try simp only [fo]
    (repeat (first | (intro hlen; unfold maxLen at hlen) | (apply And.intro; (focus (first | omega | assumption | trivial | (repeat' apply And.intro) <;> first | omega | assumption | trivial)))))
    refine callM (E p _ (hok.ext _) s hs tyB ht st _ n q) ?_
    rintro v m' ⟨b, i5, rfl, hb, rfl⟩
    refine ⟨⟨_, _, _, _, _, rfl⟩, ?_⟩
    simp -implicitDefEqProofs only [↓slp, ↓reduceIte, reduceCtorEq, jA, jE, jF, Y3, hT, hG, hg, isG1_all, forall_const]; try simp only [fo]
    refine callE (two_any 7 o a b _) ?_
    refine ⟨⟨_, _, _, _, _, rfl⟩, ?_⟩
    simp -implicitDefEqProofs only [↓slp, ↓reduceIte, reduceCtorEq, jA, jE, jF, Y3, hT, hG, isG1_all, forall_const]; try simp only [fo]
    refine ⟨⟨_, _, _, _, _, rfl⟩, ?_⟩
    (repeat (first | refine aSeq fun X hX => ?_ | apply aBlk | apply aSkip | (first | apply aExit | apply aRet); try simp only [slx, ↓reduceIte, jA, reduceCtorEq] | (first | apply aReg | refine aDrE ?_ | apply aIf); simp -implicitDefEqProofs only [↓slp, ↓reduceIte, reduceCtorEq, jA, jE, jF, Y3, hT, hG]; try simp only [fo] | apply hX; clear hX X | clear hX X; apply hX; clear hX X | apply And.intro; · first | assumption | and_intros <;> first | omega | assumption))
    simp only [aPost, Tryd.results109, aRes_n, aRes_t, aRes_c, pack_one, pack_two]
    simp -implicitDefEqProofs only [↓slp, ↓reduceIte, reduceCtorEq, jA, jE, jF, Y3, hT, hG]; try simp only [fo]
    exact leave_gst hok (.refl m) (by simp only [Ex.settle_pv, Ex.pure_pv]) ⟨_, i5, by simp only [Ex.settle_pv], .inr (.inr (.inr (.inl ⟨rfl, o, tyB, a, b, .inl ⟨hoB, rfl⟩, ha, hb, rfl⟩))), rfl⟩
  | false =>
   (repeat (first | refine aSeq fun X hX => ?_ | apply aBlk | apply aSkip | (first | apply aExit | apply aRet); try simp only [slx, ↓reduceIte, jA, reduceCtorEq] | (first | apply aReg | refine aDrE ?_ | apply aIf); simp -implicitDefEqProofs only [↓slp, ↓reduceIte, reduceCtorEq, jA, jE, jF, Y3, hT, hG, e1, e2, c3, c5, c0, hw]; try simp only [fo] | apply hX; clear hX X | clear hX X; apply hX; clear hX X | apply And.intro; · first | assumption | and_intros <;> first | omega | assumption))
   refine callM (E p _ (hok.ext _) s hs tyB ht st _ n q) ?_
   rintro v m' ⟨a, i4, rfl, ha, rfl⟩
   simp -implicitDefEqProofs only [↓slp, ↓reduceIte, reduceCtorEq, jA, jE, jF, Y3, hT, hG]; try simp only [fo]
   (repeat (first | refine aSeq fun X hX => ?_ | apply aBlk | apply aSkip | (first | apply aExit | apply aRet); try simp only [slx, ↓reduceIte, jA, reduceCtorEq] | (apply hX; clear hX X) | (clear hX X; apply hX; clear hX X)))
   refine aDrw (isG1 p m [.v (.int .u8 tyB.kind), .v (.string tyB.name)]) (by kernel_rfl) ⟨_, _, _, _, _, rfl⟩ ?_
   simp -implicitDefEqProofs only [↓slp, ↓reduceIte, reduceCtorEq, jA, jE, jF, Y3, hT, hG, hg, hw, isG1_all, forall_const]; try simp only [fo]
   (repeat (first | (intro hlen; unfold maxLen at hlen) | (apply And.intro; (focus (first | omega | assumption | trivial | (repeat' apply And.intro) <;> first | omega | assumption | trivial)))))
   refine callM (E p _ (hok.ext _) s hs tyB ht st _ n q) ?_
   rintro v m' ⟨b, i5, rfl, hb, rfl⟩
   refine ⟨⟨_, _, _, _, _, rfl⟩, ?_⟩
   simp -implicitDefEqProofs only [↓slp, ↓reduceIte, reduceCtorEq, jA, jE, jF, Y3, hT, hG, hg, isG1_all, forall_const]; try simp only [fo]
   refine callE (two_any 7 o a b _) ?_
   refine ⟨⟨_, _, _, _, _, rfl⟩, ?_⟩
   simp -implicitDefEqProofs only [↓slp, ↓reduceIte, reduceCtorEq, jA, jE, jF, Y3, hT, hG, isG1_all, forall_const]; try simp only [fo]
   refine ⟨⟨_, _, _, _, _, rfl⟩, ?_⟩
   (repeat (first | refine aSeq fun X hX => ?_ | apply aBlk | apply aSkip | (first | apply aExit | apply aRet); try simp only [slx, ↓reduceIte, jA, reduceCtorEq] | (first | apply aReg | refine aDrE ?_ | apply aIf); simp -implicitDefEqProofs only [↓slp, ↓reduceIte, reduceCtorEq, jA, jE, jF, Y3, hT, hG]; try simp only [fo] | apply hX; clear hX X | clear hX X; apply hX; clear hX X | apply And.intro; · first | assumption | and_intros <;> first | omega | assumption))
   simp only [aPost, Tryd.results109, aRes_n, aRes_t, aRes_c, pack_one, pack_two]
   simp -implicitDefEqProofs only [↓slp, ↓reduceIte, reduceCtorEq, jA, jE, jF, Y3, hT, hG]; try simp only [fo]
   exact leave_gst hok (.refl m) (by simp only [Ex.settle_pv, Ex.pure_pv]) ⟨_, i5, by simp only [Ex.settle_pv], .inr (.inr (.inr (.inl ⟨rfl, o, tyB, a, b, .inl ⟨hoB, rfl⟩, ha, hb, rfl⟩))), rfl⟩
 | true =>
  have hge3 : 3 ≤ r := by simpa using c3
  have c0 : (r == 0) = false := by simp; omega
  (repeat (first | refine aSeq fun X hX => ?_ | apply aBlk | apply aSkip | (first | apply aExit | apply aRet); try simp only [slx, ↓reduceIte, jA, reduceCtorEq] | (first | apply aReg | refine aDrE ?_ | apply aIf); simp -implicitDefEqProofs only [↓slp, ↓reduceIte, reduceCtorEq, jA, jE, jF, Y3, hT, hG, e1, e2, c3]; try simp only [fo] | apply hX; clear hX X | clear hX X; apply hX; clear hX X | apply And.intro; · first | assumption | and_intros <;> first | omega | assumption))
  refine callE (tyI_any _) ?_
  simp -implicitDefEqProofs only [↓slp, ↓reduceIte, reduceCtorEq, jA, jE, jF, Y3, hT, hG]; try simp only [fo]
  cases c5 : (r == 5) with
  | false =>
   have hr5 : r < 5 := by simp at c5; omega
   have hoB : (o = 13 ∨ o = 16) := by omega
   (repeat (first | refine aSeq fun X hX => ?_ | apply aBlk | apply aSkip | (first | apply aExit | apply aRet); try simp only [slx, ↓reduceIte, jA, reduceCtorEq] | (first | apply aReg | refine aDrE ?_ | apply aIf); simp -implicitDefEqProofs only [↓slp, ↓reduceIte, reduceCtorEq, jA, jE, jF, Y3, hT, hG, c5, c0, hw]; try simp only [fo] | apply hX; clear hX X | clear hX X; apply hX; clear hX X | apply And.intro; · first | assumption | and_intros <;> first | omega | assumption))
   refine callM (E p _ (hok.ext _) s hs tyI (.inl rfl) st _ n q) ?_
   rintro v m' ⟨a, i4, rfl, ha, rfl⟩
   simp -implicitDefEqProofs only [↓slp, ↓reduceIte, reduceCtorEq, jA, jE, jF, Y3, hT, hG]; try simp only [fo]
   (repeat (first | refine aSeq fun X hX => ?_ | apply aBlk | apply aSkip | (first | apply aExit | apply aRet); try simp only [slx, ↓reduceIte, jA, reduceCtorEq] | (apply hX; clear hX X) | (clear hX X; apply hX; clear hX X)))
   refine aDrw (isG1 p m [.v (.int .u8 tyI.kind), .v (.string tyI.name)]) (by kernel_rfl) ⟨_, _, _, _, _, rfl⟩ ?_
   simp -implicitDefEqProofs only [↓slp, ↓reduceIte, reduceCtorEq, jA, jE, jF, Y3, hT, hG, hg, hw, isG1_all, forall_const]; try simp only [fo]
   (repeat (first | (intro hlen; unfold maxLen at hlen) | (apply And.intro; (focus (first | omega | assumption | trivial | (repeat' apply And.intro) <;> first | omega | assumption | trivial)))))
   refine callM (E p _ (hok.ext _) s hs tyI (.inl rfl) st _ n q) ?_
   rintro v m' ⟨b, i5, rfl, hb, rfl⟩
   refine ⟨⟨_, _, _, _, _, rfl⟩, ?_⟩
   simp -implicitDefEqProofs only [↓slp, ↓reduceIte, reduceCtorEq, jA, jE, jF, Y3, hT, hG, hg, isG1_all, forall_const]; try simp only [fo]
   refine callE (two_any 7 o a b _) ?_
   refine ⟨⟨_, _, _, _, _, rfl⟩, ?_⟩
   simp -implicitDefEqProofs only [↓slp, ↓reduceIte, reduceCtorEq, jA, jE, jF, Y3, hT, hG, isG1_all, forall_const]; try simp only [fo]
   refine ⟨⟨_, _, _, _, _, rfl⟩, ?_⟩
   (repeat (first | refine aSeq fun X hX => ?_ | apply aBlk | apply aSkip | (first | apply aExit | apply aRet); try simp only [slx, ↓reduceIte, jA, reduceCtorEq] | (first | apply aReg | refine aDrE ?_ | apply aIf); simp -implicitDefEqProofs only [↓slp, ↓reduceIte, reduceCtorEq, jA, jE, jF, Y3, hT, hG]; try simp only [fo] | apply hX; clear hX X | clear hX X; apply hX; clear hX X | apply And.intro; · first | assumption | and_intros <;> first | omega | assumption))
   simp only [aPost, Tryd.results109, aRes_n, aRes_t, aRes_c, pack_one, pack_two]
   simp -implicitDefEqProofs only [↓slp, ↓reduceIte, reduceCtorEq, jA, jE, jF, Y3, hT, hG]; try simp only [fo]
   exact leave_gst hok (.refl m) (by simp only [Ex.settle_pv, Ex.pure_pv]) ⟨_, i5, by simp only [Ex.settle_pv], .inr (.inr (.inr (.inl ⟨rfl, o, tyI, a, b, .inr (.inl ⟨hoB, rfl⟩), ha, hb, rfl⟩))), rfl⟩
  | true =>
   have hr5 : r = 5 := by simpa using c5
   have hoB : o = 11 := by omega
   (repeat (first | refine aSeq fun X hX => ?_ | apply aBlk | apply aSkip | (first | apply aExit | apply aRet); try simp only [slx, ↓reduceIte, jA, reduceCtorEq] | (first | apply aReg | refine aDrE ?_ | apply aIf); simp -implicitDefEqProofs only [↓slp, ↓reduceIte, reduceCtorEq, jA, jE, jF, Y3, hT, hG, c5]; try simp only [fo] | apply hX; clear hX X | clear hX X; apply hX; clear hX X | apply And.intro; · first | assumption | and_intros <;> first | omega | assumption))
   refine callM (typ_any p _ (hok.ext _) _ n q) ?_
   rintro v m' ⟨u, i2, rfl, hu, rfl⟩
   simp -implicitDefEqProofs only [↓slp, ↓reduceIte, reduceCtorEq, jA, jE, jF, Y3, hT, hG]; try simp only [fo]
   (repeat (first | refine aSeq fun X hX => ?_ | apply aBlk | apply aSkip | (first | apply aExit | apply aRet); try simp only [slx, ↓reduceIte, jA, reduceCtorEq] | (first | apply aReg | refine aDrE ?_ | apply aIf); simp -implicitDefEqProofs only [↓slp, ↓reduceIte, reduceCtorEq, jA, jE, jF, Y3, hT, hG, c0, hw]; try simp only [fo] | apply hX; clear hX X | clear hX X; apply hX; clear hX X | apply And.intro; · first | assumption | and_intros <;> first | omega | assumption))
   refine callM (E p _ (hok.ext _) s hs u hu st _ n q) ?_
   rintro v m' ⟨a, i4, rfl, ha, rfl⟩
   simp -implicitDefEqProofs only [↓slp, ↓reduceIte, reduceCtorEq, jA, jE, jF, Y3, hT, hG]; try simp only [fo]
   (repeat (first | refine aSeq fun X hX => ?_ | apply aBlk | apply aSkip | (first | apply aExit | apply aRet); try simp only [slx, ↓reduceIte, jA, reduceCtorEq] | (apply hX; clear hX X) | (clear hX X; apply hX; clear hX X)))
   refine aDrw (isG1 p m [.v (.int .u8 u.kind), .v (.string u.name)]) (by kernel_rfl) ⟨_, _, _, _, _, rfl⟩ ?_
   simp -implicitDefEqProofs only [↓slp, ↓reduceIte, reduceCtorEq, jA, jE, jF, Y3, hT, hG, hg, hw, isG1_all, forall_const]; try simp only [fo]
   (repeat (first | (intro hlen; unfold maxLen at hlen) | (apply And.intro; (focus (first | omega | assumption | trivial | (repeat' apply And.intro) <;> first | omega | assumption | trivial)))))
   refine callM (E p _ (hok.ext _) s hs u hu st _ n q) ?_
   rintro v m' ⟨b, i5, rfl, hb, rfl⟩
   refine ⟨⟨_, _, _, _, _, rfl⟩, ?_⟩
   simp -implicitDefEqProofs only [↓slp, ↓reduceIte, reduceCtorEq, jA, jE, jF, Y3, hT, hG, hg, isG1_all, forall_const]; try simp only [fo]
   refine callE (two_any 7 o a b _) ?_
   refine ⟨⟨_, _, _, _, _, rfl⟩, ?_⟩
   simp -implicitDefEqProofs only [↓slp, ↓reduceIte, reduceCtorEq, jA, jE, jF, Y3, hT, hG, isG1_all, forall_const]; try simp only [fo]
   refine ⟨⟨_, _, _, _, _, rfl⟩, ?_⟩
   (repeat (first | refine aSeq fun X hX => ?_ | apply aBlk | apply aSkip | (first | apply aExit | apply aRet); try simp only [slx, ↓reduceIte, jA, reduceCtorEq] | (first | apply aReg | refine aDrE ?_ | apply aIf); simp -implicitDefEqProofs only [↓slp, ↓reduceIte, reduceCtorEq, jA, jE, jF, Y3, hT, hG]; try simp only [fo] | apply hX; clear hX X | clear hX X; apply hX; clear hX X | apply And.intro; · first | assumption | and_intros <;> first | omega | assumption))
   simp only [aPost, Tryd.results109, aRes_n, aRes_t, aRes_c, pack_one, pack_two]
   simp -implicitDefEqProofs only [↓slp, ↓reduceIte, reduceCtorEq, jA, jE, jF, Y3, hT, hG]; try simp only [fo]
   exact leave_gst hok (.refl m) (by simp only [Ex.settle_pv, Ex.pure_pv]) ⟨_, i5, by simp only [Ex.settle_pv], .inr (.inr (.inr (.inl ⟨rfl, o, u, a, b, .inr (.inr ⟨hoB, hu⟩), ha, hb, rfl⟩))), rfl⟩
end Go.Proofs.YteiaedmipkcfeaaDoor
