/-
 Texts that belong together: AbMk4, AbMk5.
-/
-- halved
import Derived.Test.YtibhhoknipdlpaaMkA
/-
 The maker: operators' expressions.
-/
set_option linter.unusedVariables false
set_option linter.unusedSimpArgs false
namespace Go.Proofs.Ytibhhoknipdlpaa
open Nat renaming reduceEqDiff → jA, reduceAdd → jB, reduceMul → jC, reduceLT → jD, reduceLeDiff → jE, reduceBEq → jF, reduceBNe → jG
open Int renaming reduceLE → jH, reduceLT → jI, reduceToNat → jJ, reduceEq → jK
open Go
set_option linter.defProp false
def Yb := And.intro @slb (And.intro @td_3 (And.intro @zv_3 (And.intro @Try.underlying3 (And.intro @td_4 (And.intro @zv_4 (And.intro @Try.underlying4 (And.intro @td_5 (And.intro @zv_5 (And.intro @Try.underlying5 (And.intro @td_9 (And.intro @zv_9 (And.intro @Try.underlying9 (And.intro @td_21 (And.intro @zv_21 (And.intro @Try.underlying21 (And.intro @td_22 (And.intro @zv_22 (And.intro @tel_22 (And.intro @Try.underlying22 (And.intro @td_30 (And.intro @zv_30 (And.intro @tel_30 (And.intro @Try.underlying30 (And.intro @td_32 (And.intro @zv_32 (And.intro @tel_32 (And.intro @Try.underlying32 (And.intro @td_41 (And.intro @zv_41 (And.intro @tel_41 (And.intro @Try.underlying41 (And.intro @td_44 (And.intro @zv_44 (And.intro @tf_44 (And.intro @td_49 (And.intro @zv_49 (And.intro @tf_49 (And.intro @fl_49 (And.intro @td_50 (And.intro @zv_50 (And.intro @tel_50 (And.intro @Try.underlying50 (And.intro @td_52 (And.intro @zv_52 (And.intro @tf_52 (And.intro @nk_92 (And.intro @td_92 (And.intro @zv_92 (And.intro @Try.underlying92 (And.intro @td_94 (And.intro @zv_94 (And.intro @tf_94 (And.intro @nk_96 (And.intro @td_96 (And.intro @zv_96 (And.intro @Try.underlying96 (And.intro @td_98 (And.intro @zv_98 (And.intro @tf_98 (And.intro @td_144 (And.intro @zv_144 (And.intro @tf_144 (And.intro @td_154 (And.intro @zv_154 (And.intro @tel_154 (And.intro @Try.underlying154 (And.intro @Ex.settle_pv (And.intro @Ex.pure_pv (And.intro @Ex.cells_pv (And.intro @Ex.cs.eq_1 (And.intro @On.pv.eq_1 (And.intro @Ty.pv.eq_1 (And.intro @Va.settle_pv (And.intro @Va.pure_pv (And.intro @Va.cells_pv (And.intro @Va.cs.eq_1 (And.intro @Sc.pv.eq_1 (And.intro @gst_nb (And.intro @gst_nt (And.intro @gst_fresh (And.intro @gst_use (And.intro @gst_free (And.intro @gst_alive (And.intro @gst_t (And.intro @gst_g (And.intro @gst_updt (And.intro @gst_updg (And.intro @gst_ext (And.intro @gst_ext2 (And.intro @gst_et (And.intro @gst_eg (And.intro @gst_own (And.intro @gst_own0 (And.intro @gst_ou (And.intro @gst_ou0 (And.intro @GP.tape.eq_1 @GP.gen.eq_1))))))))))))))))))))))))))))))))))))))))))))))))))))))))))))))))))))))))))))))))))))))))))))))))
-- EXX: Sc.pv, gst_nb, gst_nt, gst_fresh, gst_use, gst_free, gst_alive, gst_t, gst_g, gst_updt, gst_updg, gst_ext, gst_ext2, gst_et, gst_eg, gst_own, gst_own0, gst_ou, gst_ou0, GP.tape, GP.gen
-- TYPES: 3 4 5 9 21 22 30 32 41 44 49 50 52 92 94 96 98 144 154

structure Sc.ok (s : Sc) : Prop where
 ready : s.ready.length < 2 ^ 40
 all : s.all.length < 2 ^ 40
 lasts : s.lasts.length < 2 ^ 40
def Sc.toAll (s : Sc) : Sc := ⟨s.all, s.all, s.lasts⟩
theorem Sc.ok.toAll {s : Sc} (h : s.ok) : s.toAll.ok := ⟨h.all, h.all, h.lasts⟩
def Ex.un (k o : Int) (l : List Ex) : Ex := .mk k o 0 sE [] l 0 0
theorem Ex.un_lit (k o : Int) (l : List Ex) : PV.ag [PV.v (Value.int IntKind.u8 k), PV.v (Value.int IntKind.u8 o), PV.v (Value.int IntKind.i32 0), PV.v (Value.string sE), PV.sl Own.no [], PV.sl Own.no (l.map Ex.pv), PV.v (Value.int IntKind.i64 0), PV.v (Value.int IntKind.i64 0)] = (Ex.un k o l).pv := by
 rw [Ex.pv_eq]; rfl
/-- The expressions that are made by an operator, of those of R. -/
def GOp (R : Sc → Ty → Bool → Ex → Prop) (s : Sc) (t : Ty) (st : Bool) (e : Ex) : Prop :=
 (t = tyI ∧ ∃ a, R s t st a ∧ e = Ex.un 6 2 [a]) ∨
 (t = tyI ∧ ∃ o a b, (3 ≤ o ∧ o ≤ 7) ∧ R s t st a ∧ R s t st b ∧ e = Ex.two 7 o a b) ∨
 (t = tyB ∧ ∃ a, R s t st a ∧ e = Ex.un 6 1 [a]) ∨
 (t = tyB ∧ ∃ o u a b, (((o = 8 ∨ o = 9 ∨ o = 10) ∧ u = tyB) ∨ ((o = 13 ∨ o = 16) ∧ u = tyI) ∨ (o = 11 ∧ isTy u)) ∧ R s u st a ∧ R s u st b ∧ e = Ex.two 7 o a b) ∨
 isVC s.ready t e
def GStepE (R : Sc → Ty → Bool → Ex → Prop) (s : Sc) (t : Ty) (st : Bool) (e : Ex) : Prop :=
 (∃ c a b, R s tyB st c ∧ R s t st a ∧ R s t st b ∧ e = Ex.un 8 0 [c, a, b]) ∨
 (st = true ∧ ∃ c b, isConst t c ∧ R s.toAll t st b ∧ e = Ex.two 9 0 c b) ∨
 (st = true ∧ ∃ a b, R s t st a ∧ R s.toAll t st b ∧ e = Ex.two 11 0 a (Ex.un 10 0 [b])) ∨
 (∃ x, isVar s.lasts t x ∧ e = Ex.sc 5 0 0 x) ∨ GOp R s t st e
/-- The expressions that are made, so deep. -/
def GEx : Nat → Sc → Ty → Bool → Ex → Prop
 | 0, s, t, _, e => isVC s.ready t e
 | d + 1, s, t, st, e => isVC s.ready t e ∨ GStepE (GEx d) s t st e
/-- The contract of expr, so deep. -/
def ExprC (d : Nat) : Prop := ∀ (p : GP) (m : M) (hok : p.ok m) (s : Sc) (hs : s.ok) (t : Ty) (ht : isTy t) (st : Bool) (i : Nat) (n q : Int), ACalls Try.prog 122 [.bp p.gp 0, s.pv, t.pv, pI d, pB st] (gst p m i n q) (fun v m' => ∃ e i', v = Ex.pv e ∧ GEx d s t st e ∧ m' = gst p m i' n q)
theorem pickI (r : Int) (h0 : 0 ≤ r) (h1 : r < 5) : [PV.v (Value.int IntKind.u8 3), PV.v (Value.int IntKind.u8 4), PV.v (Value.int IntKind.u8 5), PV.v (Value.int IntKind.u8 6), PV.v (Value.int IntKind.u8 7)].getD r.toNat PV.junk = .v (.int .u8 (3 + r)) := by
 have cas : r = 0 ∨ r = 1 ∨ r = 2 ∨ r = 3 ∨ r = 4 := by omega
 rcases cas with rfl | rfl | rfl | rfl | rfl <;> rfl
theorem pickB (r : Int) (h0 : 0 ≤ r) (h1 : r < 6) : ∃ o : Int, [PV.v (Value.int IntKind.u8 8), PV.v (Value.int IntKind.u8 9), PV.v (Value.int IntKind.u8 10), PV.v (Value.int IntKind.u8 13), PV.v (Value.int IntKind.u8 16), PV.v (Value.int IntKind.u8 11)].getD r.toNat PV.junk = .v (.int .u8 o) ∧ ((r < 3 ∧ (o = 8 ∨ o = 9 ∨ o = 10)) ∨ ((3 ≤ r ∧ r < 5) ∧ (o = 13 ∨ o = 16)) ∨ (r = 5 ∧ o = 11)) := by
 have cas : r = 0 ∨ r = 1 ∨ r = 2 ∨ r = 3 ∨ r = 4 ∨ r = 5 := by omega
 rcases cas with rfl | rfl | rfl | rfl | rfl | rfl
 ·exact ⟨8, rfl, by omega⟩
 ·exact ⟨9, rfl, by omega⟩
 ·exact ⟨10, rfl, by omega⟩
 ·exact ⟨13, rfl, by omega⟩
 ·exact ⟨16, rfl, by omega⟩
 ·exact ⟨11, rfl, by omega⟩

set_option maxRecDepth 20000 in
set_option maxHeartbeats 1000000 in
theorem operatorI_any (d : Nat) (hd : d < 1000) (E : ExprC d) (p : GP) (m : M) (hok : p.ok m) (s : Sc) (hs : s.ok) (st : Bool) (i : Nat) (n q : Int) : ACalls Try.prog 130 [.bp p.gp 0, s.pv, tyI.pv, pI ((d + 1 : Nat) : Int), pB st] (gst p m i n q) (fun v m' => ∃ e i', v = Ex.pv e ∧ GOp (GEx d) s tyI st e ∧ m' = gst p m i' n q) := by
 have hG := hok.gp
 have hT := hok.tp
 have hN := hok.ne
 have hw : IntKind.i64.wrap (((d + 1 : Nat) : Int) - 1) = (d : Int) := by rw [wrap64 (by omega)]; omega
 have e1 : (tyI.kind == 1) = false := rfl
 have e2 : (tyI.kind == 2) = true := rfl
 have ht : isTy tyI := .inl rfl
 refine ACalls.enter (mu := [10, 15]) ok_mix Try.func130 rfl (by kernel_rfl) (by kernel_rfl) (by simp only [List.length_cons, List.length_nil, Try.ntmps130]; omega) ?_
 (repeat (first | refine aSeq fun X hX => ?_ | refine aReg ?_; simp -implicitDefEqProofs only [↓slp, ↓reduceIte, reduceCtorEq, jA, jF, Yb, hT, hG] | apply hX; clear hX X | apply And.intro; focus omega))
 refine callM (next_any p _ (hok.ext _) 6 (by omega) i n q) ?_
 rintro v m' ⟨r, i', rfl, ⟨hr0, hr1⟩, rfl⟩
 simp -implicitDefEqProofs only [↓slp, slb, ↓reduceIte, jF]
 cases c5 : (r == 5) with
 | true =>
  (repeat (first | refine aSeq fun X hX => ?_ | (first | apply aReg | apply aIf); simp -implicitDefEqProofs only [↓slp, ↓reduceIte, reduceCtorEq, jA, jE, jF, Yb, e2, c5, hw] | apply hX; clear hX X | apply And.intro; focus omega))
  refine callM (E p _ (hok.ext _) s hs tyI ht st _ n q) ?_
  rintro v m' ⟨a, i2, rfl, ha, rfl⟩
  simp -implicitDefEqProofs only [↓slp, ↓reduceIte, jA, jE, jF, Yb, hT, hG]
  (repeat (first | refine aRet ?_; try simp only [slx, ↓reduceIte, jA, reduceCtorEq] | apply hX; clear hX X | apply And.intro; focus omega))
  simp only [aPost, Try.results130, aRes_n, aRes_t, aRes_c, pack_one, pack_two]
  simp -implicitDefEqProofs only [↓reduceIte, jA, jE, Yb, hT, hG]
  refine leave_gst hok (.refl m) (by simp only [PV.settle, PV.settles, PV.pure, PV.pures, Ex.settle_pv, Ex.pure_pv]; rfl) ⟨Ex.un 6 2 [a], i2, ?_, .inl ⟨rfl, a, ha, rfl⟩, rfl⟩
  rw [← Ex.un_lit]
  simp only [PV.settle, PV.settles, Ex.settle_pv, List.map_cons, List.map_nil]
 | false =>
  have hr5 : r < 5 := by simp at c5; omega
  have hg := pickI r hr0 hr5
  have hrn : r.toNat < 5 := by omega
  (repeat (first | refine aSeq fun X hX => ?_ | refine aSkip ?_ | (first | apply aReg | apply aIf); simp -implicitDefEqProofs only [↓slp, ↓reduceIte, reduceCtorEq, jA, jE, jF, Yb, e2, c5, hw] | apply hX; clear hX X | apply And.intro; focus omega))
  refine callM (E p _ (hok.ext _) s hs tyI ht st _ n q) ?_
  rintro v m' ⟨a, i2, rfl, ha, rfl⟩
  simp -implicitDefEqProofs only [↓slp, ↓reduceIte, jF, Yb]; try simp only [fo]
  (repeat (first | refine aSeq fun X hX => ?_ | (apply hX; clear hX X)))
  refine aDrw (fun _ => True) (by kernel_rfl) trivial ?_; simp -implicitDefEqProofs only [↓slp, ↓reduceIte, reduceCtorEq, jA, jE, jF, Yb, hg, hw]
  (repeat ((apply And.intro; (focus omega))))
  refine callM (E p _ (hok.ext _) s hs tyI ht st _ n q) ?_
  rintro v m' ⟨b, i3, rfl, hb, rfl⟩
  refine ⟨trivial, ?_⟩
  simp -implicitDefEqProofs only [↓slp, ↓reduceIte, jA, jF, Yb]; try simp only [fo]
  refine callE (two_any 7 (3 + r) a b _) ?_
  refine ⟨trivial, ?_⟩
  simp -implicitDefEqProofs only [↓slp, ↓reduceIte, jA, jE, Yb, hT, hG]; try simp only [fo]
  (repeat (first | refine aRet ?_; try simp only [slx, ↓reduceIte, jA, reduceCtorEq] | apply hX; clear hX X))
  simp only [aPost, Try.results130, aRes_n, aRes_t, aRes_c, pack_one, pack_two]
  simp -implicitDefEqProofs only [↓reduceIte, jA, jE, Yb, hT, hG]; try simp only [fo]
  exact leave_gst hok (.refl m) (by simp only [Ex.settle_pv, Ex.pure_pv]) ⟨_, i3, by simp only [Ex.settle_pv], .inr (.inl ⟨rfl, 3 + r, a, b, ⟨by omega, by omega⟩, ha, hb, rfl⟩), rfl⟩

set_option maxRecDepth 20000 in
set_option maxHeartbeats 1000000 in
theorem operatorC_any (d : Nat) (hd : d < 1000) (p : GP) (m : M) (hok : p.ok m) (s : Sc) (hs : s.ok) (st : Bool) (i : Nat) (n q : Int) : ACalls Try.prog 130 [.bp p.gp 0, s.pv, tyC.pv, pI ((d + 1 : Nat) : Int), pB st] (gst p m i n q) (fun v m' => ∃ e i', v = Ex.pv e ∧ GOp (GEx d) s tyC st e ∧ m' = gst p m i' n q) := by
 have hG := hok.gp
 have hT := hok.tp
 have hN := hok.ne
 have e1 : (tyC.kind == 1) = false := rfl
 have e2 : (tyC.kind == 2) = false := rfl
 have ht : isTy tyC := .inr (.inr rfl)
 refine ACalls.enter (mu := [10, 15]) ok_mix Try.func130 rfl (by kernel_rfl) (by kernel_rfl) (by simp only [List.length_cons, List.length_nil, Try.ntmps130]; omega) ?_
 (repeat (first | refine aSeq fun X hX => ?_ | refine aReg ?_; simp -implicitDefEqProofs only [↓slp, ↓reduceIte, reduceCtorEq, jA, jF, Yb, hT, hG] | apply hX; clear hX X | apply And.intro; focus omega))
 refine callM (next_any p _ (hok.ext _) 6 (by omega) i n q) ?_
 rintro v m' ⟨r, i', rfl, ⟨hr0, hr1⟩, rfl⟩
 simp -implicitDefEqProofs only [↓slp, slb, ↓reduceIte, jF]
 (repeat (first | refine aSeq fun X hX => ?_ | refine aSkip ?_ | (first | apply aReg | apply aIf); simp -implicitDefEqProofs only [↓slp, ↓reduceIte, reduceCtorEq, jA, jE, jF, Yb, e1, e2] | apply hX; clear hX X))
 refine callM (variable_any p _ (hok.ext _) _ _ hs.ready tyC ht _ n q) ?_
 rintro v m' ⟨a, i2, rfl, ha, rfl⟩
 simp -implicitDefEqProofs only [↓slp, ↓reduceIte, jA, jE, Yb, hT, hG]; try simp only [fo]
 (repeat (first | refine aRet ?_ | apply hX; clear hX X))
 simp only [aPost, Try.results130, aRes_n, aRes_t, aRes_c, pack_one, pack_two]
 simp -implicitDefEqProofs only [↓reduceIte, jA, jE, Yb, hT, hG]; try simp only [fo]
 exact leave_gst hok (.refl m) (by simp only [Ex.settle_pv, Ex.pure_pv]) ⟨_, i2, by simp only [Ex.settle_pv], .inr (.inr (.inr (.inr ha))), rfl⟩
end Go.Proofs.Ytibhhoknipdlpaa

/-
 The maker: operators' expressions of truths.
-/
set_option linter.unusedVariables false
set_option linter.unusedSimpArgs false
namespace Go.Proofs.Ytibhhoknipdlpaa
open Nat renaming reduceEqDiff → jA, reduceAdd → jB, reduceMul → jC, reduceLT → jD, reduceLeDiff → jE, reduceBEq → jF, reduceBNe → jG
open Int renaming reduceLE → jH, reduceLT → jI, reduceToNat → jJ, reduceEq → jK
open Go

-- EXX: Sc.pv, gst_nb, gst_nt, gst_fresh, gst_use, gst_free, gst_alive, gst_t, gst_g, gst_updt, gst_updg, gst_ext, gst_ext2, gst_et, gst_eg, gst_own, gst_own0, gst_ou, gst_ou0, GP.tape, GP.gen
-- TYPES: 3 4 5 9 21 22 30 32 41 44 49 50 52 92 94 96 98 144 154

set_option maxRecDepth 20000 in
set_option maxHeartbeats 2000000 in
theorem operatorB_any (d : Nat) (hd : d < 1000) (E : ExprC d) (p : GP) (m : M) (hok : p.ok m) (s : Sc) (hs : s.ok) (st : Bool) (i : Nat) (n q : Int) : ACalls Try.prog 130 [.bp p.gp 0, s.pv, tyB.pv, pI ((d + 1 : Nat) : Int), pB st] (gst p m i n q) (fun v m' => ∃ e i', v = Ex.pv e ∧ GOp (GEx d) s tyB st e ∧ m' = gst p m i' n q) := by
 have hG := hok.gp
 have hT := hok.tp
 have hN := hok.ne
 have hw : IntKind.i64.wrap (((d + 1 : Nat) : Int) - 1) = (d : Int) := by rw [wrap64 (by omega)]; omega
 have e1 : (tyB.kind == 1) = true := rfl
 have e2 : (tyB.kind == 2) = false := rfl
 have ht : isTy tyB := .inr (.inl rfl)
 refine ACalls.enter (mu := [10, 15]) ok_mix Try.func130 rfl (by kernel_rfl) (by kernel_rfl) (by simp only [List.length_cons, List.length_nil, Try.ntmps130]; omega) ?_
 (repeat (first | refine aSeq fun X hX => ?_ | refine aReg ?_; simp -implicitDefEqProofs only [↓slp, ↓reduceIte, reduceCtorEq, jA, jF, Yb, hT, hG] | apply hX; clear hX X | apply And.intro; focus omega))
 refine callM (next_any p _ (hok.ext _) 6 (by omega) i n q) ?_
 rintro v m' ⟨r, i', rfl, ⟨hr0, hr1⟩, rfl⟩
 simp -implicitDefEqProofs only [↓slp, slb, ↓reduceIte, jF]
 obtain ⟨o, hg, ho⟩ := pickB r hr0 hr1
 have hrn : r.toNat < 6 := by omega
 cases c3 : decide (r ≥ 3) with
 | false =>
  have hlt3 : r < 3 := by simp at c3; omega
  have c5 : (r == 5) = false := by simp; omega
  have hoB : (o = 8 ∨ o = 9 ∨ o = 10) := by omega
  cases c0 : (r == 0) with
  | true =>
   have hr' : r = 0 := by simpa using c0
   (repeat (first | refine aSeq fun X hX => ?_ | refine aSkip ?_ | (first | apply aReg | apply aIf); simp -implicitDefEqProofs only [↓slp, ↓reduceIte, reduceCtorEq, jA, jE, jF, Yb, hT, hG, e1, e2, c3, c5, c0] | apply hX; clear hX X | apply And.intro; focus omega))
   refine callM (next_any p _ (hok.ext _) 3 (by omega) _ n q) ?_
   rintro v m' ⟨r2, i2, rfl, ⟨h20, h21⟩, rfl⟩
   cases c2 : (r2 == 0) with
   | true =>
    simp -implicitDefEqProofs only [↓slp, slb, ↓reduceIte, jA, jF, c2]
    (repeat (first | refine aSeq fun X hX => ?_ | (first | apply aReg | apply aIf); simp -implicitDefEqProofs only [↓slp, ↓reduceIte, reduceCtorEq, jA, jE, jF, Yb, hw] | apply hX; clear hX X))
    refine callM (E p _ (hok.ext _) s hs tyB ht st _ n q) ?_
    rintro v m' ⟨a, i3, rfl, ha, rfl⟩
    simp -implicitDefEqProofs only [↓slp, ↓reduceIte, jA, jE, jF, Yb, hT, hG]
    (repeat (first | refine aRet ?_; try simp only [slx, ↓reduceIte, jA, reduceCtorEq] | apply hX; clear hX X | apply And.intro; focus omega))
    simp only [aPost, Try.results130, aRes_n, aRes_t, aRes_c, pack_one, pack_two]
    simp -implicitDefEqProofs only [↓reduceIte, jA, jE, Yb, hT, hG]
    refine leave_gst hok (.refl m) (by simp only [PV.settle, PV.settles, PV.pure, PV.pures, Ex.settle_pv, Ex.pure_pv]; rfl) ⟨Ex.un 6 1 [a], i3, ?_, .inr (.inr (.inl ⟨rfl, a, ha, rfl⟩)), rfl⟩
    rw [← Ex.un_lit]
    simp only [PV.settle, PV.settles, Ex.settle_pv, List.map_cons, List.map_nil]
   | false =>
    simp -implicitDefEqProofs only [↓slp, slb, ↓reduceIte, jA, jF, c2]
    (repeat (first | refine aSeq fun X hX => ?_ | refine aSkip ?_ | (first | apply aReg | apply aIf); simp -implicitDefEqProofs only [↓slp, ↓reduceIte, reduceCtorEq, jA, jE, jF, Yb, hT, hG, hw] | apply hX; clear hX X))
    refine callM (E p _ (hok.ext _) s hs tyB ht st _ n q) ?_
    rintro v m' ⟨a, i4, rfl, ha, rfl⟩
    simp -implicitDefEqProofs only [↓slp, ↓reduceIte, jF, Yb]; try simp only [fo]
    (repeat (first | refine aSeq fun X hX => ?_ | (apply hX; clear hX X)))
    refine aDrw (isG1 p m [.v (.int .u8 tyB.kind), .v (.string tyB.name)]) (by kernel_rfl) ⟨_, _, _, _, _, rfl⟩ ?_
    simp -implicitDefEqProofs only [↓slp, ↓reduceIte, reduceCtorEq, jA, jE, jF, Yb, hT, hG, hg, hw, isG1_all]
    (repeat ((apply And.intro; (focus omega))))
    refine callM (E p _ (hok.ext _) s hs tyB ht st _ n q) ?_
    rintro v m' ⟨b, i5, rfl, hb, rfl⟩
    refine ⟨⟨_, _, _, _, _, rfl⟩, ?_⟩
    simp -implicitDefEqProofs only [↓slp, ↓reduceIte, jA, jF, Yb]; try simp only [fo]
    refine callE (two_any 7 o a b _) ?_
    refine ⟨⟨_, _, _, _, _, rfl⟩, ?_⟩
    simp -implicitDefEqProofs only [↓slp, ↓reduceIte, jA, jE, Yb, hT, hG]; try simp only [fo]
    refine ⟨⟨_, _, _, _, _, rfl⟩, ?_⟩
    (repeat (first | refine aRet ?_; try simp only [slx, ↓reduceIte, jA, reduceCtorEq] | apply hX; clear hX X))
    simp only [aPost, Try.results130, aRes_n, aRes_t, aRes_c, pack_one, pack_two]
    simp -implicitDefEqProofs only [↓reduceIte, jA, jE, Yb, hT, hG]; try simp only [fo]
    exact leave_gst hok (.refl m) (by simp only [Ex.settle_pv, Ex.pure_pv]) ⟨_, i5, by simp only [Ex.settle_pv], .inr (.inr (.inr (.inl ⟨rfl, o, tyB, a, b, .inl ⟨hoB, rfl⟩, ha, hb, rfl⟩))), rfl⟩
  | false =>
   (repeat (first | refine aSeq fun X hX => ?_ | refine aSkip ?_ | (first | apply aReg | apply aIf); simp -implicitDefEqProofs only [↓slp, ↓reduceIte, reduceCtorEq, jA, jE, jF, Yb, hT, hG, e1, e2, c3, c5, c0, hw] | apply hX; clear hX X | apply And.intro; focus omega))
   refine callM (E p _ (hok.ext _) s hs tyB ht st _ n q) ?_
   rintro v m' ⟨a, i4, rfl, ha, rfl⟩
   simp -implicitDefEqProofs only [↓slp, ↓reduceIte, jF, Yb]; try simp only [fo]
   (repeat (first | refine aSeq fun X hX => ?_ | (apply hX; clear hX X)))
   refine aDrw (isG1 p m [.v (.int .u8 tyB.kind), .v (.string tyB.name)]) (by kernel_rfl) ⟨_, _, _, _, _, rfl⟩ ?_
   simp -implicitDefEqProofs only [↓slp, ↓reduceIte, reduceCtorEq, jA, jE, jF, Yb, hT, hG, hg, hw, isG1_all]
   (repeat ((apply And.intro; (focus omega))))
   refine callM (E p _ (hok.ext _) s hs tyB ht st _ n q) ?_
   rintro v m' ⟨b, i5, rfl, hb, rfl⟩
   refine ⟨⟨_, _, _, _, _, rfl⟩, ?_⟩
   simp -implicitDefEqProofs only [↓slp, ↓reduceIte, jA, jF, Yb]; try simp only [fo]
   refine callE (two_any 7 o a b _) ?_
   refine ⟨⟨_, _, _, _, _, rfl⟩, ?_⟩
   simp -implicitDefEqProofs only [↓slp, ↓reduceIte, jA, jE, Yb, hT, hG]; try simp only [fo]
   refine ⟨⟨_, _, _, _, _, rfl⟩, ?_⟩
   (repeat (first | refine aRet ?_; try simp only [slx, ↓reduceIte, jA, reduceCtorEq] | apply hX; clear hX X))
   simp only [aPost, Try.results130, aRes_n, aRes_t, aRes_c, pack_one, pack_two]
   simp -implicitDefEqProofs only [↓reduceIte, jA, jE, Yb, hT, hG]; try simp only [fo]
   exact leave_gst hok (.refl m) (by simp only [Ex.settle_pv, Ex.pure_pv]) ⟨_, i5, by simp only [Ex.settle_pv], .inr (.inr (.inr (.inl ⟨rfl, o, tyB, a, b, .inl ⟨hoB, rfl⟩, ha, hb, rfl⟩))), rfl⟩
 | true =>
  have hge3 : 3 ≤ r := by simpa using c3
  have c0 : (r == 0) = false := by simp; omega
  (repeat (first | refine aSeq fun X hX => ?_ | (first | apply aReg | apply aIf); simp -implicitDefEqProofs only [↓slp, ↓reduceIte, reduceCtorEq, jA, jE, jF, Yb, hT, hG, e1, e2, c3] | apply hX; clear hX X | apply And.intro; focus omega))
  refine callE (tyI_any _) ?_
  simp -implicitDefEqProofs only [↓slp, ↓reduceIte, jA, jE, Yb, hT, hG]
  cases c5 : (r == 5) with
  | false =>
   have hr5 : r < 5 := by simp at c5; omega
   have hoB : (o = 13 ∨ o = 16) := by omega
   (repeat (first | refine aSeq fun X hX => ?_ | refine aSkip ?_ | (first | apply aReg | apply aIf); simp -implicitDefEqProofs only [↓slp, ↓reduceIte, reduceCtorEq, jA, jE, jF, Yb, hT, hG, c5, c0, hw] | apply hX; clear hX X))
   refine callM (E p _ (hok.ext _) s hs tyI (.inl rfl) st _ n q) ?_
   rintro v m' ⟨a, i4, rfl, ha, rfl⟩
   simp -implicitDefEqProofs only [↓slp, ↓reduceIte, jF, Yb]; try simp only [fo]
   (repeat (first | refine aSeq fun X hX => ?_ | (apply hX; clear hX X)))
   refine aDrw (isG1 p m [.v (.int .u8 tyI.kind), .v (.string tyI.name)]) (by kernel_rfl) ⟨_, _, _, _, _, rfl⟩ ?_
   simp -implicitDefEqProofs only [↓slp, ↓reduceIte, reduceCtorEq, jA, jE, jF, Yb, hT, hG, hg, hw, isG1_all]
   (repeat ((apply And.intro; (focus omega))))
   refine callM (E p _ (hok.ext _) s hs tyI (.inl rfl) st _ n q) ?_
   rintro v m' ⟨b, i5, rfl, hb, rfl⟩
   refine ⟨⟨_, _, _, _, _, rfl⟩, ?_⟩
   simp -implicitDefEqProofs only [↓slp, ↓reduceIte, jA, jF, Yb]; try simp only [fo]
   refine callE (two_any 7 o a b _) ?_
   refine ⟨⟨_, _, _, _, _, rfl⟩, ?_⟩
   simp -implicitDefEqProofs only [↓slp, ↓reduceIte, jA, jE, Yb, hT, hG]; try simp only [fo]
   refine ⟨⟨_, _, _, _, _, rfl⟩, ?_⟩
   (repeat (first | refine aRet ?_; try simp only [slx, ↓reduceIte, jA, reduceCtorEq] | apply hX; clear hX X))
   simp only [aPost, Try.results130, aRes_n, aRes_t, aRes_c, pack_one, pack_two]
   simp -implicitDefEqProofs only [↓reduceIte, jA, jE, Yb, hT, hG]; try simp only [fo]
   exact leave_gst hok (.refl m) (by simp only [Ex.settle_pv, Ex.pure_pv]) ⟨_, i5, by simp only [Ex.settle_pv], .inr (.inr (.inr (.inl ⟨rfl, o, tyI, a, b, .inr (.inl ⟨hoB, rfl⟩), ha, hb, rfl⟩))), rfl⟩
  | true =>
   have hr5 : r = 5 := by simpa using c5
   have hoB : o = 11 := by omega
   (repeat (first | refine aSeq fun X hX => ?_ | (first | apply aReg | apply aIf); simp -implicitDefEqProofs only [↓slp, slb, ↓reduceIte, reduceCtorEq, jA, jF, c5] | apply hX; clear hX X))
   refine callM (typ_any p _ (hok.ext _) _ n q) ?_
   rintro v m' ⟨u, i2, rfl, hu, rfl⟩
   simp -implicitDefEqProofs only [↓slp, ↓reduceIte, jA, jE, Yb, hT, hG]
   (repeat (first | refine aSeq fun X hX => ?_ | refine aSkip ?_ | (first | apply aReg | apply aIf); simp -implicitDefEqProofs only [↓slp, ↓reduceIte, reduceCtorEq, jA, jE, jF, Yb, hT, hG, c0, hw] | apply hX; clear hX X))
   refine callM (E p _ (hok.ext _) s hs u hu st _ n q) ?_
   rintro v m' ⟨a, i4, rfl, ha, rfl⟩
   simp -implicitDefEqProofs only [↓slp, ↓reduceIte, jF, Yb]; try simp only [fo]
   (repeat (first | refine aSeq fun X hX => ?_ | (apply hX; clear hX X)))
   refine aDrw (isG1 p m [.v (.int .u8 u.kind), .v (.string u.name)]) (by kernel_rfl) ⟨_, _, _, _, _, rfl⟩ ?_
   simp -implicitDefEqProofs only [↓slp, ↓reduceIte, reduceCtorEq, jA, jE, jF, Yb, hT, hG, hg, hw, isG1_all]
   (repeat ((apply And.intro; (focus omega))))
   refine callM (E p _ (hok.ext _) s hs u hu st _ n q) ?_
   rintro v m' ⟨b, i5, rfl, hb, rfl⟩
   refine ⟨⟨_, _, _, _, _, rfl⟩, ?_⟩
   simp -implicitDefEqProofs only [↓slp, ↓reduceIte, jA, jF, Yb]; try simp only [fo]
   refine callE (two_any 7 o a b _) ?_
   refine ⟨⟨_, _, _, _, _, rfl⟩, ?_⟩
   simp -implicitDefEqProofs only [↓slp, ↓reduceIte, jA, jE, Yb, hT, hG]; try simp only [fo]
   refine ⟨⟨_, _, _, _, _, rfl⟩, ?_⟩
   (repeat (first | refine aRet ?_; try simp only [slx, ↓reduceIte, jA, reduceCtorEq] | apply hX; clear hX X))
   simp only [aPost, Try.results130, aRes_n, aRes_t, aRes_c, pack_one, pack_two]
   simp -implicitDefEqProofs only [↓reduceIte, jA, jE, Yb, hT, hG]; try simp only [fo]
   exact leave_gst hok (.refl m) (by simp only [Ex.settle_pv, Ex.pure_pv]) ⟨_, i5, by simp only [Ex.settle_pv], .inr (.inr (.inr (.inl ⟨rfl, o, u, a, b, .inr (.inr ⟨hoB, hu⟩), ha, hb, rfl⟩))), rfl⟩
end Go.Proofs.Ytibhhoknipdlpaa
