/-
 Texts that belong together: AbMk4, AbMk5.
-/
-- halved
import Derived.Test.YthhhnfjcaicjnaaGreatDoorAbMac
import Derived.Test.YthhhnfjcaicjnaaGreatDoorMkA
set_option linter.unusedVariables false
set_option linter.unusedSimpArgs false
namespace Go.Proofs.YthhhnfjcaicjnaaGreatDoor
open Nat renaming reduceEqDiff → jA, reduceAdd → jB, reduceMul → jC, reduceLT → jD, reduceLeDiff → jE, reduceBEq → jF, reduceBNe → jG
open Int renaming reduceLE → jH, reduceLT → jI, reduceToNat → jJ, reduceEq → jK
open Go
set_option linter.defProp false
def tfAbMk4 := And.intro @td_3 (And.intro @zv_3 (And.intro @Tryz.underlying3 (And.intro @td_4 (And.intro @zv_4 (And.intro @Tryz.underlying4 (And.intro @td_5 (And.intro @zv_5 (And.intro @Tryz.underlying5 (And.intro @td_9 (And.intro @zv_9 (And.intro @Tryz.underlying9 (And.intro @td_21 (And.intro @zv_21 (And.intro @Tryz.underlying21 (And.intro @td_22 (And.intro @zv_22 (And.intro @tel_22 (And.intro @Tryz.underlying22 (And.intro @td_44 (And.intro @zv_44 (And.intro @tel_44 (And.intro @Tryz.underlying44 (And.intro @td_35 (And.intro @zv_35 (And.intro @tel_35 (And.intro @Tryz.underlying35 (And.intro @td_43 (And.intro @zv_43 (And.intro @tel_43 (And.intro @Tryz.underlying43 (And.intro @td_46 (And.intro @zv_46 (And.intro @tf_46 (And.intro @td_51 (And.intro @zv_51 (And.intro @tf_51 (And.intro @fl_51 (And.intro @td_104 (And.intro @zv_104 (And.intro @tel_104 (And.intro @Tryz.underlying104 (And.intro @td_106 (And.intro @zv_106 (And.intro @tf_106 (And.intro @nk_71 (And.intro @td_71 (And.intro @zv_71 (And.intro @Tryz.underlying71 (And.intro @td_73 (And.intro @zv_73 (And.intro @tf_73 (And.intro @nk_75 (And.intro @td_75 (And.intro @zv_75 (And.intro @Tryz.underlying75 (And.intro @td_77 (And.intro @zv_77 (And.intro @tf_77 (And.intro @td_118 (And.intro @zv_118 (And.intro @tf_118 (And.intro @td_161 (And.intro @zv_161 (And.intro @tel_161 (And.intro @Tryz.underlying161 (And.intro @Ex.settle_pv (And.intro @Ex.pure_pv (And.intro @Ex.cells_pv (And.intro @Ex.cs.eq_1 (And.intro @On.pv.eq_1 (And.intro @Ty.pv.eq_1 (And.intro @Va.settle_pv (And.intro @Va.pure_pv (And.intro @Va.cells_pv (And.intro @Va.cs.eq_1 (And.intro @Sc.pv.eq_1 (And.intro @gst_nb (And.intro @gst_nt (And.intro @gst_fresh (And.intro @gst_use (And.intro @gst_free (And.intro @gst_alive (And.intro @gst_t (And.intro @gst_g (And.intro @gst_updt (And.intro @gst_updg (And.intro @gst_ext (And.intro @gst_ext2 (And.intro @gst_et (And.intro @gst_eg (And.intro @gst_own (And.intro @gst_own0 (And.intro @gst_ou (And.intro @gst_ou0 (And.intro @GP.tape.eq_1 @GP.gen.eq_1)))))))))))))))))))))))))))))))))))))))))))))))))))))))))))))))))))))))))))))))))))))))))))))))

structure Sc.ok (s : Sc) : Prop where
 ready : s.ready.length < 2 ^ 40
 all : s.all.length < 2 ^ 40
 lasts : s.lasts.length < 2 ^ 40
def Sc.toAll (s : Sc) : Sc := ⟨s.all, s.all, s.lasts⟩
theorem Sc.ok.toAll {s : Sc} (h : s.ok) : s.toAll.ok := ⟨h.all, h.all, h.lasts⟩
def Ex.un (k o : Int) (l : List Ex) : Ex := .mk k o 0 sE [] l 0 0
theorem Ex.un_lit (k o : Int) (l : List Ex) : PV.ag [PV.v (Value.int IntKind.u8 k), PV.v (Value.int IntKind.u8 o), PV.v (Value.int IntKind.i32 0), PV.v (Value.string sE), PV.sl Own.no [], PV.sl Own.no (l.map Ex.pv), PV.v (Value.int IntKind.i64 0), PV.v (Value.int IntKind.i64 0)] = (Ex.un k o l).pv := by
 rw [Ex.pv_eq]; rfl
def GOp (R : Sc → Ty → Bool → Ex → Prop) (s : Sc) (t : Ty) (st : Bool) (e : Ex) : Prop :=
 (t = tyI ∧ ∃ a, R s t st a ∧ e = Ex.un 6 2 [a]) ∨
 (t = tyI ∧ ∃ o a b, (3 ≤ o ∧ o ≤ 7) ∧ R s t st a ∧ R s t st b ∧ e = Ex.two 7 o a b) ∨
 (t = tyB ∧ ∃ a, R s t st a ∧ e = Ex.un 6 1 [a]) ∨
 (t = tyB ∧ ∃ o u a b, (((o = 8 ∨ o = 9 ∨ o = 10) ∧ u = tyB) ∨ ((o = 13 ∨ o = 16) ∧ u = tyI) ∨ (o = 11 ∧ isTy u)) ∧ R s u st a ∧ R s u st b ∧ e = Ex.two 7 o a b) ∨
 isVC s.ready t e
def GStepE (R : Sc → Ty → Bool → Ex → Prop) (s : Sc) (t : Ty) (st : Bool) (e : Ex) : Prop :=
 (∃ c a b, R s tyB st c ∧ R s t st a ∧ R s t st b ∧ e = Ex.un 8 0 [c, a, b]) ∨
 (st = true ∧ ∃ c b, isConst t c ∧ R s.toAll t st b ∧ e = Ex.two 9 0 c b) ∨
 (st = true ∧ ∃ a b, R s t st a ∧ R s.toAll t st b ∧ e = Ex.two 11 0 a (Ex.un 10 0 [b])) ∨
 (∃ x, isVar s.lasts t x ∧ e = Ex.sc 5 0 0 x) ∨ GOp R s t st e
def GEx : Nat → Sc → Ty → Bool → Ex → Prop
 | 0, s, t, _, e => isVC s.ready t e
 | d + 1, s, t, st, e => isVC s.ready t e ∨ GStepE (GEx d) s t st e
def ExprC (d : Nat) : Prop := ∀ (p : GP) (m : M) (hok : p.ok m) (s : Sc) (hs : s.ok) (t : Ty) (ht : isTy t) (st : Bool) (i : Nat) (n q : Int), ACalls Tryz.prog 98 [.bp p.gp 0, s.pv, t.pv, pI d, pB st] (gst p m i n q) (fun v m' => ∃ e i', v = Ex.pv e ∧ GEx d s t st e ∧ m' = gst p m i' n q)
theorem pickI (r : Int) (h0 : 0 ≤ r) (h1 : r < 5) : [PV.v (Value.int IntKind.u8 3), PV.v (Value.int IntKind.u8 4), PV.v (Value.int IntKind.u8 5), PV.v (Value.int IntKind.u8 6), PV.v (Value.int IntKind.u8 7)].getD r.toNat PV.junk = .v (.int .u8 (3 + r)) := by
 have cas : r = 0 ∨ r = 1 ∨ r = 2 ∨ r = 3 ∨ r = 4 := by omega
 rcases cas with rfl | rfl | rfl | rfl | rfl <;> rfl
theorem pickB (r : Int) (h0 : 0 ≤ r) (h1 : r < 6) : ∃ o : Int, [PV.v (Value.int IntKind.u8 8), PV.v (Value.int IntKind.u8 9), PV.v (Value.int IntKind.u8 10), PV.v (Value.int IntKind.u8 13), PV.v (Value.int IntKind.u8 16), PV.v (Value.int IntKind.u8 11)].getD r.toNat PV.junk = .v (.int .u8 o) ∧ ((r < 3 ∧ (o = 8 ∨ o = 9 ∨ o = 10)) ∨ ((3 ≤ r ∧ r < 5) ∧ (o = 13 ∨ o = 16)) ∨ (r = 5 ∧ o = 11)) := by
 have cas : r = 0 ∨ r = 1 ∨ r = 2 ∨ r = 3 ∨ r = 4 ∨ r = 5 := by omega
 rcases cas with rfl | rfl | rfl | rfl | rfl | rfl
 ·exact ⟨8, rfl, by omega⟩
 ·exact ⟨9, rfl, by omega⟩
 ·exact ⟨10, rfl, by omega⟩
 ·exact ⟨13, rfl, by omega⟩
 ·exact ⟨16, rfl, by omega⟩
 ·exact ⟨11, rfl, by omega⟩

set_option maxRecDepth 20000 in
set_option maxHeartbeats 1000000 in
theorem operatorI_any (d : Nat) (hd : d < 1000) (E : ExprC d) (p : GP) (m : M) (hok : p.ok m) (s : Sc) (hs : s.ok) (st : Bool) (i : Nat) (n q : Int) : ACalls Tryz.prog 108 [.bp p.gp 0, s.pv, tyI.pv, pI ((d + 1 : Nat) : Int), pB st] (gst p m i n q) (fun v m' => ∃ e i', v = Ex.pv e ∧ GOp (GEx d) s tyI st e ∧ m' = gst p m i' n q) := by
 have hG := hok.gp
 have hT := hok.tp
 have hN := hok.ne
 have hw : IntKind.i64.wrap (((d + 1 : Nat) : Int) - 1) = (d : Int) := by rw [wrap64 (by omega)]; omega
 have e1 : (tyI.kind == 1) = false := rfl
 have e2 : (tyI.kind == 2) = true := rfl
 have ht : isTy tyI := .inl rfl
 refine eN [10, 15] Tryz.func108 ?_
 (repeat revert X); refine wD (And.intro tfAbMk4 (And.intro hT hG)) ?_; repeat intro X hX
 refine callM (next_any p _ (hok.ext _) 6 (by omega) i n q) ?_
 rintro v m' ⟨r, i', rfl, ⟨hr0, hr1⟩, rfl⟩
 refine wS aEQ_t ?_
 cases c5 : (r == 5) with
 | true =>
  (repeat revert X); refine wD (And.intro tfAbMk4 (And.intro e2 (And.intro c5 hw))) ?_; repeat intro X hX
  refine callM (E p _ (hok.ext _) s hs tyI ht st _ n q) ?_
  rintro v m' ⟨a, i2, rfl, ha, rfl⟩
  refine wS (And.intro tfAbMk4 (And.intro hT hG)) ?_
  (repeat revert X); refine wD aEQ_t ?_; repeat intro X hX
  refine wQ Tryz.results108 (And.intro tfAbMk4 (And.intro hT hG)) ?_
  refine leave_gst hok (.refl m) (by simp only [PV.settle, PV.settles, PV.pure, PV.pures, Ex.settle_pv, Ex.pure_pv]; rfl) ⟨Ex.un 6 2 [a], i2, ?_, .inl ⟨rfl, a, ha, rfl⟩, rfl⟩
  rw [← Ex.un_lit]
  simp only [PV.settle, PV.settles, Ex.settle_pv, List.map_cons, List.map_nil]
 | false =>
  have hr5 : r < 5 := by simp at c5; omega
  have hg := pickI r hr0 hr5
  have hrn : r.toNat < 5 := by omega
  (repeat revert X); refine wD (And.intro tfAbMk4 (And.intro e2 (And.intro c5 hw))) ?_; repeat intro X hX
  refine callM (E p _ (hok.ext _) s hs tyI ht st _ n q) ?_
  rintro v m' ⟨a, i2, rfl, ha, rfl⟩
  refine wS tfAbMk4 ?_
  (repeat (first | refine aSeq fun X hX => ?_ | (apply hX; clear hX X)))
  refine aDrw (fun _ => True) (by kernel_rfl) trivial ?_; simp -implicitDefEqProofs only [↓slp, slb, ↓reduceIte, reduceCtorEq, jA, jE, jF, tfAbMk4, hg, hw]
  (repeat ((apply And.intro; (focus omega))))
  refine callM (E p _ (hok.ext _) s hs tyI ht st _ n q) ?_
  rintro v m' ⟨b, i3, rfl, hb, rfl⟩
  refine ⟨trivial, ?_⟩
  refine wS tfAbMk4 ?_
  refine callE (two_any 7 (3 + r) a b _) ?_
  refine ⟨trivial, ?_⟩
  refine wS (And.intro tfAbMk4 (And.intro hT hG)) ?_
  (repeat revert X); refine wD aEQ_t ?_; repeat intro X hX
  refine wQ Tryz.results108 (And.intro tfAbMk4 (And.intro hT hG)) ?_
  exact leave_gst hok (.refl m) (by simp only [Ex.settle_pv, Ex.pure_pv]) ⟨_, i3, by simp only [Ex.settle_pv], .inr (.inl ⟨rfl, 3 + r, a, b, ⟨by omega, by omega⟩, ha, hb, rfl⟩), rfl⟩

set_option maxRecDepth 20000 in
set_option maxHeartbeats 1000000 in
theorem operatorC_any (d : Nat) (hd : d < 1000) (p : GP) (m : M) (hok : p.ok m) (s : Sc) (hs : s.ok) (st : Bool) (i : Nat) (n q : Int) : ACalls Tryz.prog 108 [.bp p.gp 0, s.pv, tyC.pv, pI ((d + 1 : Nat) : Int), pB st] (gst p m i n q) (fun v m' => ∃ e i', v = Ex.pv e ∧ GOp (GEx d) s tyC st e ∧ m' = gst p m i' n q) := by
 have hG := hok.gp
 have hT := hok.tp
 have hN := hok.ne
 have e1 : (tyC.kind == 1) = false := rfl
 have e2 : (tyC.kind == 2) = false := rfl
 have ht : isTy tyC := .inr (.inr rfl)
 refine eN [10, 15] Tryz.func108 ?_
 (repeat revert X); refine wD (And.intro tfAbMk4 (And.intro hT hG)) ?_; repeat intro X hX
 refine callM (next_any p _ (hok.ext _) 6 (by omega) i n q) ?_
 rintro v m' ⟨r, i', rfl, ⟨hr0, hr1⟩, rfl⟩
 refine wS aEQ_t ?_
 (repeat revert X); refine wD (And.intro tfAbMk4 (And.intro e1 e2)) ?_; repeat intro X hX
 refine callM (variable_any p _ (hok.ext _) _ _ hs.ready tyC ht _ n q) ?_
 rintro v m' ⟨a, i2, rfl, ha, rfl⟩
 refine wS (And.intro tfAbMk4 (And.intro hT hG)) ?_
 (repeat revert X); refine wD aEQ_t ?_; repeat intro X hX
 refine wQ Tryz.results108 (And.intro tfAbMk4 (And.intro hT hG)) ?_
 exact leave_gst hok (.refl m) (by simp only [Ex.settle_pv, Ex.pure_pv]) ⟨_, i2, by simp only [Ex.settle_pv], .inr (.inr (.inr (.inr ha))), rfl⟩

def tfAbMk5 := tfAbMk4

set_option maxRecDepth 20000 in
set_option maxHeartbeats 2000000 in
theorem operatorB_any (d : Nat) (hd : d < 1000) (E : ExprC d) (p : GP) (m : M) (hok : p.ok m) (s : Sc) (hs : s.ok) (st : Bool) (i : Nat) (n q : Int) : ACalls Tryz.prog 108 [.bp p.gp 0, s.pv, tyB.pv, pI ((d + 1 : Nat) : Int), pB st] (gst p m i n q) (fun v m' => ∃ e i', v = Ex.pv e ∧ GOp (GEx d) s tyB st e ∧ m' = gst p m i' n q) := by
 have hG := hok.gp
 have hT := hok.tp
 have hN := hok.ne
 have hw : IntKind.i64.wrap (((d + 1 : Nat) : Int) - 1) = (d : Int) := by rw [wrap64 (by omega)]; omega
 have e1 : (tyB.kind == 1) = true := rfl
 have e2 : (tyB.kind == 2) = false := rfl
 have ht : isTy tyB := .inr (.inl rfl)
 refine eN [10, 15] Tryz.func108 ?_
 (repeat revert X); refine wD (And.intro tfAbMk5 (And.intro hT hG)) ?_; repeat intro X hX
 refine callM (next_any p _ (hok.ext _) 6 (by omega) i n q) ?_
 rintro v m' ⟨r, i', rfl, ⟨hr0, hr1⟩, rfl⟩
 refine wS aEQ_t ?_
 obtain ⟨o, hg, ho⟩ := pickB r hr0 hr1
 have hrn : r.toNat < 6 := by omega
 cases c3 : decide (r ≥ 3) with
 | false =>
  have hlt3 : r < 3 := by simp at c3; omega
  have c5 : (r == 5) = false := by simp; omega
  have hoB : (o = 8 ∨ o = 9 ∨ o = 10) := by omega
  cases c0 : (r == 0) with
  | true =>
   have hr' : r = 0 := by simpa using c0
   (repeat revert X); refine wD (And.intro tfAbMk5 (And.intro hT (And.intro hG (And.intro e1 (And.intro e2 (And.intro c3 (And.intro c5 c0))))))) ?_; repeat intro X hX
   refine callM (next_any p _ (hok.ext _) 3 (by omega) _ n q) ?_
   rintro v m' ⟨r2, i2, rfl, ⟨h20, h21⟩, rfl⟩
   cases c2 : (r2 == 0) with
   | true =>
    refine wS c2 ?_
    (repeat revert X); refine wD (And.intro tfAbMk5 hw) ?_; repeat intro X hX
    refine callM (E p _ (hok.ext _) s hs tyB ht st _ n q) ?_
    rintro v m' ⟨a, i3, rfl, ha, rfl⟩
    refine wS (And.intro tfAbMk5 (And.intro hT hG)) ?_
    (repeat revert X); refine wD aEQ_t ?_; repeat intro X hX
    refine wQ Tryz.results108 (And.intro tfAbMk5 (And.intro hT hG)) ?_
    refine leave_gst hok (.refl m) (by simp only [PV.settle, PV.settles, PV.pure, PV.pures, Ex.settle_pv, Ex.pure_pv]; rfl) ⟨Ex.un 6 1 [a], i3, ?_, .inr (.inr (.inl ⟨rfl, a, ha, rfl⟩)), rfl⟩
    rw [← Ex.un_lit]
    simp only [PV.settle, PV.settles, Ex.settle_pv, List.map_cons, List.map_nil]
   | false =>
    refine wS c2 ?_
    (repeat revert X); refine wD (And.intro tfAbMk5 (And.intro hT (And.intro hG hw))) ?_; repeat intro X hX
    refine callM (E p _ (hok.ext _) s hs tyB ht st _ n q) ?_
    rintro v m' ⟨a, i4, rfl, ha, rfl⟩
    refine wS tfAbMk5 ?_
    (repeat (first | refine aSeq fun X hX => ?_ | (apply hX; clear hX X)))
    refine aDrw (isG1 p m [.v (.int .u8 tyB.kind), .v (.string tyB.name)]) (by kernel_rfl) ⟨_, _, _, _, _, rfl⟩ ?_
    simp -implicitDefEqProofs only [↓slp, slb, ↓reduceIte, reduceCtorEq, jA, jE, jF, tfAbMk5, hT, hG, hg, hw, isG1_all]
    (repeat ((apply And.intro; (focus omega))))
    refine callM (E p _ (hok.ext _) s hs tyB ht st _ n q) ?_
    rintro v m' ⟨b, i5, rfl, hb, rfl⟩
    refine ⟨⟨_, _, _, _, _, rfl⟩, ?_⟩
    refine wS tfAbMk5 ?_
    refine callE (two_any 7 o a b _) ?_
    refine ⟨⟨_, _, _, _, _, rfl⟩, ?_⟩
    refine wS (And.intro tfAbMk5 (And.intro hT hG)) ?_
    refine ⟨⟨_, _, _, _, _, rfl⟩, ?_⟩
    (repeat revert X); refine wD aEQ_t ?_; repeat intro X hX
    refine wQ Tryz.results108 (And.intro tfAbMk5 (And.intro hT hG)) ?_
    exact leave_gst hok (.refl m) (by simp only [Ex.settle_pv, Ex.pure_pv]) ⟨_, i5, by simp only [Ex.settle_pv], .inr (.inr (.inr (.inl ⟨rfl, o, tyB, a, b, .inl ⟨hoB, rfl⟩, ha, hb, rfl⟩))), rfl⟩
  | false =>
   (repeat revert X); refine wD (And.intro tfAbMk5 (And.intro hT (And.intro hG (And.intro e1 (And.intro e2 (And.intro c3 (And.intro c5 (And.intro c0 hw)))))))) ?_; repeat intro X hX
   refine callM (E p _ (hok.ext _) s hs tyB ht st _ n q) ?_
   rintro v m' ⟨a, i4, rfl, ha, rfl⟩
   refine wS tfAbMk5 ?_
   (repeat (first | refine aSeq fun X hX => ?_ | (apply hX; clear hX X)))
   refine aDrw (isG1 p m [.v (.int .u8 tyB.kind), .v (.string tyB.name)]) (by kernel_rfl) ⟨_, _, _, _, _, rfl⟩ ?_
   simp -implicitDefEqProofs only [↓slp, slb, ↓reduceIte, reduceCtorEq, jA, jE, jF, tfAbMk5, hT, hG, hg, hw, isG1_all]
   (repeat ((apply And.intro; (focus omega))))
   refine callM (E p _ (hok.ext _) s hs tyB ht st _ n q) ?_
   rintro v m' ⟨b, i5, rfl, hb, rfl⟩
   refine ⟨⟨_, _, _, _, _, rfl⟩, ?_⟩
   refine wS tfAbMk5 ?_
   refine callE (two_any 7 o a b _) ?_
   refine ⟨⟨_, _, _, _, _, rfl⟩, ?_⟩
   refine wS (And.intro tfAbMk5 (And.intro hT hG)) ?_
   refine ⟨⟨_, _, _, _, _, rfl⟩, ?_⟩
   (repeat revert X); refine wD aEQ_t ?_; repeat intro X hX
   refine wQ Tryz.results108 (And.intro tfAbMk5 (And.intro hT hG)) ?_
   exact leave_gst hok (.refl m) (by simp only [Ex.settle_pv, Ex.pure_pv]) ⟨_, i5, by simp only [Ex.settle_pv], .inr (.inr (.inr (.inl ⟨rfl, o, tyB, a, b, .inl ⟨hoB, rfl⟩, ha, hb, rfl⟩))), rfl⟩
 | true =>
  have hge3 : 3 ≤ r := by simpa using c3
  have c0 : (r == 0) = false := by simp; omega
  (repeat revert X); refine wD (And.intro tfAbMk5 (And.intro hT (And.intro hG (And.intro e1 (And.intro e2 c3))))) ?_; repeat intro X hX
  refine callE (tyI_any _) ?_
  refine wS (And.intro tfAbMk5 (And.intro hT hG)) ?_
  cases c5 : (r == 5) with
  | false =>
   have hr5 : r < 5 := by simp at c5; omega
   have hoB : (o = 13 ∨ o = 16) := by omega
   (repeat revert X); refine wD (And.intro tfAbMk5 (And.intro hT (And.intro hG (And.intro c5 (And.intro c0 hw))))) ?_; repeat intro X hX
   refine callM (E p _ (hok.ext _) s hs tyI (.inl rfl) st _ n q) ?_
   rintro v m' ⟨a, i4, rfl, ha, rfl⟩
   refine wS tfAbMk5 ?_
   (repeat (first | refine aSeq fun X hX => ?_ | (apply hX; clear hX X)))
   refine aDrw (isG1 p m [.v (.int .u8 tyI.kind), .v (.string tyI.name)]) (by kernel_rfl) ⟨_, _, _, _, _, rfl⟩ ?_
   simp -implicitDefEqProofs only [↓slp, slb, ↓reduceIte, reduceCtorEq, jA, jE, jF, tfAbMk5, hT, hG, hg, hw, isG1_all]
   (repeat ((apply And.intro; (focus omega))))
   refine callM (E p _ (hok.ext _) s hs tyI (.inl rfl) st _ n q) ?_
   rintro v m' ⟨b, i5, rfl, hb, rfl⟩
   refine ⟨⟨_, _, _, _, _, rfl⟩, ?_⟩
   refine wS tfAbMk5 ?_
   refine callE (two_any 7 o a b _) ?_
   refine ⟨⟨_, _, _, _, _, rfl⟩, ?_⟩
   refine wS (And.intro tfAbMk5 (And.intro hT hG)) ?_
   refine ⟨⟨_, _, _, _, _, rfl⟩, ?_⟩
   (repeat revert X); refine wD aEQ_t ?_; repeat intro X hX
   refine wQ Tryz.results108 (And.intro tfAbMk5 (And.intro hT hG)) ?_
   exact leave_gst hok (.refl m) (by simp only [Ex.settle_pv, Ex.pure_pv]) ⟨_, i5, by simp only [Ex.settle_pv], .inr (.inr (.inr (.inl ⟨rfl, o, tyI, a, b, .inr (.inl ⟨hoB, rfl⟩), ha, hb, rfl⟩))), rfl⟩
  | true =>
   have hr5 : r = 5 := by simpa using c5
   have hoB : o = 11 := by omega
   (repeat revert X); refine wD c5 ?_; repeat intro X hX
   refine callM (typ_any p _ (hok.ext _) _ n q) ?_
   rintro v m' ⟨u, i2, rfl, hu, rfl⟩
   refine wS (And.intro tfAbMk5 (And.intro hT hG)) ?_
   (repeat revert X); refine wD (And.intro tfAbMk5 (And.intro hT (And.intro hG (And.intro c0 hw)))) ?_; repeat intro X hX
   refine callM (E p _ (hok.ext _) s hs u hu st _ n q) ?_
   rintro v m' ⟨a, i4, rfl, ha, rfl⟩
   refine wS tfAbMk5 ?_
   (repeat (first | refine aSeq fun X hX => ?_ | (apply hX; clear hX X)))
   refine aDrw (isG1 p m [.v (.int .u8 u.kind), .v (.string u.name)]) (by kernel_rfl) ⟨_, _, _, _, _, rfl⟩ ?_
   simp -implicitDefEqProofs only [↓slp, slb, ↓reduceIte, reduceCtorEq, jA, jE, jF, tfAbMk5, hT, hG, hg, hw, isG1_all]
   (repeat ((apply And.intro; (focus omega))))
   refine callM (E p _ (hok.ext _) s hs u hu st _ n q) ?_
   rintro v m' ⟨b, i5, rfl, hb, rfl⟩
   refine ⟨⟨_, _, _, _, _, rfl⟩, ?_⟩
   refine wS tfAbMk5 ?_
   refine callE (two_any 7 o a b _) ?_
   refine ⟨⟨_, _, _, _, _, rfl⟩, ?_⟩
   refine wS (And.intro tfAbMk5 (And.intro hT hG)) ?_
   refine ⟨⟨_, _, _, _, _, rfl⟩, ?_⟩
   (repeat revert X); refine wD aEQ_t ?_; repeat intro X hX
   refine wQ Tryz.results108 (And.intro tfAbMk5 (And.intro hT hG)) ?_
   exact leave_gst hok (.refl m) (by simp only [Ex.settle_pv, Ex.pure_pv]) ⟨_, i5, by simp only [Ex.settle_pv], .inr (.inr (.inr (.inl ⟨rfl, o, u, a, b, .inr (.inr ⟨hoB, hu⟩), ha, hb, rfl⟩))), rfl⟩
end Go.Proofs.YthhhnfjcaicjnaaGreatDoor
