/-
 Texts that belong together: AbMk13, AbMk14.
-/
-- halved
import Derived.Test.YteiaedmipkcfeaaDoorMkE
/-
 The maker: variables that are sampled.
-/
set_option linter.unusedVariables false
set_option linter.unusedSimpArgs false
namespace Go.Proofs.YteiaedmipkcfeaaDoor
open Nat renaming reduceEqDiff → jA, reduceAdd → jB, reduceMul → jC, reduceLT → jD, reduceLeDiff → jE, reduceBEq → jF, reduceBNe → jG
open Int renaming reduceLE → jH, reduceLT → jI, reduceToNat → jJ, reduceEq → jK
open Go
set_option linter.defProp false
def Y7 := And.intro @slb (And.intro @td_3 (And.intro @zv_3 (And.intro @Tryd.underlying3 (And.intro @td_4 (And.intro @zv_4 (And.intro @Tryd.underlying4 (And.intro @td_5 (And.intro @zv_5 (And.intro @Tryd.underlying5 (And.intro @td_9 (And.intro @zv_9 (And.intro @Tryd.underlying9 (And.intro @td_21 (And.intro @zv_21 (And.intro @Tryd.underlying21 (And.intro @td_22 (And.intro @zv_22 (And.intro @tel_22 (And.intro @Tryd.underlying22 (And.intro @td_57 (And.intro @zv_57 (And.intro @tel_57 (And.intro @Tryd.underlying57 (And.intro @td_48 (And.intro @zv_48 (And.intro @tel_48 (And.intro @Tryd.underlying48 (And.intro @td_49 (And.intro @zv_49 (And.intro @tel_49 (And.intro @Tryd.underlying49 (And.intro @td_51 (And.intro @zv_51 (And.intro @tf_51 (And.intro @td_33 (And.intro @zv_33 (And.intro @tel_33 (And.intro @Tryd.underlying33 (And.intro @td_59 (And.intro @zv_59 (And.intro @tf_59 (And.intro @td_64 (And.intro @zv_64 (And.intro @tf_64 (And.intro @fl_64 (And.intro @td_65 (And.intro @zv_65 (And.intro @tel_65 (And.intro @Tryd.underlying65 (And.intro @td_67 (And.intro @zv_67 (And.intro @tf_67 (And.intro @td_151 (And.intro @zv_151 (And.intro @tf_151 (And.intro @fl_151 (And.intro @td_60 (And.intro @zv_60 (And.intro @tel_60 (And.intro @Tryd.underlying60 (And.intro @td_62 (And.intro @zv_62 (And.intro @tf_62 (And.intro @nk_76 (And.intro @td_76 (And.intro @zv_76 (And.intro @Tryd.underlying76 (And.intro @td_78 (And.intro @zv_78 (And.intro @tf_78 (And.intro @nk_80 (And.intro @td_80 (And.intro @zv_80 (And.intro @Tryd.underlying80 (And.intro @td_82 (And.intro @zv_82 (And.intro @tf_82 (And.intro @td_120 (And.intro @zv_120 (And.intro @tel_120 (And.intro @Tryd.underlying120 (And.intro @td_122 (And.intro @zv_122 (And.intro @tf_122 (And.intro @td_160 (And.intro @zv_160 (And.intro @tf_160 (And.intro @td_117 (And.intro @zv_117 (And.intro @tf_117 (And.intro @td_153 (And.intro @zv_153 (And.intro @tel_153 (And.intro @Tryd.underlying153 (And.intro @Ex.settle_pv (And.intro @Ex.pure_pv (And.intro @Ex.cells_pv (And.intro @Ex.cs.eq_1 (And.intro @On.pv.eq_1 (And.intro @Ty.pv.eq_1 (And.intro @Va.settle_pv (And.intro @Va.pure_pv (And.intro @Va.cells_pv (And.intro @Va.cs.eq_1 (And.intro @Sc.pv.eq_1 (And.intro @gst_nb (And.intro @gst_nt (And.intro @gst_fresh (And.intro @gst_use (And.intro @gst_free (And.intro @gst_alive (And.intro @gst_t (And.intro @gst_g (And.intro @gst_updt (And.intro @gst_updg (And.intro @gst_ext (And.intro @gst_ext2 (And.intro @gst_et (And.intro @gst_eg (And.intro @gst_own (And.intro @gst_own0 (And.intro @gst_ou (And.intro @gst_ou0 (And.intro @GP.tape.eq_1 @GP.gen.eq_1))))))))))))))))))))))))))))))))))))))))))))))))))))))))))))))))))))))))))))))))))))))))))))))))))))))))))))))))))))))))))))

/-- The states that differ in counts, and in own boxes behind these. -/
def isGP (p : GP) (m : M) (bs : List (Option (List PV))) (m2 : M) : Prop := ∃ r i n q, m2 = gst p (m.ext (bs ++ r)) i n q
theorem isGP_all {p : GP} {m : M} {bs : List (Option (List PV))} {Q : M → Prop} : (∀ m2, isGP p m bs m2 → Q m2) = ∀ r i n q, Q (gst p (m.ext (bs ++ r)) i n q) :=
 propext ⟨fun h r i n q => h _ ⟨r, i, n, q, rfl⟩, fun h m2 ⟨r, i, n, q, e⟩ => e ▸ h r i n q⟩
theorem isGP_of {p : GP} {m : M} {bs : List (Option (List PV))} {i : Nat} {n q : Int} {bs' : List (Option (List PV))} {r : List (Option (List PV))} (h : bs' = bs ++ r := by rfl) : isGP p m bs (gst p (m.ext bs') i n q) := ⟨r, i, n, q, by rw [h]⟩
def whE (c : Va) (nm : Str) (e : Ex) : Ex := .mk 12 0 0 c.name [nm] [e] 0 0
def vaE (w : Va) : Ex := .mk 4 0 0 w.name [] [] 0 0
theorem whE_pv (c : Va) (nm : Str) (e : Ex) : (whE c nm e).pv = .ag [PV.v (Value.int IntKind.u8 12), PV.v (Value.int IntKind.u8 0), PV.v (Value.int IntKind.i32 0), PV.v (Value.string c.name), PV.sl Own.no [pS nm], PV.sl Own.no [e.pv], PV.v (Value.int IntKind.i64 0), PV.v (Value.int IntKind.i64 0)] := by rw [Ex.pv_eq]; rfl
theorem vaE_pv (w : Va) : (vaE w).pv = .ag [PV.v (Value.int IntKind.u8 4), PV.v (Value.int IntKind.u8 0), PV.v (Value.int IntKind.i32 0), PV.v (Value.string w.name), PV.sl Own.no [], PV.sl Own.no [], PV.v (Value.int IntKind.i64 0), PV.v (Value.int IntKind.i64 0)] := by rw [Ex.pv_eq]; rfl
def defQ (v : Va) (e : Ex) : Qu := .mk 1 [v.name] sE [] false e [] 0 0
def mgE (c w : Va) (e2 k1 : Ex) : Ex := .mk 13 0 0 c.name [sGreen, sRed, sBlue] [whE c sGreen e2, vaE w, k1] 0 0
theorem defQ_pv (v : Va) (e : Ex) : (defQ v e).pv = .ag [PV.v (Value.int IntKind.u8 1), PV.sl Own.no [PV.v (Value.string v.name)], PV.v (Value.string { data := #[] }), PV.sl Own.no [], PV.v (Value.bool false), PV.v (Value.int IntKind.u8 e.kind), PV.v (Value.int IntKind.u8 e.op), PV.v (Value.int IntKind.i32 e.n), PV.v (Value.string e.name), PV.sl Own.no (List.map pS e.names), PV.sl Own.no (List.map Ex.pv e.kids), PV.v (Value.int IntKind.i64 e.line), PV.v (Value.int IntKind.i64 e.col), PV.sl Own.no [], PV.v (Value.int IntKind.i64 0), PV.v (Value.int IntKind.i64 0)] := by rw [Qu.pv_eq]; rfl
def clVa (nm : Str) (t : Ty) (l : List On) : Va := ⟨nm, t, l, false, zE, 0, 0⟩
/-- Variables that are sampled by a colour, and one that merges them. -/
def GSamp (n : Nat) (s : Sc) (c w z : Va) (q1 q2 q3 : Qu) : Prop := ∃ (e1 e2 e3 k1 kp : Ex), c = mkVa (nameS ⟨#[99]⟩ (n + 1)) tyC ∧ w = clVa (nameS ⟨#[119]⟩ (n + 2)) tyI [⟨sRed, c.name⟩] ∧ z = mkVa (nameS ⟨#[122]⟩ (n + 3)) tyI ∧ GEx 2 s tyI false e1 ∧ GEx 2 s tyI false e2 ∧ GEx 3 s tyC true e3 ∧ isConst tyI k1 ∧ (kp = whE c sRed e1 ∨ ∃ k2, isConst tyI k2 ∧ kp = Ex.two 9 0 k2 (Ex.two 7 3 (vaE w) (whE c sRed e1))) ∧ q1 = defQ c e3 ∧ q2 = defQ w kp ∧ q3 = defQ z (mgE c w e2 k1)
set_option maxRecDepth 20000 in
set_option maxHeartbeats 8000000 in
theorem sampled_any (d : Nat) (hd : d < 1000) (t : Int) (RE : Int → RET) (E : EqsC d t RE) (p : GP) (m : M) (hok : p.ok m) (s : Sc) (k : Nat) (hs : s.le k) (outs : List Va) (ho : outs.length ≤ 3) (hty : ∀ v ∈ outs, isTy v.t) (i n : Nat) (q : Int) (hk : k + 3 + cE d q ≤ 2 ^ 30) (hn : n + 3 + cE d q ≤ 2 ^ 50) (hqt : q ≤ t) (hq : q ≤ 20) (hq2 : -(2 : Int) ^ 50 ≤ q - cE d q) : ACalls Tryd.prog 97 [.bp p.gp 0, s.pv, .sl .no (outs.map Va.pv), pI d] (gst p m i n q) (fun v m' => ∃ (c w z : Va) (q1 q2 q3 : Qu) (l : List Qu) (vs : List Va) (i' n' : Nat) (q' : Int), v = .tp [.sl .no ((q1 :: q2 :: q3 :: l).map Qu.pv), .sl .no ((c :: w :: z :: vs).map Va.pv)] ∧ GSamp n s c w z q1 q2 q3 ∧ RE p.subs (n + 3) n' (s.more [c, z]) outs l vs ∧ l.length ≤ 3 + cE d q ∧ vs.length ≤ cE d q ∧ Cnt (3 + cE d q) n q n' q' ∧ m' = gst p m i' n' q') := by
 have hG := hok.gp
 have hT := hok.tp
 refine ACalls.enter (mu := [11, 13, 14, 15, 16]) ok_mix Tryd.func97 rfl (by kernel_rfl) (by kernel_rfl) (by simp only [List.length_cons, List.length_nil, Tryd.ntmps97]; omega) ?_
 (repeat (first | refine aSeq fun X hX => ?_ | apply aBlk | apply aSkip | (first | apply aExit | apply aRet); try simp only [slx, ↓reduceIte, jA, reduceCtorEq] | (first | apply aReg | apply aIf); simp -implicitDefEqProofs only [↓slp, ↓reduceIte, reduceCtorEq, jA, jB, jC, jD, jE, jF, Y7, hT, hG] | apply hX; clear hX X | clear hX X; apply hX; clear hX X | apply And.intro; · first | assumption | and_intros <;> first | omega | assumption))
 refine callM (name_any p _ hok ⟨#[99]⟩ (by decide) i n q (by omega)) ?_
 rintro v m' ⟨rfl, rfl⟩
 simp -implicitDefEqProofs only [↓slp, ↓reduceIte, reduceCtorEq, jA, jB, jC, jD, jE, jF, Y7, hT, hG]
 refine callE (tyC_any _) ?_
 simp -implicitDefEqProofs only [↓slp, ↓reduceIte, reduceCtorEq, jA, jB, jC, jD, jE, jF, Y7, hT, hG]
 (repeat (first | refine aSeq fun X hX => ?_ | apply aBlk | apply aSkip | (first | apply aExit | apply aRet); try simp only [slx, ↓reduceIte, jA, reduceCtorEq] | (apply hX; clear hX X) | (clear hX X; apply hX; clear hX X)))
 have join1 : ∀ (c w : Va) (hc : c = mkVa (nameS ⟨#[99]⟩ (n + 1)) tyC) (hw : w = clVa (nameS ⟨#[119]⟩ (n + 1 + 1)) tyI [⟨sRed, c.name⟩]) (f : F) (i2 : Nat), f 0 = .bp p.gp 0 → f 2 = .sl .no (outs.map Va.pv) → f 3 = pI d → f 5 = .ep [.sl .no (s.ready.map Va.pv), .sl .no (s.all.map Va.pv), .sl .no (s.lasts.map Va.pv)] → f 10 = .ep c.cs → f 11 = .bp m.nb 0 → X f (gst p (m.ext [some [PV.v (Value.string w.name), PV.v (Value.int IntKind.u8 tyI.kind), PV.v (Value.string tyI.name), PV.sl Own.full [PV.ag [PV.v (Value.string sRed), PV.v (Value.string c.name)]], PV.v (Value.bool false), PV.v (Value.int IntKind.u8 0), PV.v (Value.int IntKind.u8 0), PV.v (Value.int IntKind.i32 0), PV.v (Value.string { data := #[] }), PV.sl Own.full [], PV.sl Own.full [], PV.v (Value.int IntKind.i64 0), PV.v (Value.int IntKind.i64 0), PV.v (Value.int IntKind.i64 0), PV.v (Value.int IntKind.i64 0)]]) i2 ((n + 1 + 1 : Nat) : Int) q) := by
  intro c w hc hw f i2 h0 h2 h3 h5 h10 h11
  apply hX; clear hX X
  (repeat (first | refine aSeq fun X hX => ?_ | apply aBlk | apply aSkip | (first | apply aExit | apply aRet); try simp only [slx, ↓reduceIte, jA, reduceCtorEq] | (first | apply aReg | apply aIf); simp -implicitDefEqProofs only [↓slp, ↓reduceIte, reduceCtorEq, jA, jB, jC, jD, jE, jF, Y7, h0, h2, h3, h5, h10, h11, hT, hG] | apply hX; clear hX X | clear hX X; apply hX; clear hX X | apply And.intro; · first | assumption | and_intros <;> first | omega | assumption))
  refine callM (name_any p _ (hok.ext _) ⟨#[122]⟩ (by decide) i2 (n + 1 + 1) q (by omega)) ?_
  rintro v m' ⟨rfl, rfl⟩
  simp -implicitDefEqProofs only [↓slp, ↓reduceIte, reduceCtorEq, jA, jB, jC, jD, jE, jF, Y7, h0, h2, h3, h5, h10, h11, hT, hG]
  refine callE (tyI_any _) ?_
  simp -implicitDefEqProofs only [↓slp, ↓reduceIte, reduceCtorEq, jA, jB, jC, jD, jE, jF, Y7, h0, h2, h3, h5, h10, h11, hT, hG]
  (repeat (first | refine aSeq fun X hX => ?_ | apply aBlk | apply aSkip | (first | apply aExit | apply aRet); try simp only [slx, ↓reduceIte, jA, reduceCtorEq] | (apply hX; clear hX X) | (clear hX X; apply hX; clear hX X)))
  have join2 : ∀ (z : Va) (hz : z = mkVa (nameS ⟨#[122]⟩ (n + 1 + 1 + 1)) tyI) (e1 : Ex) (he1 : GEx 2 s tyI false e1) (f : F) (i2 : Nat), f 0 = .bp p.gp 0 → f 2 = .sl .no (outs.map Va.pv) → f 3 = pI d → f 5 = .ep [.sl .no (s.ready.map Va.pv), .sl .no (s.all.map Va.pv), .sl .no (s.lasts.map Va.pv)] → f 10 = .ep c.cs → f 11 = .bp m.nb 0 → f 12 = .ep z.cs → f 13 = .bp (m.nb + 1) 0 → X f (gst p (m.ext [some [PV.v (Value.string w.name), PV.v (Value.int IntKind.u8 tyI.kind), PV.v (Value.string tyI.name), PV.sl Own.full [PV.ag [PV.v (Value.string sRed), PV.v (Value.string c.name)]], PV.v (Value.bool false), PV.v (Value.int IntKind.u8 0), PV.v (Value.int IntKind.u8 0), PV.v (Value.int IntKind.i32 0), PV.v (Value.string { data := #[] }), PV.sl Own.full [], PV.sl Own.full [], PV.v (Value.int IntKind.i64 0), PV.v (Value.int IntKind.i64 0), PV.v (Value.int IntKind.i64 0), PV.v (Value.int IntKind.i64 0)], some [PV.v (Value.int IntKind.u8 12), PV.v (Value.int IntKind.u8 0), PV.v (Value.int IntKind.i32 0), PV.v (Value.string c.name), PV.sl Own.full [pS sRed], PV.sl Own.full [e1.pv], PV.v (Value.int IntKind.i64 0), PV.v (Value.int IntKind.i64 0)]]) i2 ((n + 1 + 1 + 1 : Nat) : Int) q) := by
   intro z hz e1 he1 f i2 h0 h2 h3 h5 h10 h11 h12 h13
   apply hX; clear hX X
   (repeat (first | refine aSeq fun X hX => ?_ | apply aBlk | apply aSkip | (first | apply aExit | apply aRet); try simp only [slx, ↓reduceIte, jA, reduceCtorEq] | (apply hX; clear hX X) | (clear hX X; apply hX; clear hX X)))
   have join3 : ∀ (e2 : Ex) (he2 : GEx 2 s tyI false e2) (f : F) (i2 : Nat), f 0 = .bp p.gp 0 → f 2 = .sl .no (outs.map Va.pv) → f 3 = pI d → f 5 = .ep [.sl .no (s.ready.map Va.pv), .sl .no (s.all.map Va.pv), .sl .no (s.lasts.map Va.pv)] → f 10 = .ep c.cs → f 11 = .bp m.nb 0 → f 12 = .ep z.cs → f 13 = .bp (m.nb + 1) 0 → f 14 = .bp (m.nb + 2) 0 → X f (gst p (m.ext [some [PV.v (Value.string w.name), PV.v (Value.int IntKind.u8 tyI.kind), PV.v (Value.string tyI.name), PV.sl Own.full [PV.ag [PV.v (Value.string sRed), PV.v (Value.string c.name)]], PV.v (Value.bool false), PV.v (Value.int IntKind.u8 0), PV.v (Value.int IntKind.u8 0), PV.v (Value.int IntKind.i32 0), PV.v (Value.string { data := #[] }), PV.sl Own.full [], PV.sl Own.full [], PV.v (Value.int IntKind.i64 0), PV.v (Value.int IntKind.i64 0), PV.v (Value.int IntKind.i64 0), PV.v (Value.int IntKind.i64 0)], some [PV.v (Value.int IntKind.u8 12), PV.v (Value.int IntKind.u8 0), PV.v (Value.int IntKind.i32 0), PV.v (Value.string c.name), PV.sl Own.full [pS sRed], PV.sl Own.full [e1.pv], PV.v (Value.int IntKind.i64 0), PV.v (Value.int IntKind.i64 0)], some [PV.v (Value.int IntKind.u8 12), PV.v (Value.int IntKind.u8 0), PV.v (Value.int IntKind.i32 0), PV.v (Value.string c.name), PV.sl Own.full [pS sGreen], PV.sl Own.full [e2.pv], PV.v (Value.int IntKind.i64 0), PV.v (Value.int IntKind.i64 0)]]) i2 ((n + 1 + 1 + 1 : Nat) : Int) q) := by
    intro e2 he2 f i2 h0 h2 h3 h5 h10 h11 h12 h13 h14
    apply hX; clear hX X
    (repeat (first | refine aSeq fun X hX => ?_ | apply aBlk | apply aSkip | (first | apply aExit | apply aRet); try simp only [slx, ↓reduceIte, jA, reduceCtorEq] | (apply hX; clear hX X) | (clear hX X; apply hX; clear hX X)))
    have join4 : ∀ (k1 : Ex) (hk1 : isConst tyI k1) (f : F) (i2 : Nat), f 0 = .bp p.gp 0 → f 2 = .sl .no (outs.map Va.pv) → f 3 = pI d → f 5 = .ep [.sl .no (s.ready.map Va.pv), .sl .no (s.all.map Va.pv), .sl .no (s.lasts.map Va.pv)] → f 10 = .ep c.cs → f 11 = .bp m.nb 0 → f 12 = .ep z.cs → f 13 = .bp (m.nb + 1) 0 → f 14 = .bp (m.nb + 2) 0 → f 15 = .bp (m.nb + 3) 0 → X f (gst p (m.ext [some [PV.v (Value.string w.name), PV.v (Value.int IntKind.u8 tyI.kind), PV.v (Value.string tyI.name), PV.sl Own.full [PV.ag [PV.v (Value.string sRed), PV.v (Value.string c.name)]], PV.v (Value.bool false), PV.v (Value.int IntKind.u8 0), PV.v (Value.int IntKind.u8 0), PV.v (Value.int IntKind.i32 0), PV.v (Value.string { data := #[] }), PV.sl Own.full [], PV.sl Own.full [], PV.v (Value.int IntKind.i64 0), PV.v (Value.int IntKind.i64 0), PV.v (Value.int IntKind.i64 0), PV.v (Value.int IntKind.i64 0)], some [PV.v (Value.int IntKind.u8 12), PV.v (Value.int IntKind.u8 0), PV.v (Value.int IntKind.i32 0), PV.v (Value.string c.name), PV.sl Own.full [pS sRed], PV.sl Own.full [e1.pv], PV.v (Value.int IntKind.i64 0), PV.v (Value.int IntKind.i64 0)], some [PV.v (Value.int IntKind.u8 12), PV.v (Value.int IntKind.u8 0), PV.v (Value.int IntKind.i32 0), PV.v (Value.string c.name), PV.sl Own.full [pS sGreen], PV.sl Own.full [e2.pv], PV.v (Value.int IntKind.i64 0), PV.v (Value.int IntKind.i64 0)], some [PV.v (Value.int IntKind.u8 13), PV.v (Value.int IntKind.u8 0), PV.v (Value.int IntKind.i32 0), PV.v (Value.string c.name), PV.sl Own.full [pS sGreen, pS sRed, pS sBlue], PV.sl Own.full [(whE c sGreen e2).pv, (vaE w).pv, k1.pv], PV.v (Value.int IntKind.i64 0), PV.v (Value.int IntKind.i64 0)]]) i2 ((n + 1 + 1 + 1 : Nat) : Int) q) := by
     intro k1 hk1 f i2 h0 h2 h3 h5 h10 h11 h12 h13 h14 h15
     apply hX; clear hX X
     (repeat (first | refine aSeq fun X hX => ?_ | apply aBlk | apply aSkip | (first | apply aExit | apply aRet); try simp only [slx, ↓reduceIte, jA, reduceCtorEq] | (apply hX; clear hX X) | (clear hX X; apply hX; clear hX X)))
     have join5 : ∀ (k2 : Ex) (hk2 : isConst tyI k2) (kp : Ex) (hkp : kp = Ex.two 9 0 k2 (Ex.two 7 3 (vaE w) (whE c sRed e1))) (f : F) (i2 : Nat), f 0 = .bp p.gp 0 → f 2 = .sl .no (outs.map Va.pv) → f 3 = pI d → f 5 = .ep [.sl .no (s.ready.map Va.pv), .sl .no (s.all.map Va.pv), .sl .no (s.lasts.map Va.pv)] → f 10 = .ep c.cs → f 11 = .bp m.nb 0 → f 12 = .ep z.cs → f 13 = .bp (m.nb + 1) 0 → f 15 = .bp (m.nb + 3) 0 → f 16 = .bp (m.nb + 4) 0 → X f (gst p (m.ext [some [PV.v (Value.string w.name), PV.v (Value.int IntKind.u8 tyI.kind), PV.v (Value.string tyI.name), PV.sl Own.full [PV.ag [PV.v (Value.string sRed), PV.v (Value.string c.name)]], PV.v (Value.bool false), PV.v (Value.int IntKind.u8 0), PV.v (Value.int IntKind.u8 0), PV.v (Value.int IntKind.i32 0), PV.v (Value.string { data := #[] }), PV.sl Own.full [], PV.sl Own.full [], PV.v (Value.int IntKind.i64 0), PV.v (Value.int IntKind.i64 0), PV.v (Value.int IntKind.i64 0), PV.v (Value.int IntKind.i64 0)], some [PV.v (Value.int IntKind.u8 12), PV.v (Value.int IntKind.u8 0), PV.v (Value.int IntKind.i32 0), PV.v (Value.string c.name), PV.sl Own.full [pS sRed], PV.sl Own.full [e1.pv], PV.v (Value.int IntKind.i64 0), PV.v (Value.int IntKind.i64 0)], some [PV.v (Value.int IntKind.u8 12), PV.v (Value.int IntKind.u8 0), PV.v (Value.int IntKind.i32 0), PV.v (Value.string c.name), PV.sl Own.full [pS sGreen], PV.sl Own.full [e2.pv], PV.v (Value.int IntKind.i64 0), PV.v (Value.int IntKind.i64 0)], some [PV.v (Value.int IntKind.u8 13), PV.v (Value.int IntKind.u8 0), PV.v (Value.int IntKind.i32 0), PV.v (Value.string c.name), PV.sl Own.full [pS sGreen, pS sRed, pS sBlue], PV.sl Own.full [(whE c sGreen e2).pv, (vaE w).pv, k1.pv], PV.v (Value.int IntKind.i64 0), PV.v (Value.int IntKind.i64 0)], some [PV.v (Value.int IntKind.u8 kp.kind), PV.v (Value.int IntKind.u8 kp.op), PV.v (Value.int IntKind.i32 kp.n), PV.v (Value.string kp.name), PV.sl Own.no (kp.names.map pS), PV.sl Own.no (kp.kids.map Ex.pv), PV.v (Value.int IntKind.i64 kp.line), PV.v (Value.int IntKind.i64 kp.col)]]) i2 ((n + 1 + 1 + 1 : Nat) : Int) q) := by
      intro k2 hk2 kp hkp f i2 h0 h2 h3 h5 h10 h11 h12 h13 h15 h16
      apply hX; clear hX X
      (repeat (first | refine aSeq fun X hX => ?_ | apply aBlk | apply aSkip | (first | apply aExit | apply aRet); try simp only [slx, ↓reduceIte, jA, reduceCtorEq] | (first | apply aReg | apply aIf); simp -implicitDefEqProofs only [↓slp, ↓reduceIte, reduceCtorEq, jA, jB, jC, jD, jE, jF, Y7, h0, h2, h3, h5, h10, h11, h12, h13, h15, h16, hT, hG] | apply hX; clear hX X | clear hX X; apply hX; clear hX X | apply And.intro; · first | assumption | and_intros <;> first | omega | assumption))
      refine callM (next_any p _ (hok.ext _) 2 (by omega) _ _ q) ?_
      rintro v m' ⟨r, i5, rfl, ⟨hr0, hr1⟩, rfl⟩
      simp -implicitDefEqProofs only [↓slp, ↓reduceIte, reduceCtorEq, jA, jB, jC, jD, jE, jF, Y7, h0, h2, h3, h5, h10, h11, h12, h13, h15, h16, hT, hG]
      apply hX; clear hX X
      have join6 : ∀ (kp : Ex) (oo : Own) (hkp : kp = whE c sRed e1 ∨ ∃ k2, isConst tyI k2 ∧ kp = Ex.two 9 0 k2 (Ex.two 7 3 (vaE w) (whE c sRed e1))) (f : F) (i2 : Nat), f 0 = .bp p.gp 0 → f 2 = .sl .no (outs.map Va.pv) → f 3 = pI d → f 5 = .ep [.sl .no (s.ready.map Va.pv), .sl .no (s.all.map Va.pv), .sl .no (s.lasts.map Va.pv)] → f 10 = .ep c.cs → f 11 = .bp m.nb 0 → f 12 = .ep z.cs → f 15 = .bp (m.nb + 3) 0 → f 16 = .bp (m.nb + 4) 0 → X f (gst p (m.ext [some [PV.v (Value.string w.name), PV.v (Value.int IntKind.u8 tyI.kind), PV.v (Value.string tyI.name), PV.sl Own.full [PV.ag [PV.v (Value.string sRed), PV.v (Value.string c.name)]], PV.v (Value.bool false), PV.v (Value.int IntKind.u8 0), PV.v (Value.int IntKind.u8 0), PV.v (Value.int IntKind.i32 0), PV.v (Value.string { data := #[] }), PV.sl Own.full [], PV.sl Own.full [], PV.v (Value.int IntKind.i64 0), PV.v (Value.int IntKind.i64 0), PV.v (Value.int IntKind.i64 0), PV.v (Value.int IntKind.i64 0)], some [PV.v (Value.int IntKind.u8 12), PV.v (Value.int IntKind.u8 0), PV.v (Value.int IntKind.i32 0), PV.v (Value.string c.name), PV.sl Own.full [pS sRed], PV.sl Own.full [e1.pv], PV.v (Value.int IntKind.i64 0), PV.v (Value.int IntKind.i64 0)], some [PV.v (Value.int IntKind.u8 12), PV.v (Value.int IntKind.u8 0), PV.v (Value.int IntKind.i32 0), PV.v (Value.string c.name), PV.sl Own.full [pS sGreen], PV.sl Own.full [e2.pv], PV.v (Value.int IntKind.i64 0), PV.v (Value.int IntKind.i64 0)], some [PV.v (Value.int IntKind.u8 13), PV.v (Value.int IntKind.u8 0), PV.v (Value.int IntKind.i32 0), PV.v (Value.string c.name), PV.sl Own.full [pS sGreen, pS sRed, pS sBlue], PV.sl Own.full [(whE c sGreen e2).pv, (vaE w).pv, k1.pv], PV.v (Value.int IntKind.i64 0), PV.v (Value.int IntKind.i64 0)], some [PV.v (Value.int IntKind.u8 kp.kind), PV.v (Value.int IntKind.u8 kp.op), PV.v (Value.int IntKind.i32 kp.n), PV.v (Value.string kp.name), PV.sl oo (kp.names.map pS), PV.sl oo (kp.kids.map Ex.pv), PV.v (Value.int IntKind.i64 kp.line), PV.v (Value.int IntKind.i64 kp.col)]]) i2 ((n + 1 + 1 + 1 : Nat) : Int) q) := by
       intro kp oo hkp f i2 h0 h2 h3 h5 h10 h11 h12 h15 h16
       apply hX; clear hX X
       (repeat (first | refine aSeq fun X hX => ?_ | apply aBlk | apply aSkip | (first | apply aExit | apply aRet); try simp only [slx, ↓reduceIte, jA, reduceCtorEq] | (apply hX; clear hX X) | (clear hX X; apply hX; clear hX X)))
       refine aDrw (isGP p m [some [PV.v (Value.string w.name), PV.v (Value.int IntKind.u8 tyI.kind), PV.v (Value.string tyI.name), PV.sl Own.full [PV.ag [PV.v (Value.string sRed), PV.v (Value.string c.name)]], PV.v (Value.bool false), PV.v (Value.int IntKind.u8 0), PV.v (Value.int IntKind.u8 0), PV.v (Value.int IntKind.i32 0), PV.v (Value.string { data := #[] }), PV.sl Own.full [], PV.sl Own.full [], PV.v (Value.int IntKind.i64 0), PV.v (Value.int IntKind.i64 0), PV.v (Value.int IntKind.i64 0), PV.v (Value.int IntKind.i64 0)], some [PV.v (Value.int IntKind.u8 12), PV.v (Value.int IntKind.u8 0), PV.v (Value.int IntKind.i32 0), PV.v (Value.string c.name), PV.sl Own.full [pS sRed], PV.sl Own.full [e1.pv], PV.v (Value.int IntKind.i64 0), PV.v (Value.int IntKind.i64 0)], some [PV.v (Value.int IntKind.u8 12), PV.v (Value.int IntKind.u8 0), PV.v (Value.int IntKind.i32 0), PV.v (Value.string c.name), PV.sl Own.full [pS sGreen], PV.sl Own.full [e2.pv], PV.v (Value.int IntKind.i64 0), PV.v (Value.int IntKind.i64 0)], some [PV.v (Value.int IntKind.u8 13), PV.v (Value.int IntKind.u8 0), PV.v (Value.int IntKind.i32 0), PV.v (Value.string c.name), PV.sl Own.full [pS sGreen, pS sRed, pS sBlue], PV.sl Own.full [(whE c sGreen e2).pv, (vaE w).pv, k1.pv], PV.v (Value.int IntKind.i64 0), PV.v (Value.int IntKind.i64 0)], some [PV.v (Value.int IntKind.u8 kp.kind), PV.v (Value.int IntKind.u8 kp.op), PV.v (Value.int IntKind.i32 kp.n), PV.v (Value.string kp.name), PV.sl oo (kp.names.map pS), PV.sl oo (kp.kids.map Ex.pv), PV.v (Value.int IntKind.i64 kp.line), PV.v (Value.int IntKind.i64 kp.col)]]) (by kernel_rfl) isGP_of ?_
       simp -implicitDefEqProofs only [↓slp, ↓reduceIte, reduceCtorEq, jA, jB, jC, jD, jE, jF, Y7, h0, h2, h3, h5, h10, h11, h12, h15, h16, hT, hG, isGP_all, forall_const, List.cons_append, List.nil_append]
       refine callE (tyC_any _) ?_
       refine ⟨isGP_of, ?_⟩
       simp -implicitDefEqProofs only [↓slp, ↓reduceIte, reduceCtorEq, jA, jB, jC, jD, jE, jF, Y7, h0, h2, h3, h5, h10, h11, h12, h15, h16, hT, hG, isGP_all, forall_const, List.cons_append, List.nil_append]
       refine callM (expr_any 3 (by omega) p _ (hok.ext _) s (hs.ok (by omega)) tyC (.inr (.inr rfl)) true _ _ q) ?_
       rintro v m' ⟨e3, i3, rfl, he3, rfl⟩
       refine ⟨isGP_of, ?_⟩
       simp -implicitDefEqProofs only [↓slp, ↓reduceIte, reduceCtorEq, jA, jB, jC, jD, jE, jF, Y7, h0, h2, h3, h5, h10, h11, h12, h15, h16, hT, hG, isGP_all, forall_const, List.cons_append, List.nil_append]
       have join7 : ∀ (q1 q2 q3 : Qu) (hq1 : q1 = defQ c e3) (hq2' : q2 = defQ w kp) (hq3 : q3 = defQ z (mgE c w e2 k1)) (f : F), f 0 = .bp p.gp 0 → f 2 = .sl .no (outs.map Va.pv) → f 3 = pI d → f 5 = .ep [.sl .no (s.ready.map Va.pv), .sl .no (s.all.map Va.pv), .sl .no (s.lasts.map Va.pv)] → f 10 = .ep c.cs → f 11 = .bp m.nb 0 → f 12 = .ep z.cs → f 17 = .sl .full [q1.pv, q2.pv, q3.pv] → X f (gst p (m.ext [some [PV.v (Value.string w.name), PV.v (Value.int IntKind.u8 tyI.kind), PV.v (Value.string tyI.name), PV.sl Own.full [PV.ag [PV.v (Value.string sRed), PV.v (Value.string c.name)]], PV.v (Value.bool false), PV.v (Value.int IntKind.u8 0), PV.v (Value.int IntKind.u8 0), PV.v (Value.int IntKind.i32 0), PV.v (Value.string { data := #[] }), PV.sl Own.full [], PV.sl Own.full [], PV.v (Value.int IntKind.i64 0), PV.v (Value.int IntKind.i64 0), PV.v (Value.int IntKind.i64 0), PV.v (Value.int IntKind.i64 0)], some [PV.v (Value.int IntKind.u8 12), PV.v (Value.int IntKind.u8 0), PV.v (Value.int IntKind.i32 0), PV.v (Value.string c.name), PV.sl Own.full [pS sRed], PV.sl Own.full [e1.pv], PV.v (Value.int IntKind.i64 0), PV.v (Value.int IntKind.i64 0)], some [PV.v (Value.int IntKind.u8 12), PV.v (Value.int IntKind.u8 0), PV.v (Value.int IntKind.i32 0), PV.v (Value.string c.name), PV.sl Own.full [pS sGreen], PV.sl Own.full [e2.pv], PV.v (Value.int IntKind.i64 0), PV.v (Value.int IntKind.i64 0)], some [PV.v (Value.int IntKind.u8 13), PV.v (Value.int IntKind.u8 0), PV.v (Value.int IntKind.i32 0), PV.v (Value.string c.name), PV.sl Own.full [pS sGreen, pS sRed, pS sBlue], PV.sl Own.full [(whE c sGreen e2).pv, (vaE w).pv, k1.pv], PV.v (Value.int IntKind.i64 0), PV.v (Value.int IntKind.i64 0)], some [PV.v (Value.int IntKind.u8 kp.kind), PV.v (Value.int IntKind.u8 kp.op), PV.v (Value.int IntKind.i32 kp.n), PV.v (Value.string kp.name), PV.sl oo (kp.names.map pS), PV.sl oo (kp.kids.map Ex.pv), PV.v (Value.int IntKind.i64 kp.line), PV.v (Value.int IntKind.i64 kp.col)]]) i3 ((n + 1 + 1 + 1 : Nat) : Int) q) := by
        intro q1 q2 q3 hq1 hq2' hq3 f h0 h2 h3 h5 h10 h11 h12 h17
        apply hX; clear hX X
        (repeat (first | refine aSeq fun X hX => ?_ | apply aBlk | apply aSkip | (first | apply aExit | apply aRet); try simp only [slx, ↓reduceIte, jA, reduceCtorEq] | (first | apply aReg | apply aIf); simp -implicitDefEqProofs only [↓slp, ↓reduceIte, reduceCtorEq, jA, jB, jC, jD, jE, jF, Y7, h0, h2, h3, h5, h10, h11, h12, h17, hT, hG] | apply hX; clear hX X | clear hX X; apply hX; clear hX X | apply And.intro; · first | assumption | and_intros <;> first | omega | assumption))
        refine callM (more_any s .full [c, z] (by have := hs.ready; simp only [List.length_cons, List.length_nil]; omega) _) ?_
        rintro v m' ⟨rfl, rfl⟩
        simp -implicitDefEqProofs only [↓slp, ↓reduceIte, reduceCtorEq, jA, jB, jC, jD, jE, jF, Y7, h0, h2, h3, h5, h10, h11, h12, h17, hT, hG]
        refine callM (E p _ (hok.ext _) (s.more [c, z]) (k + 2) (hs.more [c, z]) outs ho hty _ (n + 1 + 1 + 1) q (by omega) (by omega) hqt hq hq2) ?_
        rintro v m' ⟨l, vs, i7, n7, q7, rfl, hre, hl1, hl2, hcnt, rfl⟩
        simp -implicitDefEqProofs only [↓slp, ↓reduceIte, reduceCtorEq, jA, jB, jC, jD, jE, jF, Y7, h0, h2, h3, h5, h10, h11, h12, h17, hT, hG]
        (repeat (first | refine aSeq fun X hX => ?_ | apply aBlk | apply aSkip | (first | apply aExit | apply aRet); try simp only [slx, ↓reduceIte, jA, reduceCtorEq] | (first | apply aReg | apply aIf); simp -implicitDefEqProofs only [↓slp, ↓reduceIte, reduceCtorEq, jA, jB, jC, jD, jE, jF, Y7, h0, h2, h3, h5, h10, h11, h12, h17, hT, hG] | apply hX; clear hX X | clear hX X; apply hX; clear hX X | apply And.intro; · first | assumption | and_intros <;> first | omega | assumption))
        have hm1 : 3 ≤ maxLen := by unfold maxLen; omega
        refine ⟨hm1, ?_⟩
        have hce : cE d q ≤ 2 ^ 30 := by omega
        have join8 : ∀ (f : F), f 17 = .sl .full [q1.pv, q2.pv, q3.pv] → f 18 = .sl .no (l.map Qu.pv) → f 19 = .sl .no (vs.map Va.pv) → f 20 = .sl (.tok m.nt) [c.pv, w.pv, z.pv] → X f (gst p ((m.fresh 15).ext [some [PV.v (Value.string w.name), PV.v (Value.int IntKind.u8 tyI.kind), PV.v (Value.string tyI.name), PV.sl Own.full [PV.ag [PV.v (Value.string sRed), PV.v (Value.string c.name)]], PV.v (Value.bool false), PV.v (Value.int IntKind.u8 0), PV.v (Value.int IntKind.u8 0), PV.v (Value.int IntKind.i32 0), PV.v (Value.string { data := #[] }), PV.sl Own.full [], PV.sl Own.full [], PV.v (Value.int IntKind.i64 0), PV.v (Value.int IntKind.i64 0), PV.v (Value.int IntKind.i64 0), PV.v (Value.int IntKind.i64 0)], some [PV.v (Value.int IntKind.u8 12), PV.v (Value.int IntKind.u8 0), PV.v (Value.int IntKind.i32 0), PV.v (Value.string c.name), PV.sl Own.full [pS sRed], PV.sl Own.full [e1.pv], PV.v (Value.int IntKind.i64 0), PV.v (Value.int IntKind.i64 0)], some [PV.v (Value.int IntKind.u8 12), PV.v (Value.int IntKind.u8 0), PV.v (Value.int IntKind.i32 0), PV.v (Value.string c.name), PV.sl Own.full [pS sGreen], PV.sl Own.full [e2.pv], PV.v (Value.int IntKind.i64 0), PV.v (Value.int IntKind.i64 0)], some [PV.v (Value.int IntKind.u8 13), PV.v (Value.int IntKind.u8 0), PV.v (Value.int IntKind.i32 0), PV.v (Value.string c.name), PV.sl Own.full [pS sGreen, pS sRed, pS sBlue], PV.sl Own.full [(whE c sGreen e2).pv, (vaE w).pv, k1.pv], PV.v (Value.int IntKind.i64 0), PV.v (Value.int IntKind.i64 0)], some [PV.v (Value.int IntKind.u8 kp.kind), PV.v (Value.int IntKind.u8 kp.op), PV.v (Value.int IntKind.i32 kp.n), PV.v (Value.string kp.name), PV.sl oo (kp.names.map pS), PV.sl oo (kp.kids.map Ex.pv), PV.v (Value.int IntKind.i64 kp.line), PV.v (Value.int IntKind.i64 kp.col)]]) i7 (n7 : Int) q7) := by
         intro f h17 h18 h19 h20
         apply hX; clear hX X
         have hzc : ∀ x : Qu, x.pv.cells.length = 16 := fun x => by rw [Qu.cells_pv]; rfl
         have hvc : ∀ x : Va, x.pv.cells.length = 15 := fun x => rfl
         have hql := qu_len l
         have hvl := va_len vs
         have hm2 : 3 + l.length ≤ maxLen := by unfold maxLen; omega
         have hm3 : 3 + vs.length ≤ maxLen := by unfold maxLen; omega
         have t1 : Toks m (m.fresh 15) := (Toks.refl m).use (o := .full) (s := 15) (s' := 15) Mine.full
         have g1 : Mine m (m.fresh 15) (.tok m.nt) 15 := Mine.new (o := .full) (Toks.refl m) 15
         have t2 : Toks m ((m.fresh 15).fresh 16) := t1.use (o := .full) (s := 16) (s' := 16) Mine.full
         have g2 : Mine m ((m.fresh 15).fresh 16) (.tok m.nt) 15 := g1.other (o := .full) (s := 16) (fun _ h => by cases h)
         have t3 := t2.use (o := .tok m.nt) (s := 15) g2
         have ha : ((m.fresh 15).fresh 16).alive m.nt 15 := g2.free
         (repeat (first | refine aSeq fun X hX => ?_ | apply aBlk | apply aSkip | (first | apply aExit | apply aRet); try simp only [slx, ↓reduceIte, jA, reduceCtorEq] | (first | apply aReg | apply aIf); simp -implicitDefEqProofs only [↓slp, ↓reduceIte, reduceCtorEq, jA, jB, jC, jD, jE, jF, Y7, h17, h18, h19, h20, h11, hT, hG] | apply hX; clear hX X | clear hX X; apply hX; clear hX X | apply And.intro; · first | assumption | and_intros <;> first | omega | assumption))
         refine ⟨⟨⟨hzc _, hzc _, hzc _⟩, hql, hm2, by omega⟩, ⟨ha, hvl, hm3, by omega⟩, ?_⟩
         apply hX; clear hX X
         (repeat (first | refine aSeq fun X hX => ?_ | apply aBlk | apply aSkip | (first | apply aExit | apply aRet); try simp only [slx, ↓reduceIte, jA, reduceCtorEq] | (first | apply aReg | apply aIf); simp -implicitDefEqProofs only [↓slp, ↓reduceIte, reduceCtorEq, jA, jB, jC, jD, jE, jF, Y7, h17, h18, h19, h20, h11, hT, hG] | apply hX; clear hX X | clear hX X; apply hX; clear hX X | apply And.intro; · first | assumption | and_intros <;> first | omega | assumption))
         simp only [aPost, Tryd.results97, aRes_n, aRes_t, aRes_c, pack_one, pack_two]
         simp -implicitDefEqProofs only [↓slp, ↓reduceIte, reduceCtorEq, jA, jB, jC, jD, jE, jF, Y7, h17, h18, h19, h20, hT, hG]
         refine leave_gst hok t3 rfl ⟨c, w, z, q1, q2, q3, l, vs, i7, n7, q7, rfl, ⟨e1, e2, e3, k1, kp, hc, hw, hz, he1, he2, he3, hk1, hkp, hq1, hq2', hq3⟩, hre, hl1, hl2, ?_, rfl⟩
         have := hcnt.n; have := hcnt.q0; have := hcnt.q1
         exact ⟨by omega, by omega, by omega⟩
        refine join8 _ ?_ ?_ ?_ ?_
        ·exact h17
        ·rfl
        ·rfl
        ·rw [hw]; rfl
       refine join7 (defQ c e3) (defQ w kp) (defQ z (mgE c w e2 k1)) rfl rfl rfl _ ?_ ?_ ?_ ?_ ?_ ?_ ?_ ?_
       ·exact h0
       ·exact h2
       ·exact h3
       ·exact h5
       ·exact h10
       ·exact h11
       ·exact h12
       ·rw [defQ_pv, defQ_pv, defQ_pv]; rfl
      cases c0 : (r == 0) with
      | true =>
       (repeat (first | refine aSeq fun X hX => ?_ | apply aBlk | apply aSkip | (first | apply aExit | apply aRet); try simp only [slx, ↓reduceIte, jA, reduceCtorEq] | (first | apply aReg | apply aIf); simp -implicitDefEqProofs only [↓slp, ↓reduceIte, reduceCtorEq, jA, jB, jC, jD, jE, jF, Y7, h0, h2, h3, h5, h10, h11, h12, h13, h15, h16, hT, hG, c0] | apply hX; clear hX X | clear hX X; apply hX; clear hX X | apply And.intro; · first | assumption | and_intros <;> first | omega | assumption))
       refine join6 (whE c sRed e1) .full (.inl rfl) _ _ h0 h2 h3 h5 h10 h11 h12 h15 h16
      | false =>
       (repeat (first | refine aSeq fun X hX => ?_ | apply aBlk | apply aSkip | (first | apply aExit | apply aRet); try simp only [slx, ↓reduceIte, jA, reduceCtorEq] | (first | apply aReg | apply aIf); simp -implicitDefEqProofs only [↓slp, ↓reduceIte, reduceCtorEq, jA, jB, jC, jD, jE, jF, Y7, h0, h2, h3, h5, h10, h11, h12, h13, h15, h16, hT, hG, c0] | apply hX; clear hX X | clear hX X; apply hX; clear hX X | apply And.intro; · first | assumption | and_intros <;> first | omega | assumption))
       refine join6 kp .no (.inr ⟨k2, hk2, hkp⟩) _ _ h0 h2 h3 h5 h10 h11 h12 h15 h16
     refine aFltN 9 (isGP p m [some [PV.v (Value.string w.name), PV.v (Value.int IntKind.u8 tyI.kind), PV.v (Value.string tyI.name), PV.sl Own.full [PV.ag [PV.v (Value.string sRed), PV.v (Value.string c.name)]], PV.v (Value.bool false), PV.v (Value.int IntKind.u8 0), PV.v (Value.int IntKind.u8 0), PV.v (Value.int IntKind.i32 0), PV.v (Value.string { data := #[] }), PV.sl Own.full [], PV.sl Own.full [], PV.v (Value.int IntKind.i64 0), PV.v (Value.int IntKind.i64 0), PV.v (Value.int IntKind.i64 0), PV.v (Value.int IntKind.i64 0)], some [PV.v (Value.int IntKind.u8 12), PV.v (Value.int IntKind.u8 0), PV.v (Value.int IntKind.i32 0), PV.v (Value.string c.name), PV.sl Own.full [pS sRed], PV.sl Own.full [e1.pv], PV.v (Value.int IntKind.i64 0), PV.v (Value.int IntKind.i64 0)], some [PV.v (Value.int IntKind.u8 12), PV.v (Value.int IntKind.u8 0), PV.v (Value.int IntKind.i32 0), PV.v (Value.string c.name), PV.sl Own.full [pS sGreen], PV.sl Own.full [e2.pv], PV.v (Value.int IntKind.i64 0), PV.v (Value.int IntKind.i64 0)], some [PV.v (Value.int IntKind.u8 13), PV.v (Value.int IntKind.u8 0), PV.v (Value.int IntKind.i32 0), PV.v (Value.string c.name), PV.sl Own.full [pS sGreen, pS sRed, pS sBlue], PV.sl Own.full [(whE c sGreen e2).pv, (vaE w).pv, k1.pv], PV.v (Value.int IntKind.i64 0), PV.v (Value.int IntKind.i64 0)]]) (by simp only [List.length_cons, List.length_nil]; omega) (by kernel_rfl) isGP_of ?_
     simp -implicitDefEqProofs only [↓slp, ↓reduceIte, reduceCtorEq, jA, jB, jC, jD, jE, jF, Y7, h0, h2, h3, h5, h10, h11, h12, h13, h14, h15, isGP_all, forall_const, List.cons_append, List.nil_append, hT, hG, List.getElem_cons_succ, List.getElem_cons_zero, List.getLast_cons_cons, List.getLast_singleton, List.dropLast_cons_cons, List.dropLast_singleton]
     refine ⟨?_, ?_⟩
     ·skip
      refine ⟨isGP_of, ?_⟩
      refine callE (tyI_any _) ?_
      refine ⟨isGP_of, ?_⟩
      simp -implicitDefEqProofs only [↓slp, ↓reduceIte, reduceCtorEq, jA, jB, jC, jD, jE, jF, Y7, h0, h2, h3, h5, h10, h11, h12, h13, h14, h15, isGP_all, forall_const, List.cons_append, List.nil_append, hT, hG, List.getElem_cons_succ, List.getElem_cons_zero, List.getLast_cons_cons, List.getLast_singleton, List.dropLast_cons_cons, List.dropLast_singleton]
      refine callM (constant_any p _ (by first | exact hok | exact hok.ext _) tyI (.inl rfl) _ _ q) ?_
      rintro v m' ⟨k2, i3, rfl, hk2, rfl⟩
      refine ⟨isGP_of, ?_⟩
      simp -implicitDefEqProofs only [↓slp, ↓reduceIte, reduceCtorEq, jA, jB, jC, jD, jE, jF, Y7, h0, h2, h3, h5, h10, h11, h12, h13, h14, h15, isGP_all, forall_const, List.cons_append, List.nil_append, hT, hG, List.getElem_cons_succ, List.getElem_cons_zero, List.getLast_cons_cons, List.getLast_singleton, List.dropLast_cons_cons, List.dropLast_singleton]
      refine callMS (two_any 7 3 (vaE w) (whE c sRed e1) _) (by rw [vaE_pv, whE_pv]; rfl) ?_
      rintro v m' ⟨rfl, rfl⟩
      refine ⟨isGP_of, ?_⟩
      simp -implicitDefEqProofs only [↓slp, ↓reduceIte, reduceCtorEq, jA, jB, jC, jD, jE, jF, Y7, h0, h2, h3, h5, h10, h11, h12, h13, h14, h15, isGP_all, forall_const, List.cons_append, List.nil_append, hT, hG, List.getElem_cons_succ, List.getElem_cons_zero, List.getLast_cons_cons, List.getLast_singleton, List.dropLast_cons_cons, List.dropLast_singleton]
      refine callM (two_any 9 0 k2 (Ex.two 7 3 (vaE w) (whE c sRed e1)) _) ?_
      rintro v m' ⟨rfl, rfl⟩
      refine ⟨isGP_of, ?_⟩
      simp -implicitDefEqProofs only [↓slp, ↓reduceIte, reduceCtorEq, jA, jB, jC, jD, jE, jF, Y7, h0, h2, h3, h5, h10, h11, h12, h13, h14, h15, isGP_all, forall_const, List.cons_append, List.nil_append, hT, hG, List.getElem_cons_succ, List.getElem_cons_zero, List.getLast_cons_cons, List.getLast_singleton, List.dropLast_cons_cons, List.dropLast_singleton]
      refine ⟨isGP_of, ?_⟩
      refine join5 k2 hk2 _ rfl _ _ h0 h2 h3 h5 h10 h11 h12 h13 h15 rfl
     ·skip
      refine callE (tyI_any _) ?_
      refine ⟨isGP_of, ?_⟩
      simp -implicitDefEqProofs only [↓slp, ↓reduceIte, reduceCtorEq, jA, jB, jC, jD, jE, jF, Y7, h0, h2, h3, h5, h10, h11, h12, h13, h14, h15, isGP_all, forall_const, List.cons_append, List.nil_append, hT, hG, List.getElem_cons_succ, List.getElem_cons_zero, List.getLast_cons_cons, List.getLast_singleton, List.dropLast_cons_cons, List.dropLast_singleton]
      refine ⟨?_, ?_⟩
      ·skip
       refine ⟨isGP_of, ?_⟩
       refine callM (constant_any p _ (by first | exact hok | exact hok.ext _) tyI (.inl rfl) _ _ q) ?_
       rintro v m' ⟨k2, i3, rfl, hk2, rfl⟩
       refine ⟨isGP_of, ?_⟩
       simp -implicitDefEqProofs only [↓slp, ↓reduceIte, reduceCtorEq, jA, jB, jC, jD, jE, jF, Y7, h0, h2, h3, h5, h10, h11, h12, h13, h14, h15, isGP_all, forall_const, List.cons_append, List.nil_append, hT, hG, List.getElem_cons_succ, List.getElem_cons_zero, List.getLast_cons_cons, List.getLast_singleton, List.dropLast_cons_cons, List.dropLast_singleton]
       refine callMS (two_any 7 3 (vaE w) (whE c sRed e1) _) (by rw [vaE_pv, whE_pv]; rfl) ?_
       rintro v m' ⟨rfl, rfl⟩
       refine ⟨isGP_of, ?_⟩
       simp -implicitDefEqProofs only [↓slp, ↓reduceIte, reduceCtorEq, jA, jB, jC, jD, jE, jF, Y7, h0, h2, h3, h5, h10, h11, h12, h13, h14, h15, isGP_all, forall_const, List.cons_append, List.nil_append, hT, hG, List.getElem_cons_succ, List.getElem_cons_zero, List.getLast_cons_cons, List.getLast_singleton, List.dropLast_cons_cons, List.dropLast_singleton]
       refine callM (two_any 9 0 k2 (Ex.two 7 3 (vaE w) (whE c sRed e1)) _) ?_
       rintro v m' ⟨rfl, rfl⟩
       refine ⟨isGP_of, ?_⟩
       simp -implicitDefEqProofs only [↓slp, ↓reduceIte, reduceCtorEq, jA, jB, jC, jD, jE, jF, Y7, h0, h2, h3, h5, h10, h11, h12, h13, h14, h15, isGP_all, forall_const, List.cons_append, List.nil_append, hT, hG, List.getElem_cons_succ, List.getElem_cons_zero, List.getLast_cons_cons, List.getLast_singleton, List.dropLast_cons_cons, List.dropLast_singleton]
       refine ⟨isGP_of, ?_⟩
       refine join5 k2 hk2 _ rfl _ _ h0 h2 h3 h5 h10 h11 h12 h13 h15 rfl
      ·skip
       refine callM (constant_any p _ (by first | exact hok | exact hok.ext _) tyI (.inl rfl) _ _ q) ?_
       rintro v m' ⟨k2, i3, rfl, hk2, rfl⟩
       refine ⟨isGP_of, ?_⟩
       simp -implicitDefEqProofs only [↓slp, ↓reduceIte, reduceCtorEq, jA, jB, jC, jD, jE, jF, Y7, h0, h2, h3, h5, h10, h11, h12, h13, h14, h15, isGP_all, forall_const, List.cons_append, List.nil_append, hT, hG, List.getElem_cons_succ, List.getElem_cons_zero, List.getLast_cons_cons, List.getLast_singleton, List.dropLast_cons_cons, List.dropLast_singleton]
       refine ⟨?_, ?_⟩
       ·skip
        refine ⟨isGP_of, ?_⟩
        refine callMS (two_any 7 3 (vaE w) (whE c sRed e1) _) (by rw [vaE_pv, whE_pv]; rfl) ?_
        rintro v m' ⟨rfl, rfl⟩
        refine ⟨isGP_of, ?_⟩
        simp -implicitDefEqProofs only [↓slp, ↓reduceIte, reduceCtorEq, jA, jB, jC, jD, jE, jF, Y7, h0, h2, h3, h5, h10, h11, h12, h13, h14, h15, isGP_all, forall_const, List.cons_append, List.nil_append, hT, hG, List.getElem_cons_succ, List.getElem_cons_zero, List.getLast_cons_cons, List.getLast_singleton, List.dropLast_cons_cons, List.dropLast_singleton]
        refine callM (two_any 9 0 k2 (Ex.two 7 3 (vaE w) (whE c sRed e1)) _) ?_
        rintro v m' ⟨rfl, rfl⟩
        refine ⟨isGP_of, ?_⟩
        simp -implicitDefEqProofs only [↓slp, ↓reduceIte, reduceCtorEq, jA, jB, jC, jD, jE, jF, Y7, h0, h2, h3, h5, h10, h11, h12, h13, h14, h15, isGP_all, forall_const, List.cons_append, List.nil_append, hT, hG, List.getElem_cons_succ, List.getElem_cons_zero, List.getLast_cons_cons, List.getLast_singleton, List.dropLast_cons_cons, List.dropLast_singleton]
        refine ⟨isGP_of, ?_⟩
        refine join5 k2 hk2 _ rfl _ _ h0 h2 h3 h5 h10 h11 h12 h13 h15 rfl
       ·skip
        refine callMS (two_any 7 3 (vaE w) (whE c sRed e1) _) (by rw [vaE_pv, whE_pv]; rfl) ?_
        rintro v m' ⟨rfl, rfl⟩
        refine ⟨isGP_of, ?_⟩
        simp -implicitDefEqProofs only [↓slp, ↓reduceIte, reduceCtorEq, jA, jB, jC, jD, jE, jF, Y7, h0, h2, h3, h5, h10, h11, h12, h13, h14, h15, isGP_all, forall_const, List.cons_append, List.nil_append, hT, hG, List.getElem_cons_succ, List.getElem_cons_zero, List.getLast_cons_cons, List.getLast_singleton, List.dropLast_cons_cons, List.dropLast_singleton]
        refine ⟨?_, ?_⟩
        ·skip
         refine ⟨isGP_of, ?_⟩
         refine callM (two_any 9 0 k2 (Ex.two 7 3 (vaE w) (whE c sRed e1)) _) ?_
         rintro v m' ⟨rfl, rfl⟩
         refine ⟨isGP_of, ?_⟩
         simp -implicitDefEqProofs only [↓slp, ↓reduceIte, reduceCtorEq, jA, jB, jC, jD, jE, jF, Y7, h0, h2, h3, h5, h10, h11, h12, h13, h14, h15, isGP_all, forall_const, List.cons_append, List.nil_append, hT, hG, List.getElem_cons_succ, List.getElem_cons_zero, List.getLast_cons_cons, List.getLast_singleton, List.dropLast_cons_cons, List.dropLast_singleton]
         refine ⟨isGP_of, ?_⟩
         refine join5 k2 hk2 _ rfl _ _ h0 h2 h3 h5 h10 h11 h12 h13 h15 rfl
        ·skip
         refine callM (two_any 9 0 k2 (Ex.two 7 3 (vaE w) (whE c sRed e1)) _) ?_
         rintro v m' ⟨rfl, rfl⟩
         refine ⟨isGP_of, ?_⟩
         simp -implicitDefEqProofs only [↓slp, ↓reduceIte, reduceCtorEq, jA, jB, jC, jD, jE, jF, Y7, h0, h2, h3, h5, h10, h11, h12, h13, h14, h15, isGP_all, forall_const, List.cons_append, List.nil_append, hT, hG, List.getElem_cons_succ, List.getElem_cons_zero, List.getLast_cons_cons, List.getLast_singleton, List.dropLast_cons_cons, List.dropLast_singleton]
         refine ⟨isGP_of, isGP_of, ?_⟩
         refine join5 k2 hk2 _ rfl _ _ h0 h2 h3 h5 h10 h11 h12 h13 h15 rfl
    refine aFltN 12 (isGP p m [some [PV.v (Value.string w.name), PV.v (Value.int IntKind.u8 tyI.kind), PV.v (Value.string tyI.name), PV.sl Own.full [PV.ag [PV.v (Value.string sRed), PV.v (Value.string c.name)]], PV.v (Value.bool false), PV.v (Value.int IntKind.u8 0), PV.v (Value.int IntKind.u8 0), PV.v (Value.int IntKind.i32 0), PV.v (Value.string { data := #[] }), PV.sl Own.full [], PV.sl Own.full [], PV.v (Value.int IntKind.i64 0), PV.v (Value.int IntKind.i64 0), PV.v (Value.int IntKind.i64 0), PV.v (Value.int IntKind.i64 0)], some [PV.v (Value.int IntKind.u8 12), PV.v (Value.int IntKind.u8 0), PV.v (Value.int IntKind.i32 0), PV.v (Value.string c.name), PV.sl Own.full [pS sRed], PV.sl Own.full [e1.pv], PV.v (Value.int IntKind.i64 0), PV.v (Value.int IntKind.i64 0)], some [PV.v (Value.int IntKind.u8 12), PV.v (Value.int IntKind.u8 0), PV.v (Value.int IntKind.i32 0), PV.v (Value.string c.name), PV.sl Own.full [pS sGreen], PV.sl Own.full [e2.pv], PV.v (Value.int IntKind.i64 0), PV.v (Value.int IntKind.i64 0)]]) (by simp only [List.length_cons, List.length_nil]; omega) (by kernel_rfl) isGP_of ?_
    simp -implicitDefEqProofs only [↓slp, ↓reduceIte, reduceCtorEq, jA, jB, jC, jD, jE, jF, Y7, h0, h2, h3, h5, h10, h11, h12, h13, h14, isGP_all, forall_const, List.cons_append, List.nil_append, hT, hG, List.getElem_cons_succ, List.getElem_cons_zero, List.getLast_cons_cons, List.getLast_singleton, List.dropLast_cons_cons, List.dropLast_singleton]
    refine ⟨?_, ?_⟩
    ·skip
     refine ⟨isGP_of, ?_⟩
     refine callE (tyI_any _) ?_
     refine ⟨isGP_of, ?_⟩
     simp -implicitDefEqProofs only [↓slp, ↓reduceIte, reduceCtorEq, jA, jB, jC, jD, jE, jF, Y7, h0, h2, h3, h5, h10, h11, h12, h13, h14, isGP_all, forall_const, List.cons_append, List.nil_append, hT, hG, List.getElem_cons_succ, List.getElem_cons_zero, List.getLast_cons_cons, List.getLast_singleton, List.dropLast_cons_cons, List.dropLast_singleton]
     refine callM (constant_any p _ (by first | exact hok | exact hok.ext _) tyI (.inl rfl) _ _ q) ?_
     rintro v m' ⟨k1, i3, rfl, hk1, rfl⟩
     refine ⟨isGP_of, ?_⟩
     simp -implicitDefEqProofs only [↓slp, ↓reduceIte, reduceCtorEq, jA, jB, jC, jD, jE, jF, Y7, h0, h2, h3, h5, h10, h11, h12, h13, h14, isGP_all, forall_const, List.cons_append, List.nil_append, hT, hG, List.getElem_cons_succ, List.getElem_cons_zero, List.getLast_cons_cons, List.getLast_singleton, List.dropLast_cons_cons, List.dropLast_singleton]
     refine ⟨isGP_of, ?_⟩
     refine join4 k1 hk1 _ _ h0 h2 h3 h5 h10 h11 h12 h13 h14 rfl
    ·skip
     refine callE (tyI_any _) ?_
     refine ⟨isGP_of, ?_⟩
     simp -implicitDefEqProofs only [↓slp, ↓reduceIte, reduceCtorEq, jA, jB, jC, jD, jE, jF, Y7, h0, h2, h3, h5, h10, h11, h12, h13, h14, isGP_all, forall_const, List.cons_append, List.nil_append, hT, hG, List.getElem_cons_succ, List.getElem_cons_zero, List.getLast_cons_cons, List.getLast_singleton, List.dropLast_cons_cons, List.dropLast_singleton]
     refine ⟨?_, ?_⟩
     ·skip
      refine ⟨isGP_of, ?_⟩
      refine callM (constant_any p _ (by first | exact hok | exact hok.ext _) tyI (.inl rfl) _ _ q) ?_
      rintro v m' ⟨k1, i3, rfl, hk1, rfl⟩
      refine ⟨isGP_of, ?_⟩
      simp -implicitDefEqProofs only [↓slp, ↓reduceIte, reduceCtorEq, jA, jB, jC, jD, jE, jF, Y7, h0, h2, h3, h5, h10, h11, h12, h13, h14, isGP_all, forall_const, List.cons_append, List.nil_append, hT, hG, List.getElem_cons_succ, List.getElem_cons_zero, List.getLast_cons_cons, List.getLast_singleton, List.dropLast_cons_cons, List.dropLast_singleton]
      refine ⟨isGP_of, ?_⟩
      refine join4 k1 hk1 _ _ h0 h2 h3 h5 h10 h11 h12 h13 h14 rfl
     ·skip
      refine callM (constant_any p _ (by first | exact hok | exact hok.ext _) tyI (.inl rfl) _ _ q) ?_
      rintro v m' ⟨k1, i3, rfl, hk1, rfl⟩
      refine ⟨isGP_of, ?_⟩
      simp -implicitDefEqProofs only [↓slp, ↓reduceIte, reduceCtorEq, jA, jB, jC, jD, jE, jF, Y7, h0, h2, h3, h5, h10, h11, h12, h13, h14, isGP_all, forall_const, List.cons_append, List.nil_append, hT, hG, List.getElem_cons_succ, List.getElem_cons_zero, List.getLast_cons_cons, List.getLast_singleton, List.dropLast_cons_cons, List.dropLast_singleton]
      refine ⟨isGP_of, isGP_of, ?_⟩
      refine join4 k1 hk1 _ _ h0 h2 h3 h5 h10 h11 h12 h13 h14 rfl
   refine aFltN 9 (fun _ => True) (by simp only [List.length_cons, List.length_nil]; omega) (by kernel_rfl) trivial ?_
   simp -implicitDefEqProofs only [↓slp, ↓reduceIte, reduceCtorEq, jA, jB, jC, jD, jE, jF, Y7, h0, h2, h3, h5, h10, h11, h12, h13, hT, hG, List.getElem_cons_succ, List.getElem_cons_zero, List.getLast_cons_cons, List.getLast_singleton, List.dropLast_cons_cons, List.dropLast_singleton]
   refine ⟨?_, ?_⟩
   ·skip
    refine callE (tyI_any _) ?_
    refine ⟨trivial, ?_⟩
    simp -implicitDefEqProofs only [↓slp, ↓reduceIte, reduceCtorEq, jA, jB, jC, jD, jE, jF, Y7, h0, h2, h3, h5, h10, h11, h12, h13, hT, hG, List.getElem_cons_succ, List.getElem_cons_zero, List.getLast_cons_cons, List.getLast_singleton, List.dropLast_cons_cons, List.dropLast_singleton]
    refine callM (expr_any 2 (by omega) p _ (by first | exact hok | exact hok.ext _) s (hs.ok (by omega)) tyI (.inl rfl) false _ _ q) ?_
    rintro v m' ⟨e2, i3, rfl, he2, rfl⟩
    refine ⟨trivial, ?_⟩
    simp -implicitDefEqProofs only [↓slp, ↓reduceIte, reduceCtorEq, jA, jB, jC, jD, jE, jF, Y7, h0, h2, h3, h5, h10, h11, h12, h13, hT, hG, List.getElem_cons_succ, List.getElem_cons_zero, List.getLast_cons_cons, List.getLast_singleton, List.dropLast_cons_cons, List.dropLast_singleton]
    refine join3 e2 he2 _ _ h0 h2 h3 h5 h10 h11 h12 h13 rfl
   ·skip
    refine callE (tyI_any _) ?_
    refine ⟨trivial, ?_⟩
    simp -implicitDefEqProofs only [↓slp, ↓reduceIte, reduceCtorEq, jA, jB, jC, jD, jE, jF, Y7, h0, h2, h3, h5, h10, h11, h12, h13, hT, hG, List.getElem_cons_succ, List.getElem_cons_zero, List.getLast_cons_cons, List.getLast_singleton, List.dropLast_cons_cons, List.dropLast_singleton]
    refine ⟨?_, ?_⟩
    ·skip
     refine callM (expr_any 2 (by omega) p _ (by first | exact hok | exact hok.ext _) s (hs.ok (by omega)) tyI (.inl rfl) false _ _ q) ?_
     rintro v m' ⟨e2, i3, rfl, he2, rfl⟩
     refine ⟨trivial, ?_⟩
     simp -implicitDefEqProofs only [↓slp, ↓reduceIte, reduceCtorEq, jA, jB, jC, jD, jE, jF, Y7, h0, h2, h3, h5, h10, h11, h12, h13, hT, hG, List.getElem_cons_succ, List.getElem_cons_zero, List.getLast_cons_cons, List.getLast_singleton, List.dropLast_cons_cons, List.dropLast_singleton]
     refine join3 e2 he2 _ _ h0 h2 h3 h5 h10 h11 h12 h13 rfl
    ·skip
     refine callM (expr_any 2 (by omega) p _ (by first | exact hok | exact hok.ext _) s (hs.ok (by omega)) tyI (.inl rfl) false _ _ q) ?_
     rintro v m' ⟨e2, i3, rfl, he2, rfl⟩
     refine ⟨trivial, ?_⟩
     simp -implicitDefEqProofs only [↓slp, ↓reduceIte, reduceCtorEq, jA, jB, jC, jD, jE, jF, Y7, h0, h2, h3, h5, h10, h11, h12, h13, hT, hG, List.getElem_cons_succ, List.getElem_cons_zero, List.getLast_cons_cons, List.getLast_singleton, List.dropLast_cons_cons, List.dropLast_singleton]
     refine join3 e2 he2 _ _ h0 h2 h3 h5 h10 h11 h12 h13 rfl
  refine aFltN 9 (fun _ => True) (by simp only [List.length_cons, List.length_nil]; omega) (by kernel_rfl) trivial ?_
  simp -implicitDefEqProofs only [↓slp, ↓reduceIte, reduceCtorEq, jA, jB, jC, jD, jE, jF, Y7, h0, h2, h3, h5, h10, h11, hT, hG, List.getElem_cons_succ, List.getElem_cons_zero, List.getLast_cons_cons, List.getLast_singleton, List.dropLast_cons_cons, List.dropLast_singleton]
  refine ⟨?_, ?_⟩
  ·skip
   refine callE (tyI_any _) ?_
   refine ⟨trivial, ?_⟩
   simp -implicitDefEqProofs only [↓slp, ↓reduceIte, reduceCtorEq, jA, jB, jC, jD, jE, jF, Y7, h0, h2, h3, h5, h10, h11, hT, hG, List.getElem_cons_succ, List.getElem_cons_zero, List.getLast_cons_cons, List.getLast_singleton, List.dropLast_cons_cons, List.dropLast_singleton]
   refine callM (expr_any 2 (by omega) p _ (by first | exact hok | exact hok.ext _) s (hs.ok (by omega)) tyI (.inl rfl) false _ _ q) ?_
   rintro v m' ⟨e1, i3, rfl, he1, rfl⟩
   refine ⟨trivial, ?_⟩
   simp -implicitDefEqProofs only [↓slp, ↓reduceIte, reduceCtorEq, jA, jB, jC, jD, jE, jF, Y7, h0, h2, h3, h5, h10, h11, hT, hG, List.getElem_cons_succ, List.getElem_cons_zero, List.getLast_cons_cons, List.getLast_singleton, List.dropLast_cons_cons, List.dropLast_singleton]
   refine join2 _ rfl e1 he1 _ _ h0 h2 h3 h5 h10 h11 rfl rfl
  ·skip
   refine callE (tyI_any _) ?_
   refine ⟨trivial, ?_⟩
   simp -implicitDefEqProofs only [↓slp, ↓reduceIte, reduceCtorEq, jA, jB, jC, jD, jE, jF, Y7, h0, h2, h3, h5, h10, h11, hT, hG, List.getElem_cons_succ, List.getElem_cons_zero, List.getLast_cons_cons, List.getLast_singleton, List.dropLast_cons_cons, List.dropLast_singleton]
   refine ⟨?_, ?_⟩
   ·skip
    refine callM (expr_any 2 (by omega) p _ (by first | exact hok | exact hok.ext _) s (hs.ok (by omega)) tyI (.inl rfl) false _ _ q) ?_
    rintro v m' ⟨e1, i3, rfl, he1, rfl⟩
    refine ⟨trivial, ?_⟩
    simp -implicitDefEqProofs only [↓slp, ↓reduceIte, reduceCtorEq, jA, jB, jC, jD, jE, jF, Y7, h0, h2, h3, h5, h10, h11, hT, hG, List.getElem_cons_succ, List.getElem_cons_zero, List.getLast_cons_cons, List.getLast_singleton, List.dropLast_cons_cons, List.dropLast_singleton]
    refine join2 _ rfl e1 he1 _ _ h0 h2 h3 h5 h10 h11 rfl rfl
   ·skip
    refine callM (expr_any 2 (by omega) p _ (by first | exact hok | exact hok.ext _) s (hs.ok (by omega)) tyI (.inl rfl) false _ _ q) ?_
    rintro v m' ⟨e1, i3, rfl, he1, rfl⟩
    refine ⟨trivial, ?_⟩
    simp -implicitDefEqProofs only [↓slp, ↓reduceIte, reduceCtorEq, jA, jB, jC, jD, jE, jF, Y7, h0, h2, h3, h5, h10, h11, hT, hG, List.getElem_cons_succ, List.getElem_cons_zero, List.getLast_cons_cons, List.getLast_singleton, List.dropLast_cons_cons, List.dropLast_singleton]
    refine join2 _ rfl e1 he1 _ _ h0 h2 h3 h5 h10 h11 rfl rfl
 refine aFltN 8 (fun _ => True) (by simp only [List.length_cons, List.length_nil]; omega) (by kernel_rfl) trivial ?_
 simp -implicitDefEqProofs only [↓slp, ↓reduceIte, reduceCtorEq, jA, jB, jC, jD, jE, jF, Y7, pS, hT, hG, List.getElem_cons_succ, List.getElem_cons_zero, List.getLast_cons_cons, List.getLast_singleton, List.dropLast_cons_cons, List.dropLast_singleton]
 refine ⟨?_, ?_⟩
 ·skip
  refine callM (name_any p _ (by first | exact hok | exact hok.ext _) ⟨#[119]⟩ (by decide) _ (n + 1) q (by omega)) ?_
  rintro v m' ⟨rfl, rfl⟩
  refine ⟨trivial, ?_⟩
  simp -implicitDefEqProofs only [↓slp, ↓reduceIte, reduceCtorEq, jA, jB, jC, jD, jE, jF, Y7, pS, hT, hG, List.getElem_cons_succ, List.getElem_cons_zero, List.getLast_cons_cons, List.getLast_singleton, List.dropLast_cons_cons, List.dropLast_singleton]
  refine callE (tyI_any _) ?_
  refine ⟨trivial, ?_⟩
  simp -implicitDefEqProofs only [↓slp, ↓reduceIte, reduceCtorEq, jA, jB, jC, jD, jE, jF, Y7, pS, hT, hG, List.getElem_cons_succ, List.getElem_cons_zero, List.getLast_cons_cons, List.getLast_singleton, List.dropLast_cons_cons, List.dropLast_singleton]
  refine join1 _ _ rfl rfl _ _ rfl rfl rfl rfl rfl rfl
 ·skip
  refine callM (name_any p _ (by first | exact hok | exact hok.ext _) ⟨#[119]⟩ (by decide) _ (n + 1) q (by omega)) ?_
  rintro v m' ⟨rfl, rfl⟩
  refine ⟨trivial, ?_⟩
  simp -implicitDefEqProofs only [↓slp, ↓reduceIte, reduceCtorEq, jA, jB, jC, jD, jE, jF, Y7, pS, hT, hG, List.getElem_cons_succ, List.getElem_cons_zero, List.getLast_cons_cons, List.getLast_singleton, List.dropLast_cons_cons, List.dropLast_singleton]
  refine ⟨?_, ?_⟩
  ·skip
   refine callE (tyI_any _) ?_
   refine ⟨trivial, ?_⟩
   simp -implicitDefEqProofs only [↓slp, ↓reduceIte, reduceCtorEq, jA, jB, jC, jD, jE, jF, Y7, pS, hT, hG, List.getElem_cons_succ, List.getElem_cons_zero, List.getLast_cons_cons, List.getLast_singleton, List.dropLast_cons_cons, List.dropLast_singleton]
   refine join1 _ _ rfl rfl _ _ rfl rfl rfl rfl rfl rfl
  ·skip
   refine callE (tyI_any _) ?_
   refine ⟨trivial, ?_⟩
   simp -implicitDefEqProofs only [↓slp, ↓reduceIte, reduceCtorEq, jA, jB, jC, jD, jE, jF, Y7, pS, hT, hG, List.getElem_cons_succ, List.getElem_cons_zero, List.getLast_cons_cons, List.getLast_singleton, List.dropLast_cons_cons, List.dropLast_singleton]
   refine join1 _ _ rfl rfl _ _ rfl rfl rfl rfl rfl rfl
end Go.Proofs.YteiaedmipkcfeaaDoor

/-
 The maker: equations that define some variables.
-/
set_option linter.unusedVariables false
set_option linter.unusedSimpArgs false
namespace Go.Proofs.YteiaedmipkcfeaaDoor
open Nat renaming reduceEqDiff → jA, reduceAdd → jB, reduceMul → jC, reduceLT → jD, reduceLeDiff → jE, reduceBEq → jF, reduceBNe → jG
open Int renaming reduceLE → jH, reduceLT → jI, reduceToNat → jJ, reduceEq → jK
open Go


def GDefs (s : Sc) : List Va → List Qu → Prop
 | [], l => l = []
 | v :: r, l => ∃ e l', GEx 3 s v.t true e ∧ l = defQ v e :: l' ∧ GDefs s r l'
theorem GDefs_snoc {s : Sc} {v : Va} {e : Ex} (he : GEx 3 s v.t true e) : ∀ {a : List Va} {l : List Qu}, GDefs s a l → GDefs s (a ++ [v]) (l ++ [defQ v e])
 | [], l, h => by cases h; exact ⟨e, [], he, rfl, rfl⟩
 | w :: r, l, h => by
  obtain ⟨e', l', h1, rfl, h2⟩ := h
  exact ⟨e', l' ++ [defQ v e], h1, rfl, GDefs_snoc he h2⟩
theorem GDefs_len {s : Sc} : ∀ {a : List Va} {l : List Qu}, GDefs s a l → l.length = a.length
 | [], l, h => by cases h; rfl
 | w :: r, l, h => by
  obtain ⟨e', l', h1, rfl, h2⟩ := h
  simp [GDefs_len h2]
def GReset (RB : RBT) (n n' : Nat) (s : Sc) (outs : List Va) (x : Qu) : Prop := ∃ e b, GEx 2 s tyB true e ∧ RB n n' s outs b ∧ x = .mk 5 [] sE [] false e [.mk sE b.vars b.eqs [] [] 0 0] 0 0
/-- Equations that define some variables; and the variables that they need. -/
inductive GEqs (RB : RBT) (subs : Int) : Nat → Nat → Sc → List Va → List Qu → List Va → Prop
 | defs {n s outs l} : GDefs s outs l → GEqs RB subs n n s outs l []
 | choice {n n' s outs x} : GChoice RB n n' s outs x → GEqs RB subs n n' s outs [x] []
 | auto {n n' s outs x} : GAuto RB n n' s outs x → GEqs RB subs n n' s outs [x] []
 | reset {n n' s outs x} : GReset RB n n' s outs x → GEqs RB subs n n' s outs [x] []
 | call {n n' s outs x y z l vs} : GCall subs n s x y z → GEqs RB subs (n + 2) n' (s.more [x, y]) outs l vs → GEqs RB subs n n' s outs (z :: l) (x :: y :: vs)
 | samp {n n' s outs c w z q1 q2 q3 l vs} : GSamp n s c w z q1 q2 q3 → GEqs RB subs (n + 3) n' (s.more [c, z]) outs l vs → GEqs RB subs n n' s outs (q1 :: q2 :: q3 :: l) (c :: w :: z :: vs)
set_option maxRecDepth 20000 in
set_option maxHeartbeats 8000000 in
theorem eqs_step (d : Nat) (hd : d < 1000) (t : Int) (RB : Int → RBT) (B : ∀ d', d = d' + 1 → BlockC d' RB) (E : 0 < t → EqsC d (t - 1) (fun u => GEqs (RB u) u)) : EqsC d t (fun u => GEqs (RB u) u) := by
 intro p m hok s k hs outs ho hty i n q hk hn hqt hq hq2
 have hG := hok.gp
 have hT := hok.tp
 have hcE : 4 ≤ cE d q := by unfold cE; omega
 have hwq : IntKind.i64.wrap (q - 1) = q - 1 := wrap64 (by omega)
 refine ACalls.enter (mu := [10]) ok_mix Tryd.func80 rfl (by kernel_rfl) (by kernel_rfl) (by simp only [List.length_cons, List.length_nil, Tryd.ntmps80]; omega) ?_
 (repeat (first | refine aSeq fun X hX => ?_ | apply aBlk | apply aSkip | (first | apply aExit | apply aRet); try simp only [slx, ↓reduceIte, jA, reduceCtorEq] | (apply hX; clear hX X) | (clear hX X; apply hX; clear hX X)))
 refine aReg ?_; simp -implicitDefEqProofs only [↓slp, ↓reduceIte, reduceCtorEq, jA, jB, jC, jD, jE, jF, Y7, hT, hG, hwq]
 apply hX; clear hX X
 (repeat (first | refine aSeq fun X hX => ?_ | apply aBlk | apply aSkip | (first | apply aExit | apply aRet); try simp only [slx, ↓reduceIte, jA, reduceCtorEq] | (apply hX; clear hX X) | (clear hX X; apply hX; clear hX X)))
 refine aReg ?_; simp -implicitDefEqProofs only [↓slp, ↓reduceIte, reduceCtorEq, jA, jB, jC, jD, jE, jF, Y7, hT, hG, hwq]
 apply hX; clear hX X
 (repeat (first | refine aSeq fun X hX => ?_ | apply aBlk | apply aSkip | (first | apply aExit | apply aRet); try simp only [slx, ↓reduceIte, jA, reduceCtorEq] | (apply hX; clear hX X) | (clear hX X; apply hX; clear hX X)))
 rename_i Y hY
 have rest : ∀ (f : F) (i1 : Nat), f 0 = .bp p.gp 0 → f 2 = .sl .no (outs.map Va.pv) → f 5 = .ep [.sl .no (s.ready.map Va.pv), .sl .no (s.all.map Va.pv), .sl .no (s.lasts.map Va.pv)] → Y f (gst p m i1 n (q - 1)) := by
  intro f i1 h0 h2 h5
  refine hY _ _ ?_; clear hX hY X Y
  (repeat (first | refine aSeq fun X hX => ?_ | apply aBlk | apply aSkip | (first | apply aExit | apply aRet); try simp only [slx, ↓reduceIte, jA, reduceCtorEq] | (first | apply aReg | apply aIf); simp -implicitDefEqProofs only [↓slp, ↓reduceIte, reduceCtorEq, jA, jB, jC, jD, jE, jF, Y7, h0, h2, h5, hT, hG] | apply hX; clear hX X | clear hX X; apply hX; clear hX X | intro hlen; unfold maxLen at hlen | apply And.intro; · first | assumption | and_intros <;> first | omega | assumption))
  obtain ⟨I, hI⟩ : ∃ I : F → M → Prop, ∀ f m', I f m' = (∃ (j : Nat) (l : List Qu) (o2 : Own) (mm : M) (i' : Nat), j ≤ outs.length ∧ f 0 = .bp p.gp 0 ∧ f 2 = .sl .no (outs.map Va.pv) ∧ f 5 = .ep [.sl .no (s.ready.map Va.pv), .sl .no (s.all.map Va.pv), .sl .no (s.lasts.map Va.pv)] ∧ f 11 = .sl o2 (l.map Qu.pv) ∧ f 12 = pI j ∧ GDefs s (outs.take j) l ∧ Toks m mm ∧ Mine m mm o2 16 ∧ m' = gst p mm i' n (q - 1)) := ⟨_, fun _ _ => rfl⟩
  refine aLoop I (fun f m => outs.length - numOf (f 12)) ?_ ?_
  ·rw [hI]; exact ⟨0, [], .full, m, i1, by omega, h0, h2, h5, rfl, rfl, rfl, .refl _, .full, rfl⟩
  intro f m' hrel
  rw [hI] at hrel
  clear h0 h2 h5
  obtain ⟨j, l, o2, mm, i3, hj, h0, h2, h5, h11, h12, hgl, ht, g2, rfl⟩ := hrel
  have hnb := ht.nb
  have hG' : p.gp < mm.nb := by rw [ht.nb]; exact hG
  have hT' : p.tp < mm.nb := by rw [ht.nb]; exact hT
  (repeat (first | refine aSeq fun X hX => ?_ | apply aBlk | apply aSkip | (first | apply aExit | apply aRet); try simp only [slx, ↓reduceIte, jA, reduceCtorEq] | (first | apply aReg | refine aDrE ?_); simp -implicitDefEqProofs only [↓slp, ↓reduceIte, reduceCtorEq, jA, jB, jC, jD, jE, jF, Y7, h2, h12, pI] | apply hX; clear hX X | clear hX X; apply hX; clear hX X | intro hlen; unfold maxLen at hlen | apply And.intro; · first | assumption | and_intros <;> first | omega | assumption))
  refine aIf ?_; simp -implicitDefEqProofs only [↓slp, slb, ↓reduceIte, reduceCtorEq, jA, jB, jC, jD, jE, jF]; refine ⟨fun hb => ?_, fun hb => ?_⟩
  ·have hlt : j < outs.length := by simpa using hb
   have g0 := getD_map Va.pv outs j hlt
   have hi : IntKind.i64.wrap ((j : Int) + 1) = ((j + 1 : Nat) : Int) := by rw [wrap64 (by omega)]; omega
   have hll := GDefs_len hgl
   rw [List.length_take] at hll
   have hmx : l.length + 1 ≤ maxLen := by unfold maxLen; omega
   have hf := g2.free
   have hql := qu_len l
   have ht1 := ht.use (s := 16) g2
   have g2' := Mine.new ht o2 16
   (repeat (first | refine aSeq fun X hX => ?_ | apply aBlk | apply aSkip | (first | apply aExit | apply aRet); try simp only [slx, ↓reduceIte, jA, reduceCtorEq] | (apply hX; clear hX X) | (clear hX X; apply hX; clear hX X)))
   refine aDrw (isGX p m) (by kernel_rfl) (isGX_of ht.boxes) ?_
   simp -implicitDefEqProofs only [↓slp, ↓reduceIte, reduceCtorEq, jA, jB, jC, jD, jE, jF, Y7, h0, h2, h5, h11, h12, g0, hG', hT', hG, hT, hnb, pI, isGX_all, gst_gx, forall_const]
   refine ⟨hlt, hlt, ?_⟩
   refine callM (expr_any 3 (by omega) p _ (hok.toks ht) s (hs.ok (by omega)) outs[j].t (hty _ (List.getElem_mem hlt)) true _ _ (q - 1)) ?_
   rintro v m' ⟨e, i5, rfl, he, rfl⟩
   refine ⟨isGX_of ht.boxes, ?_⟩
   simp -implicitDefEqProofs only [↓slp, ↓reduceIte, reduceCtorEq, jA, jB, jC, jD, jE, jF, Y7, h0, h2, h5, h11, h12, g0, hG', hT', hG, hT, hnb, pI, isGX_all, gst_gx, forall_const]
   (repeat (first | (intro hlen; unfold maxLen at hlen) | (apply And.intro; (focus (first | omega | assumption | trivial | (repeat' apply And.intro) <;> first | omega | assumption | trivial)))))
   refine ⟨isGX_of ht1.boxes, ?_⟩
   (repeat (first | refine aSeq fun X hX => ?_ | apply aBlk | apply aSkip | (first | apply aExit | apply aRet); try simp only [slx, ↓reduceIte, jA, reduceCtorEq] | (first | apply aReg | apply aIf); simp -implicitDefEqProofs only [↓slp, ↓reduceIte, reduceCtorEq, jA, jB, jC, jD, jE, jF, Y7, h0, h2, h5, h11, h12, hi, pI] | apply hX; clear hX X | clear hX X; apply hX; clear hX X | intro hlen; unfold maxLen at hlen | apply And.intro; · first | assumption | and_intros <;> first | omega | assumption))
   rw [hI]
   refine ⟨⟨j + 1, l ++ [defQ outs[j] e], .tok mm.nt, _, i5, hlt, h0, h2, h5, ?_, rfl, ?_, ht1, g2', rfl⟩, by omega⟩
   ·exact congrArg (PV.sl (.tok mm.nt)) (by rw [List.map_append, List.map_singleton, defQ_pv])
   ·rw [List.take_succ_eq_append_getElem hlt]; exact GDefs_snoc he hgl
  ·have hlt : j = outs.length := by simp at hb; omega
   subst hlt
   rw [List.take_length] at hgl
   (repeat (first | refine aSeq fun X hX => ?_ | apply aBlk | apply aSkip | (first | apply aExit | apply aRet); try simp only [slx, ↓reduceIte, jA, reduceCtorEq] | (first | apply aReg | refine aDrE ?_ | apply aIf); simp -implicitDefEqProofs only [↓slp, ↓reduceIte, reduceCtorEq, jA, jB, jC, jD, jE, jF, Y7, h11] | apply hX; clear hX X | clear hX X; apply hX; clear hX X | intro hlen; unfold maxLen at hlen | apply And.intro; · first | assumption | and_intros <;> first | omega | assumption))
   simp only [aPost, Tryd.results80, aRes_n, aRes_t, aRes_c, pack_one, pack_two]
   simp -implicitDefEqProofs only [↓slp, ↓reduceIte, reduceCtorEq, jA, jB, jC, jD, jE, jF, Y7, h11]
   have hll := GDefs_len hgl
   refine leave_gst0 hok ht rfl ⟨l, [], i3, n, q - 1, rfl, .defs hgl, by omega, by simp, ⟨by omega, by omega, by omega⟩, rfl⟩
 by_cases hd0 : 0 < d
 ·have cd : decide ((d : Int) > 0) = true := by simp; omega
  by_cases hq0 : 0 < q - 1
  ·have cq : decide (q - 1 > 0) = true := by simpa using hq0
   (repeat (first | refine aSeq fun X hX => ?_ | apply aBlk | apply aSkip | (first | apply aExit | apply aRet); try simp only [slx, ↓reduceIte, jA, reduceCtorEq] | (first | apply aReg | apply aIf); simp -implicitDefEqProofs only [↓slp, ↓reduceIte, reduceCtorEq, jA, jB, jC, jD, jE, jF, Y7, hT, hG, hwq, cd, cq] | apply hX; clear hX X | clear hX X; apply hX; clear hX X | intro hlen; unfold maxLen at hlen | apply And.intro; · first | assumption | and_intros <;> first | omega | assumption))
   refine callM (next_any p _ hok 9 (by omega) _ _ (q - 1)) ?_
   rintro v m' ⟨r, i1, rfl, ⟨hr0, hr1⟩, rfl⟩
   simp -implicitDefEqProofs only [↓slp, ↓reduceIte, reduceCtorEq, jA, jB, jC, jD, jE, jF, Y7, hT, hG]
   apply hX; clear hX X
   obtain ⟨d, rfl⟩ : ∃ d', d = d' + 1 := ⟨d - 1, by omega⟩
   have B := B d rfl
   have E := E (by omega)
   have hce : cE (d + 1) q = cE (d + 1) (q - 1) + 4 := by unfold cE; omega
   have hcp : cP (d + 1) = cB d := rfl
   have hcb : 3 * cB d + 4 ≤ cE (d + 1) (q - 1) := by unfold cE; rw [hcp]; omega
   have cas : r = 0 ∨ r = 1 ∨ r = 2 ∨ r = 3 ∨ r = 4 ∨ r = 5 ∨ r = 6 ∨ r = 7 ∨ r = 8 := by omega
   rcases cas with hr | hr | hr | hr | hr | hr | hr | hr | hr
   ·skip
    have e0 : (r == 0) = true := by rw [hr]; rfl
    have e1 : (r == 1) = false := by rw [hr]; rfl
    have e2 : (r == 2) = false := by rw [hr]; rfl
    have e3 : (r == 3) = false := by rw [hr]; rfl
    have e4 : (r == 4) = false := by rw [hr]; rfl
    have e5 : (r == 5) = false := by rw [hr]; rfl
    have e6 : (r == 6) = false := by rw [hr]; rfl
    have e7 : (r == 7) = false := by rw [hr]; rfl
    (repeat (first | refine aSeq fun X hX => ?_ | apply aBlk | apply aSkip | (first | apply aExit | apply aRet); try simp only [slx, ↓reduceIte, jA, reduceCtorEq] | (first | apply aReg | apply aIf); simp -implicitDefEqProofs only [↓slp, ↓reduceIte, reduceCtorEq, jA, jB, jC, jD, jE, jF, Y7, hT, hG, e0, e1, e2, e3, e4, e5, e6, e7] | apply hX; clear hX X | clear hX X; apply hX; clear hX X | intro hlen; unfold maxLen at hlen | apply And.intro; · first | assumption | and_intros <;> first | omega | assumption))
    refine callM (choice_any d hd RB B p _ hok s k hs outs ho hty _ n (q - 1) (by omega) (by omega) (by omega) (by omega)) ?_
    rintro v m' ⟨x, i5, n5, q5, rfl, hx, hcnt, rfl⟩
    simp -implicitDefEqProofs only [↓slp, ↓reduceIte, reduceCtorEq, jA, jB, jC, jD, jE, jF, Y7, hT, hG]
    refine ⟨⟨by rw [Qu.cells_pv]; rfl, by rw [Qu.pv_eq]; rfl⟩, ?_⟩
    apply hX; clear hX X
    (repeat (first | refine aSeq fun X hX => ?_ | apply aBlk | apply aSkip | (first | apply aExit | apply aRet); try simp only [slx, ↓reduceIte, jA, reduceCtorEq] | (apply hX; clear hX X) | (clear hX X; apply hX; clear hX X)))
    simp only [aPost, Tryd.results80, aRes_n, aRes_t, aRes_c, pack_one, pack_two]
    simp -implicitDefEqProofs only [↓slp, ↓reduceIte, reduceCtorEq, jA, jB, jC, jD, jE, jF, Y7, hT, hG, Qu.settle_pv]
    have := hcnt.n; have := hcnt.q0; have := hcnt.q1
    refine leave_gst0 hok (.refl m) rfl ⟨[x], [], i5, n5, q5, (by first | rfl | (simp only [PV.settle, PV.settles, Qu.settle_pv, List.map_cons, List.map_nil])), .choice hx, by simp only [List.length_cons, List.length_nil]; omega, by simp, ⟨by omega, by omega, by omega⟩, rfl⟩
   ·skip
    have e0 : (r == 0) = false := by rw [hr]; rfl
    have e1 : (r == 1) = true := by rw [hr]; rfl
    have e2 : (r == 2) = false := by rw [hr]; rfl
    have e3 : (r == 3) = false := by rw [hr]; rfl
    have e4 : (r == 4) = false := by rw [hr]; rfl
    have e5 : (r == 5) = false := by rw [hr]; rfl
    have e6 : (r == 6) = false := by rw [hr]; rfl
    have e7 : (r == 7) = false := by rw [hr]; rfl
    (repeat (first | refine aSeq fun X hX => ?_ | apply aBlk | apply aSkip | (first | apply aExit | apply aRet); try simp only [slx, ↓reduceIte, jA, reduceCtorEq] | (first | apply aReg | apply aIf); simp -implicitDefEqProofs only [↓slp, ↓reduceIte, reduceCtorEq, jA, jB, jC, jD, jE, jF, Y7, hT, hG, e0, e1, e2, e3, e4, e5, e6, e7] | apply hX; clear hX X | clear hX X; apply hX; clear hX X | intro hlen; unfold maxLen at hlen | apply And.intro; · first | assumption | and_intros <;> first | omega | assumption))
    refine callM (choice_any d hd RB B p _ hok s k hs outs ho hty _ n (q - 1) (by omega) (by omega) (by omega) (by omega)) ?_
    rintro v m' ⟨x, i5, n5, q5, rfl, hx, hcnt, rfl⟩
    simp -implicitDefEqProofs only [↓slp, ↓reduceIte, reduceCtorEq, jA, jB, jC, jD, jE, jF, Y7, hT, hG]
    refine ⟨⟨by rw [Qu.cells_pv]; rfl, by rw [Qu.pv_eq]; rfl⟩, ?_⟩
    apply hX; clear hX X
    (repeat (first | refine aSeq fun X hX => ?_ | apply aBlk | apply aSkip | (first | apply aExit | apply aRet); try simp only [slx, ↓reduceIte, jA, reduceCtorEq] | (apply hX; clear hX X) | (clear hX X; apply hX; clear hX X)))
    simp only [aPost, Tryd.results80, aRes_n, aRes_t, aRes_c, pack_one, pack_two]
    simp -implicitDefEqProofs only [↓slp, ↓reduceIte, reduceCtorEq, jA, jB, jC, jD, jE, jF, Y7, hT, hG, Qu.settle_pv]
    have := hcnt.n; have := hcnt.q0; have := hcnt.q1
    refine leave_gst0 hok (.refl m) rfl ⟨[x], [], i5, n5, q5, (by first | rfl | (simp only [PV.settle, PV.settles, Qu.settle_pv, List.map_cons, List.map_nil])), .choice hx, by simp only [List.length_cons, List.length_nil]; omega, by simp, ⟨by omega, by omega, by omega⟩, rfl⟩
   ·skip
    have e0 : (r == 0) = false := by rw [hr]; rfl
    have e1 : (r == 1) = false := by rw [hr]; rfl
    have e2 : (r == 2) = true := by rw [hr]; rfl
    have e3 : (r == 3) = false := by rw [hr]; rfl
    have e4 : (r == 4) = false := by rw [hr]; rfl
    have e5 : (r == 5) = false := by rw [hr]; rfl
    have e6 : (r == 6) = false := by rw [hr]; rfl
    have e7 : (r == 7) = false := by rw [hr]; rfl
    (repeat (first | refine aSeq fun X hX => ?_ | apply aBlk | apply aSkip | (first | apply aExit | apply aRet); try simp only [slx, ↓reduceIte, jA, reduceCtorEq] | (first | apply aReg | apply aIf); simp -implicitDefEqProofs only [↓slp, ↓reduceIte, reduceCtorEq, jA, jB, jC, jD, jE, jF, Y7, hT, hG, e0, e1, e2, e3, e4, e5, e6, e7] | apply hX; clear hX X | clear hX X; apply hX; clear hX X | intro hlen; unfold maxLen at hlen | apply And.intro; · first | assumption | and_intros <;> first | omega | assumption))
    refine callM (automaton_any d hd RB B p _ hok s k hs outs ho hty _ n (q - 1) (by omega) (by omega) (by omega) (by omega) (by omega)) ?_
    rintro v m' ⟨x, i5, n5, q5, rfl, hx, hcnt, rfl⟩
    simp -implicitDefEqProofs only [↓slp, ↓reduceIte, reduceCtorEq, jA, jB, jC, jD, jE, jF, Y7, hT, hG]
    refine ⟨⟨by rw [Qu.cells_pv]; rfl, by rw [Qu.pv_eq]; rfl⟩, ?_⟩
    apply hX; clear hX X
    (repeat (first | refine aSeq fun X hX => ?_ | apply aBlk | apply aSkip | (first | apply aExit | apply aRet); try simp only [slx, ↓reduceIte, jA, reduceCtorEq] | (apply hX; clear hX X) | (clear hX X; apply hX; clear hX X)))
    simp only [aPost, Tryd.results80, aRes_n, aRes_t, aRes_c, pack_one, pack_two]
    simp -implicitDefEqProofs only [↓slp, ↓reduceIte, reduceCtorEq, jA, jB, jC, jD, jE, jF, Y7, hT, hG, Qu.settle_pv]
    have := hcnt.n; have := hcnt.q0; have := hcnt.q1
    refine leave_gst0 hok (.refl m) rfl ⟨[x], [], i5, n5, q5, (by first | rfl | (simp only [PV.settle, PV.settles, Qu.settle_pv, List.map_cons, List.map_nil])), .auto hx, by simp only [List.length_cons, List.length_nil]; omega, by simp, ⟨by omega, by omega, by omega⟩, rfl⟩
   ·skip
    have e0 : (r == 0) = false := by rw [hr]; rfl
    have e1 : (r == 1) = false := by rw [hr]; rfl
    have e2 : (r == 2) = false := by rw [hr]; rfl
    have e3 : (r == 3) = true := by rw [hr]; rfl
    have e4 : (r == 4) = false := by rw [hr]; rfl
    have e5 : (r == 5) = false := by rw [hr]; rfl
    have e6 : (r == 6) = false := by rw [hr]; rfl
    have e7 : (r == 7) = false := by rw [hr]; rfl
    (repeat (first | refine aSeq fun X hX => ?_ | apply aBlk | apply aSkip | (first | apply aExit | apply aRet); try simp only [slx, ↓reduceIte, jA, reduceCtorEq] | (first | apply aReg | apply aIf); simp -implicitDefEqProofs only [↓slp, ↓reduceIte, reduceCtorEq, jA, jB, jC, jD, jE, jF, Y7, hT, hG, e0, e1, e2, e3, e4, e5, e6, e7] | apply hX; clear hX X | clear hX X; apply hX; clear hX X | intro hlen; unfold maxLen at hlen | apply And.intro; · first | assumption | and_intros <;> first | omega | assumption))
    refine callM (automaton_any d hd RB B p _ hok s k hs outs ho hty _ n (q - 1) (by omega) (by omega) (by omega) (by omega) (by omega)) ?_
    rintro v m' ⟨x, i5, n5, q5, rfl, hx, hcnt, rfl⟩
    simp -implicitDefEqProofs only [↓slp, ↓reduceIte, reduceCtorEq, jA, jB, jC, jD, jE, jF, Y7, hT, hG]
    refine ⟨⟨by rw [Qu.cells_pv]; rfl, by rw [Qu.pv_eq]; rfl⟩, ?_⟩
    apply hX; clear hX X
    (repeat (first | refine aSeq fun X hX => ?_ | apply aBlk | apply aSkip | (first | apply aExit | apply aRet); try simp only [slx, ↓reduceIte, jA, reduceCtorEq] | (apply hX; clear hX X) | (clear hX X; apply hX; clear hX X)))
    simp only [aPost, Tryd.results80, aRes_n, aRes_t, aRes_c, pack_one, pack_two]
    simp -implicitDefEqProofs only [↓slp, ↓reduceIte, reduceCtorEq, jA, jB, jC, jD, jE, jF, Y7, hT, hG, Qu.settle_pv]
    have := hcnt.n; have := hcnt.q0; have := hcnt.q1
    refine leave_gst0 hok (.refl m) rfl ⟨[x], [], i5, n5, q5, (by first | rfl | (simp only [PV.settle, PV.settles, Qu.settle_pv, List.map_cons, List.map_nil])), .auto hx, by simp only [List.length_cons, List.length_nil]; omega, by simp, ⟨by omega, by omega, by omega⟩, rfl⟩
   ·skip
    have e0 : (r == 0) = false := by rw [hr]; rfl
    have e1 : (r == 1) = false := by rw [hr]; rfl
    have e2 : (r == 2) = false := by rw [hr]; rfl
    have e3 : (r == 3) = false := by rw [hr]; rfl
    have e4 : (r == 4) = true := by rw [hr]; rfl
    have e5 : (r == 5) = false := by rw [hr]; rfl
    have e6 : (r == 6) = false := by rw [hr]; rfl
    have e7 : (r == 7) = false := by rw [hr]; rfl
    (repeat (first | refine aSeq fun X hX => ?_ | apply aBlk | apply aSkip | (first | apply aExit | apply aRet); try simp only [slx, ↓reduceIte, jA, reduceCtorEq] | (first | apply aReg | apply aIf); simp -implicitDefEqProofs only [↓slp, ↓reduceIte, reduceCtorEq, jA, jB, jC, jD, jE, jF, Y7, hT, hG, e0, e1, e2, e3, e4, e5, e6, e7] | apply hX; clear hX X | clear hX X; apply hX; clear hX X | intro hlen; unfold maxLen at hlen | apply And.intro; · first | assumption | and_intros <;> first | omega | assumption))
    have hw : IntKind.i64.wrap (((d + 1 : Nat) : Int) - 1) = (d : Int) := by rw [wrap64 (by omega)]; omega
    have join : ∀ (e : Ex) (he : GEx 2 s tyB true e) (f : F) (i2 : Nat), f 0 = .bp p.gp 0 → f 2 = .sl .no (outs.map Va.pv) → f 3 = pI ((d + 1 : Nat) : Int) → f 5 = .ep [.sl .no (s.ready.map Va.pv), .sl .no (s.all.map Va.pv), .sl .no (s.lasts.map Va.pv)] → f 10 = .bp m.nb 0 → X f (gst p (m.ext [some [PV.v (Value.int IntKind.u8 5), PV.sl Own.full [], PV.v (Value.string { data := #[] }), PV.sl Own.full [], PV.v (Value.bool false), PV.v (Value.int IntKind.u8 e.kind), PV.v (Value.int IntKind.u8 e.op), PV.v (Value.int IntKind.i32 e.n), PV.v (Value.string e.name), PV.sl Own.no (e.names.map pS), PV.sl Own.no (e.kids.map Ex.pv), PV.v (Value.int IntKind.i64 e.line), PV.v (Value.int IntKind.i64 e.col), PV.sl Own.full [], PV.v (Value.int IntKind.i64 0), PV.v (Value.int IntKind.i64 0)]]) i2 n (q - 1)) := by
     intro e he f i2 h0 h2 h3 h5 h10
     apply hX; clear hX X
     (repeat (first | refine aSeq fun X hX => ?_ | apply aBlk | apply aSkip | (first | apply aExit | apply aRet); try simp only [slx, ↓reduceIte, jA, reduceCtorEq] | (first | apply aReg | apply aIf); simp -implicitDefEqProofs only [↓slp, ↓reduceIte, reduceCtorEq, jA, jB, jC, jD, jE, jF, Y7, h0, h2, h3, h5, h10, hT, hG, hw] | apply hX; clear hX X | clear hX X; apply hX; clear hX X | intro hlen; unfold maxLen at hlen | apply And.intro; · first | assumption | and_intros <;> first | omega | assumption))
     refine callM (B p _ (hok.ext _) s k hs outs ho hty _ n (q - 1) (by omega) (by omega) (by omega) (by omega)) ?_
     rintro v m' ⟨b, i5, n5, q5, rfl, hb, hcnt, rfl⟩
     simp -implicitDefEqProofs only [↓slp, ↓reduceIte, reduceCtorEq, jA, jB, jC, jD, jE, jF, Y7, h0, h2, h3, h5, h10, hT, hG, Bk.pv]
     (repeat (first | refine aSeq fun X hX => ?_ | apply aBlk | apply aSkip | (first | apply aExit | apply aRet); try simp only [slx, ↓reduceIte, jA, reduceCtorEq] | (first | apply aReg | apply aIf); simp -implicitDefEqProofs only [↓slp, ↓reduceIte, reduceCtorEq, jA, jB, jC, jD, jE, jF, Y7, h0, h2, h3, h5, h10, hT, hG] | apply hX; clear hX X | clear hX X; apply hX; clear hX X | intro hlen; unfold maxLen at hlen | apply And.intro; · first | assumption | and_intros <;> first | omega | assumption))
     simp only [aPost, Tryd.results80, aRes_n, aRes_t, aRes_c, pack_one, pack_two]
     have := hcnt.n; have := hcnt.q0; have := hcnt.q1
     refine leave_gst hok (.refl m) rfl ⟨[.mk 5 [] sE [] false e [.mk sE b.vars b.eqs [] [] 0 0] 0 0], [], i5, n5, q5, ?_, .reset ⟨e, b, he, hb, rfl⟩, by simp only [List.length_cons, List.length_nil]; omega, by simp, ⟨by omega, by omega, by omega⟩, rfl⟩
     simp only [List.map_cons, List.map_nil, Qu.pv_eq, Qu.cs, Qu.arms, Am.pv_eq]
     rfl
    refine aFltN 5 (fun _ => True) (by simp only [List.length_cons, List.length_nil]; omega) (by kernel_rfl) trivial ?_
    simp -implicitDefEqProofs only [↓slp, ↓reduceIte, reduceCtorEq, jA, jB, jC, jD, jE, jF, Y7, hT, hG, List.getElem_cons_succ, List.getElem_cons_zero, List.getLast_cons_cons, List.getLast_singleton, List.dropLast_cons_cons, List.dropLast_singleton]
    refine ⟨?_, ?_⟩
    ·refine callE (tyB_any _) ?_
     refine ⟨trivial, ?_⟩
     simp -implicitDefEqProofs only [↓slp, ↓reduceIte, reduceCtorEq, jA, jB, jC, jD, jE, jF, Y7, hT, hG]
     refine callM (expr_any 2 (by omega) p _ (hok.ext _) s (hs.ok (by omega)) tyB (.inr (.inl rfl)) true _ _ _) ?_
     rintro v m' ⟨e, i3, rfl, he, rfl⟩
     refine ⟨trivial, ?_⟩
     simp -implicitDefEqProofs only [↓slp, ↓reduceIte, reduceCtorEq, jA, jB, jC, jD, jE, jF, Y7, hT, hG]
     exact join e he _ _ rfl rfl rfl rfl rfl
    ·refine callE (tyB_any _) ?_
     refine ⟨trivial, ?_⟩
     simp -implicitDefEqProofs only [↓slp, ↓reduceIte, reduceCtorEq, jA, jB, jC, jD, jE, jF, Y7, hT, hG]
     refine ⟨?_, ?_⟩
     ·refine callM (expr_any 2 (by omega) p _ (hok.ext _) s (hs.ok (by omega)) tyB (.inr (.inl rfl)) true _ _ _) ?_
      rintro v m' ⟨e, i3, rfl, he, rfl⟩
      refine ⟨trivial, ?_⟩
      simp -implicitDefEqProofs only [↓slp, ↓reduceIte, reduceCtorEq, jA, jB, jC, jD, jE, jF, Y7, hT, hG]
      exact join e he _ _ rfl rfl rfl rfl rfl
     ·refine callM (expr_any 2 (by omega) p _ hok s (hs.ok (by omega)) tyB (.inr (.inl rfl)) true _ _ _) ?_
      rintro v m' ⟨e, i3, rfl, he, rfl⟩
      refine ⟨trivial, ?_⟩
      simp -implicitDefEqProofs only [↓slp, ↓reduceIte, reduceCtorEq, jA, jB, jC, jD, jE, jF, Y7, hT, hG]
      exact join e he _ _ rfl rfl rfl rfl rfl
   ·skip
    have e0 : (r == 0) = false := by rw [hr]; rfl
    have e1 : (r == 1) = false := by rw [hr]; rfl
    have e2 : (r == 2) = false := by rw [hr]; rfl
    have e3 : (r == 3) = false := by rw [hr]; rfl
    have e4 : (r == 4) = false := by rw [hr]; rfl
    have e5 : (r == 5) = true := by rw [hr]; rfl
    have e6 : (r == 6) = false := by rw [hr]; rfl
    have e7 : (r == 7) = false := by rw [hr]; rfl
    by_cases hs0 : 0 < p.subs
    ·have cs : decide (p.subs > 0) = true := by simpa using hs0
     (repeat (first | refine aSeq fun X hX => ?_ | apply aBlk | apply aSkip | (first | apply aExit | apply aRet); try simp only [slx, ↓reduceIte, jA, reduceCtorEq] | (first | apply aReg | apply aIf); simp -implicitDefEqProofs only [↓slp, ↓reduceIte, reduceCtorEq, jA, jB, jC, jD, jE, jF, Y7, hT, hG, e0, e1, e2, e3, e4, e5, e6, e7, cs] | apply hX; clear hX X | clear hX X; apply hX; clear hX X | intro hlen; unfold maxLen at hlen | apply And.intro; · first | assumption | and_intros <;> first | omega | assumption))
     refine callM (call_any (d + 1) hd (t - 1) _ E p _ hok ⟨hs0, hok.sub⟩ s k hs outs ho hty _ n (q - 1) (by omega) (by omega) (by omega) (by omega) (by omega)) ?_
     rintro v m' ⟨x, y, z, l, vs, i5, n5, q5, rfl, hx, hre, hl1, hl2, hcnt, rfl⟩
     simp -implicitDefEqProofs only [↓slp, ↓reduceIte, reduceCtorEq, jA, jB, jC, jD, jE, jF, Y7, hT, hG]
     (repeat (first | refine aSeq fun X hX => ?_ | apply aBlk | apply aSkip | (first | apply aExit | apply aRet); try simp only [slx, ↓reduceIte, jA, reduceCtorEq] | (first | apply aReg | apply aIf); simp -implicitDefEqProofs only [↓slp, ↓reduceIte, reduceCtorEq, jA, jB, jC, jD, jE, jF, Y7, hT, hG] | apply hX; clear hX X | clear hX X; apply hX; clear hX X | intro hlen; unfold maxLen at hlen | apply And.intro; · first | assumption | and_intros <;> first | omega | assumption))
     simp only [aPost, Tryd.results80, aRes_n, aRes_t, aRes_c, pack_one, pack_two]
     have := hcnt.n; have := hcnt.q0; have := hcnt.q1
     refine leave_gst0 hok (.refl m) rfl ⟨z :: l, x :: y :: vs, i5, n5, q5, rfl, .call hx hre, by simp only [List.length_cons]; omega, by simp only [List.length_cons]; omega, ⟨by omega, by omega, by omega⟩, rfl⟩
    ·have cs : decide (p.subs > 0) = false := by simpa using hs0
     (repeat (first | refine aSeq fun X hX => ?_ | apply aBlk | apply aSkip | (first | apply aExit | apply aRet); try simp only [slx, ↓reduceIte, jA, reduceCtorEq] | (first | apply aReg | apply aIf); simp -implicitDefEqProofs only [↓slp, ↓reduceIte, reduceCtorEq, jA, jB, jC, jD, jE, jF, Y7, hT, hG, e0, e1, e2, e3, e4, e5, e6, e7, cs] | apply hX; clear hX X | clear hX X; apply hX; clear hX X | intro hlen; unfold maxLen at hlen | apply And.intro; · first | assumption | and_intros <;> first | omega | assumption))
     exact rest _ i1 rfl rfl rfl
   ·skip
    have e0 : (r == 0) = false := by rw [hr]; rfl
    have e1 : (r == 1) = false := by rw [hr]; rfl
    have e2 : (r == 2) = false := by rw [hr]; rfl
    have e3 : (r == 3) = false := by rw [hr]; rfl
    have e4 : (r == 4) = false := by rw [hr]; rfl
    have e5 : (r == 5) = false := by rw [hr]; rfl
    have e6 : (r == 6) = true := by rw [hr]; rfl
    have e7 : (r == 7) = false := by rw [hr]; rfl
    by_cases hs0 : 0 < p.subs
    ·have cs : decide (p.subs > 0) = true := by simpa using hs0
     (repeat (first | refine aSeq fun X hX => ?_ | apply aBlk | apply aSkip | (first | apply aExit | apply aRet); try simp only [slx, ↓reduceIte, jA, reduceCtorEq] | (first | apply aReg | apply aIf); simp -implicitDefEqProofs only [↓slp, ↓reduceIte, reduceCtorEq, jA, jB, jC, jD, jE, jF, Y7, hT, hG, e0, e1, e2, e3, e4, e5, e6, e7, cs] | apply hX; clear hX X | clear hX X; apply hX; clear hX X | intro hlen; unfold maxLen at hlen | apply And.intro; · first | assumption | and_intros <;> first | omega | assumption))
     refine callM (call_any (d + 1) hd (t - 1) _ E p _ hok ⟨hs0, hok.sub⟩ s k hs outs ho hty _ n (q - 1) (by omega) (by omega) (by omega) (by omega) (by omega)) ?_
     rintro v m' ⟨x, y, z, l, vs, i5, n5, q5, rfl, hx, hre, hl1, hl2, hcnt, rfl⟩
     simp -implicitDefEqProofs only [↓slp, ↓reduceIte, reduceCtorEq, jA, jB, jC, jD, jE, jF, Y7, hT, hG]
     (repeat (first | refine aSeq fun X hX => ?_ | apply aBlk | apply aSkip | (first | apply aExit | apply aRet); try simp only [slx, ↓reduceIte, jA, reduceCtorEq] | (first | apply aReg | apply aIf); simp -implicitDefEqProofs only [↓slp, ↓reduceIte, reduceCtorEq, jA, jB, jC, jD, jE, jF, Y7, hT, hG] | apply hX; clear hX X | clear hX X; apply hX; clear hX X | intro hlen; unfold maxLen at hlen | apply And.intro; · first | assumption | and_intros <;> first | omega | assumption))
     simp only [aPost, Tryd.results80, aRes_n, aRes_t, aRes_c, pack_one, pack_two]
     have := hcnt.n; have := hcnt.q0; have := hcnt.q1
     refine leave_gst0 hok (.refl m) rfl ⟨z :: l, x :: y :: vs, i5, n5, q5, rfl, .call hx hre, by simp only [List.length_cons]; omega, by simp only [List.length_cons]; omega, ⟨by omega, by omega, by omega⟩, rfl⟩
    ·have cs : decide (p.subs > 0) = false := by simpa using hs0
     (repeat (first | refine aSeq fun X hX => ?_ | apply aBlk | apply aSkip | (first | apply aExit | apply aRet); try simp only [slx, ↓reduceIte, jA, reduceCtorEq] | (first | apply aReg | apply aIf); simp -implicitDefEqProofs only [↓slp, ↓reduceIte, reduceCtorEq, jA, jB, jC, jD, jE, jF, Y7, hT, hG, e0, e1, e2, e3, e4, e5, e6, e7, cs] | apply hX; clear hX X | clear hX X; apply hX; clear hX X | intro hlen; unfold maxLen at hlen | apply And.intro; · first | assumption | and_intros <;> first | omega | assumption))
     exact rest _ i1 rfl rfl rfl
   ·skip
    have e0 : (r == 0) = false := by rw [hr]; rfl
    have e1 : (r == 1) = false := by rw [hr]; rfl
    have e2 : (r == 2) = false := by rw [hr]; rfl
    have e3 : (r == 3) = false := by rw [hr]; rfl
    have e4 : (r == 4) = false := by rw [hr]; rfl
    have e5 : (r == 5) = false := by rw [hr]; rfl
    have e6 : (r == 6) = false := by rw [hr]; rfl
    have e7 : (r == 7) = true := by rw [hr]; rfl
    (repeat (first | refine aSeq fun X hX => ?_ | apply aBlk | apply aSkip | (first | apply aExit | apply aRet); try simp only [slx, ↓reduceIte, jA, reduceCtorEq] | (first | apply aReg | apply aIf); simp -implicitDefEqProofs only [↓slp, ↓reduceIte, reduceCtorEq, jA, jB, jC, jD, jE, jF, Y7, hT, hG, e0, e1, e2, e3, e4, e5, e6, e7] | apply hX; clear hX X | clear hX X; apply hX; clear hX X | intro hlen; unfold maxLen at hlen | apply And.intro; · first | assumption | and_intros <;> first | omega | assumption))
    refine callM (sampled_any (d + 1) hd (t - 1) _ E p _ hok s k hs outs ho hty _ n (q - 1) (by omega) (by omega) (by omega) (by omega) (by omega)) ?_
    rintro v m' ⟨c, w, z, q1, q2, q3, l, vs, i5, n5, q5, rfl, hx, hre, hl1, hl2, hcnt, rfl⟩
    simp -implicitDefEqProofs only [↓slp, ↓reduceIte, reduceCtorEq, jA, jB, jC, jD, jE, jF, Y7, hT, hG]
    (repeat (first | refine aSeq fun X hX => ?_ | apply aBlk | apply aSkip | (first | apply aExit | apply aRet); try simp only [slx, ↓reduceIte, jA, reduceCtorEq] | (first | apply aReg | apply aIf); simp -implicitDefEqProofs only [↓slp, ↓reduceIte, reduceCtorEq, jA, jB, jC, jD, jE, jF, Y7, hT, hG] | apply hX; clear hX X | clear hX X; apply hX; clear hX X | intro hlen; unfold maxLen at hlen | apply And.intro; · first | assumption | and_intros <;> first | omega | assumption))
    simp only [aPost, Tryd.results80, aRes_n, aRes_t, aRes_c, pack_one, pack_two]
    have := hcnt.n; have := hcnt.q0; have := hcnt.q1
    refine leave_gst0 hok (.refl m) rfl ⟨q1 :: q2 :: q3 :: l, c :: w :: z :: vs, i5, n5, q5, rfl, .samp hx hre, by simp only [List.length_cons]; omega, by simp only [List.length_cons]; omega, ⟨by omega, by omega, by omega⟩, rfl⟩
   ·skip
    have e0 : (r == 0) = false := by rw [hr]; rfl
    have e1 : (r == 1) = false := by rw [hr]; rfl
    have e2 : (r == 2) = false := by rw [hr]; rfl
    have e3 : (r == 3) = false := by rw [hr]; rfl
    have e4 : (r == 4) = false := by rw [hr]; rfl
    have e5 : (r == 5) = false := by rw [hr]; rfl
    have e6 : (r == 6) = false := by rw [hr]; rfl
    have e7 : (r == 7) = false := by rw [hr]; rfl
    (repeat (first | refine aSeq fun X hX => ?_ | apply aBlk | apply aSkip | (first | apply aExit | apply aRet); try simp only [slx, ↓reduceIte, jA, reduceCtorEq] | (first | apply aReg | apply aIf); simp -implicitDefEqProofs only [↓slp, ↓reduceIte, reduceCtorEq, jA, jB, jC, jD, jE, jF, Y7, hT, hG, e0, e1, e2, e3, e4, e5, e6, e7] | apply hX; clear hX X | clear hX X; apply hX; clear hX X | intro hlen; unfold maxLen at hlen | apply And.intro; · first | assumption | and_intros <;> first | omega | assumption))
    exact rest _ i1 rfl rfl rfl
  ·have cq : decide (q - 1 > 0) = false := by simpa using hq0
   (repeat (first | refine aSeq fun X hX => ?_ | apply aBlk | apply aSkip | (first | apply aExit | apply aRet); try simp only [slx, ↓reduceIte, jA, reduceCtorEq] | (first | apply aReg | apply aIf); simp -implicitDefEqProofs only [↓slp, ↓reduceIte, reduceCtorEq, jA, jB, jC, jD, jE, jF, Y7, hT, hG, hwq, cd, cq] | apply hX; clear hX X | clear hX X; apply hX; clear hX X | intro hlen; unfold maxLen at hlen | apply And.intro; · first | assumption | and_intros <;> first | omega | assumption))
   exact rest _ i rfl rfl rfl
 ·have cd : decide ((d : Int) > 0) = false := by simp; omega
  (repeat (first | refine aSeq fun X hX => ?_ | apply aBlk | apply aSkip | (first | apply aExit | apply aRet); try simp only [slx, ↓reduceIte, jA, reduceCtorEq] | (first | apply aReg | apply aIf); simp -implicitDefEqProofs only [↓slp, ↓reduceIte, reduceCtorEq, jA, jB, jC, jD, jE, jF, Y7, hT, hG, hwq, cd] | apply hX; clear hX X | clear hX X; apply hX; clear hX X | intro hlen; unfold maxLen at hlen | apply And.intro; · first | assumption | and_intros <;> first | omega | assumption))
  exact rest _ i rfl rfl rfl
end Go.Proofs.YteiaedmipkcfeaaDoor
