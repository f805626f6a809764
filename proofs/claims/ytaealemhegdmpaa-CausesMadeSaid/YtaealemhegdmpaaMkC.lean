/-
 Texts that belong together: AbMk6, AbMk7, AbMk8.
-/
-- halved
import Derived.Test.YtaealemhegdmpaaMkB
/-
 The maker: expressions.
-/
set_option linter.unusedVariables false
set_option linter.unusedSimpArgs false
set_option maxHeartbeats 4000000
namespace Go.Proofs.Ytaealemhegdmpaa
open Nat renaming reduceEqDiff → jA, reduceAdd → jB, reduceMul → jC, reduceLT → jD, reduceLeDiff → jE, reduceBEq → jF, reduceBNe → jG
open Int renaming reduceLE → jH, reduceLT → jI, reduceToNat → jJ, reduceEq → jK
open Go
theorem operator_any (d : Nat) (hd : d < 1000) (E : ExprC d) (p : GP) (m : M) (hok : p.ok m) (s : Sc) (hs : s.ok) (t : Ty) (ht : isTy t) (st : Bool) (i : Nat) (n q : Int) : ACalls Try.prog 76 [.bp p.gp 0, s.pv, t.pv, pI ((d + 1 : Nat) : Int), pB st] (gst p m i n q) (fun v m' => ∃ e i', v = Ex.pv e ∧ GOp (GEx d) s t st e ∧ m' = gst p m i' n q) := by
 rcases ht with rfl | rfl | rfl
 ·exact operatorI_any d hd E p m hok s hs st i n q
 ·exact operatorB_any d hd E p m hok s hs st i n q
 ·exact operatorC_any d hd p m hok s hs st i n q
set_option maxRecDepth 20000 in
theorem expr0_any : ExprC 0 := by
 intro p m hok s hs t ht st i n q
 have hG := hok.gp
 have hT := hok.tp
 have c0 : decide (((0 : Nat) : Int) ≤ 0) = true := rfl
 refine ACalls.enter (mu := [10, 11]) ok_mix Try.func62 rfl (by kernel_rfl) (by kernel_rfl) (by simp only [List.length_cons, List.length_nil, Try.ntmps62]; omega) ?_
 (repeat (first | refine aSeq fun X hX => ?_ | apply aBlk | refine aSkip ?_ | (first | refine aExit ?_ | refine aRet ?_); try simp only [slx, ↓reduceIte, jA, reduceCtorEq] | (first | apply aReg | refine aDrE ?_ | apply aIf); simp -implicitDefEqProofs only [↓slp, ↓reduceIte, reduceCtorEq, jA, jE, jF, Y5, hT, hG, c0]; try simp only [fo] | apply hX; clear hX X | clear hX X; apply hX; clear hX X | apply aI; · first | assumption | and_intros <;> first | omega | assumption))
 refine callM (variable_any p _ (hok.ext _) _ _ hs.ready t ht _ n q) ?_
 rintro v m' ⟨e, i3, rfl, he, rfl⟩
 simp -implicitDefEqProofs only [↓slp, ↓reduceIte, reduceCtorEq, jA, jE, jF, Y5, hT, hG]; try simp only [fo]
 (repeat (first | refine aSeq fun X hX => ?_ | apply aBlk | refine aSkip ?_ | (first | refine aExit ?_ | refine aRet ?_); try simp only [slx, ↓reduceIte, jA, reduceCtorEq] | (first | apply aReg | refine aDrE ?_ | apply aIf); simp -implicitDefEqProofs only [↓slp, ↓reduceIte, reduceCtorEq, jA, jE, jF, Y5, hT, hG]; try simp only [fo] | apply hX; clear hX X | clear hX X; apply hX; clear hX X | apply aI; · first | assumption | and_intros <;> first | omega | assumption))
 simp only [aPost, Try.results62, aRes_n, aRes_t, aRes_c, pack_one, pack_two]
 simp -implicitDefEqProofs only [↓slp, ↓reduceIte, reduceCtorEq, jA, jE, jF, Y5, hT, hG]; try simp only [fo]
 exact leave_gst hok (.refl m) (by simp only [Ex.settle_pv, Ex.pure_pv]) ⟨_, i3, by simp only [Ex.settle_pv], he, rfl⟩
set_option maxRecDepth 20000 in
theorem exprS_any (d : Nat) (hd : d + 1 < 1000) (E : ExprC d) : ExprC (d + 1) := by
 intro p m hok s hs t ht st i n q
 have hG := hok.gp
 have hT := hok.tp
 have hN := hok.ne
 have hw : IntKind.i64.wrap (((d + 1 : Nat) : Int) - 1) = (d : Int) := by rw [wrap64 (by omega)]; omega
 have c0 : decide (((d + 1 : Nat) : Int) ≤ 0) = false := by simp
 refine ACalls.enter (mu := [10, 11]) ok_mix Try.func62 rfl (by kernel_rfl) (by kernel_rfl) (by simp only [List.length_cons, List.length_nil, Try.ntmps62]; omega) ?_
 (repeat (first | refine aSeq fun X hX => ?_ | apply aBlk | refine aSkip ?_ | (first | refine aExit ?_ | refine aRet ?_); try simp only [slx, ↓reduceIte, jA, reduceCtorEq] | (first | apply aReg | refine aDrE ?_ | apply aIf); simp -implicitDefEqProofs only [↓slp, ↓reduceIte, reduceCtorEq, jA, jE, jF, Y5, hT, hG, c0]; try simp only [fo] | apply hX; clear hX X | clear hX X; apply hX; clear hX X | apply aI; · first | assumption | and_intros <;> first | omega | assumption))
 refine callM (next_any p _ (hok.ext _) 12 (by omega) i n q) ?_
 rintro v m' ⟨r, i', rfl, ⟨hr0, hr1⟩, rfl⟩
 simp -implicitDefEqProofs only [↓slp, ↓reduceIte, reduceCtorEq, jA, jE, jF, Y5, hT, hG]; try simp only [fo]
 apply hX; clear hX X
 have hop : ∀ (f : F) (i2 : Nat), f 0 = .bp p.gp 0 → f 3 = .v (.int .i64 ((d + 1 : Nat) : Int)) → f 4 = .v (.bool st) → f 6 = .ep [.sl .no (s.ready.map Va.pv), .sl .no (s.all.map Va.pv), .sl .no (s.lasts.map Va.pv)] → f 7 = .ep [.v (.int .u8 t.kind), .v (.string t.name)] → f 10 = .bp m.nb 0 →
     X f (gst p (m.ext [some [PV.v (Value.int IntKind.u8 0), PV.v (Value.int IntKind.u8 0), PV.v (Value.int IntKind.i32 0), PV.v (Value.string { data := #[] }), PV.sl Own.full [], PV.sl Own.full [], PV.v (Value.int IntKind.i64 0), PV.v (Value.int IntKind.i64 0)]]) i2 n q) := by
  intro f i2 h0 h3 h4 h6 h7 h10
  refine hX _ _ ?_
  clear hX X
  (repeat (first | refine aSeq fun X hX => ?_ | apply aBlk | refine aSkip ?_ | (first | refine aExit ?_ | refine aRet ?_); try simp only [slx, ↓reduceIte, jA, reduceCtorEq] | (first | apply aReg | refine aDrE ?_ | apply aIf); simp -implicitDefEqProofs only [↓slp, ↓reduceIte, reduceCtorEq, jA, jE, jF, Y5, hT, hG, h0, h3, h4, h6, h7, h10]; try simp only [fo] | apply hX; clear hX X | clear hX X; apply hX; clear hX X | apply aI; · first | assumption | and_intros <;> first | omega | assumption))
  refine callM (operator_any d (by omega) E p _ (hok.ext _) s hs t ht st i2 n q) ?_
  rintro v m' ⟨e, i3, rfl, he, rfl⟩
  simp -implicitDefEqProofs only [↓slp, ↓reduceIte, reduceCtorEq, jA, jE, jF, Y5, hT, hG, h10]; try simp only [fo]
  (repeat (first | refine aSeq fun X hX => ?_ | apply aBlk | refine aSkip ?_ | (first | refine aExit ?_ | refine aRet ?_); try simp only [slx, ↓reduceIte, jA, reduceCtorEq] | (first | apply aReg | refine aDrE ?_ | apply aIf); simp -implicitDefEqProofs only [↓slp, ↓reduceIte, reduceCtorEq, jA, jE, jF, Y5, hT, hG, h10]; try simp only [fo] | apply hX; clear hX X | clear hX X; apply hX; clear hX X | apply aI; · first | assumption | and_intros <;> first | omega | assumption))
  simp only [aPost, Try.results62, aRes_n, aRes_t, aRes_c, pack_one, pack_two]
  simp -implicitDefEqProofs only [↓slp, ↓reduceIte, reduceCtorEq, jA, jE, jF, Y5, hT, hG, h10]; try simp only [fo]
  exact leave_gst hok (.refl m) (by simp only [Ex.settle_pv, Ex.pure_pv]) ⟨_, i3, by simp only [Ex.settle_pv], .inr (.inr (.inr (.inr (.inr he)))), rfl⟩
 clear hX
 cases k0 : (r == 0) with
 | true =>
  (repeat (first | refine aSeq fun X hX => ?_ | apply aBlk | refine aSkip ?_ | (first | refine aExit ?_ | refine aRet ?_); try simp only [slx, ↓reduceIte, jA, reduceCtorEq] | (first | apply aReg | refine aDrE ?_ | apply aIf); simp -implicitDefEqProofs only [↓slp, ↓reduceIte, reduceCtorEq, jA, jE, jF, Y5, hT, hG, k0]; try simp only [fo] | apply hX; clear hX X | clear hX X; apply hX; clear hX X | apply aI; · first | assumption | and_intros <;> first | omega | assumption))
  refine callM (constant_any p _ (hok.ext _) t ht _ n q) ?_
  rintro v m' ⟨e, i3, rfl, he, rfl⟩
  simp -implicitDefEqProofs only [↓slp, ↓reduceIte, reduceCtorEq, jA, jE, jF, Y5, hT, hG]; try simp only [fo]
  (repeat (first | refine aSeq fun X hX => ?_ | apply aBlk | refine aSkip ?_ | (first | refine aExit ?_ | refine aRet ?_); try simp only [slx, ↓reduceIte, jA, reduceCtorEq] | (first | apply aReg | refine aDrE ?_ | apply aIf); simp -implicitDefEqProofs only [↓slp, ↓reduceIte, reduceCtorEq, jA, jE, jF, Y5, hT, hG]; try simp only [fo] | apply hX; clear hX X | clear hX X; apply hX; clear hX X | apply aI; · first | assumption | and_intros <;> first | omega | assumption))
  simp only [aPost, Try.results62, aRes_n, aRes_t, aRes_c, pack_one, pack_two]
  simp -implicitDefEqProofs only [↓slp, ↓reduceIte, reduceCtorEq, jA, jE, jF, Y5, hT, hG]; try simp only [fo]
  exact leave_gst hok (.refl m) (by simp only [Ex.settle_pv, Ex.pure_pv]) ⟨_, i3, by simp only [Ex.settle_pv], .inl (.inr he), rfl⟩
 | false =>
 cases k1 : (r == 1) with
 | true =>
  (repeat (first | refine aSeq fun X hX => ?_ | apply aBlk | refine aSkip ?_ | (first | refine aExit ?_ | refine aRet ?_); try simp only [slx, ↓reduceIte, jA, reduceCtorEq] | (first | apply aReg | refine aDrE ?_ | apply aIf); simp -implicitDefEqProofs only [↓slp, ↓reduceIte, reduceCtorEq, jA, jE, jF, Y5, hT, hG, k0, k1]; try simp only [fo] | apply hX; clear hX X | clear hX X; apply hX; clear hX X | apply aI; · first | assumption | and_intros <;> first | omega | assumption))
  refine callM (variable_any p _ (hok.ext _) _ _ hs.ready t ht _ n q) ?_
  rintro v m' ⟨e, i3, rfl, he, rfl⟩
  simp -implicitDefEqProofs only [↓slp, ↓reduceIte, reduceCtorEq, jA, jE, jF, Y5, hT, hG]; try simp only [fo]
  (repeat (first | refine aSeq fun X hX => ?_ | apply aBlk | refine aSkip ?_ | (first | refine aExit ?_ | refine aRet ?_); try simp only [slx, ↓reduceIte, jA, reduceCtorEq] | (first | apply aReg | refine aDrE ?_ | apply aIf); simp -implicitDefEqProofs only [↓slp, ↓reduceIte, reduceCtorEq, jA, jE, jF, Y5, hT, hG]; try simp only [fo] | apply hX; clear hX X | clear hX X; apply hX; clear hX X | apply aI; · first | assumption | and_intros <;> first | omega | assumption))
  simp only [aPost, Try.results62, aRes_n, aRes_t, aRes_c, pack_one, pack_two]
  simp -implicitDefEqProofs only [↓slp, ↓reduceIte, reduceCtorEq, jA, jE, jF, Y5, hT, hG]; try simp only [fo]
  exact leave_gst hok (.refl m) (by simp only [Ex.settle_pv, Ex.pure_pv]) ⟨_, i3, by simp only [Ex.settle_pv], .inl he, rfl⟩
 | false =>
 cases k2 : (r == 2) with
 | true =>
  (repeat (first | refine aSeq fun X hX => ?_ | apply aBlk | refine aSkip ?_ | (first | refine aExit ?_ | refine aRet ?_); try simp only [slx, ↓reduceIte, jA, reduceCtorEq] | (first | apply aReg | refine aDrE ?_ | apply aIf); simp -implicitDefEqProofs only [↓slp, ↓reduceIte, reduceCtorEq, jA, jE, jF, Y5, hT, hG, k0, k1, k2]; try simp only [fo] | apply hX; clear hX X | clear hX X; apply hX; clear hX X | apply aI; · first | assumption | and_intros <;> first | omega | assumption))
  refine callM (variable_any p _ (hok.ext _) _ _ hs.ready t ht _ n q) ?_
  rintro v m' ⟨e, i3, rfl, he, rfl⟩
  simp -implicitDefEqProofs only [↓slp, ↓reduceIte, reduceCtorEq, jA, jE, jF, Y5, hT, hG]; try simp only [fo]
  (repeat (first | refine aSeq fun X hX => ?_ | apply aBlk | refine aSkip ?_ | (first | refine aExit ?_ | refine aRet ?_); try simp only [slx, ↓reduceIte, jA, reduceCtorEq] | (first | apply aReg | refine aDrE ?_ | apply aIf); simp -implicitDefEqProofs only [↓slp, ↓reduceIte, reduceCtorEq, jA, jE, jF, Y5, hT, hG]; try simp only [fo] | apply hX; clear hX X | clear hX X; apply hX; clear hX X | apply aI; · first | assumption | and_intros <;> first | omega | assumption))
  simp only [aPost, Try.results62, aRes_n, aRes_t, aRes_c, pack_one, pack_two]
  simp -implicitDefEqProofs only [↓slp, ↓reduceIte, reduceCtorEq, jA, jE, jF, Y5, hT, hG]; try simp only [fo]
  exact leave_gst hok (.refl m) (by simp only [Ex.settle_pv, Ex.pure_pv]) ⟨_, i3, by simp only [Ex.settle_pv], .inl he, rfl⟩
 | false =>
 cases k3 : (r == 3) with
 | true =>
  (repeat (first | refine aSeq fun X hX => ?_ | apply aBlk | refine aSkip ?_ | (first | refine aExit ?_ | refine aRet ?_); try simp only [slx, ↓reduceIte, jA, reduceCtorEq] | (first | apply aReg | apply aIf); simp -implicitDefEqProofs only [↓slp, ↓reduceIte, reduceCtorEq, jA, jE, jF, Y5, hT, hG, k0, k1, k2, k3]; try simp only [fo] | apply hX; clear hX X | clear hX X; apply hX; clear hX X | apply aI; · first | assumption | and_intros <;> first | omega | assumption))
  have join : ∀ (f : F) (c : Ex) (i3 : Nat), GEx d s tyB st c → f 0 = .bp p.gp 0 → f 3 = .v (.int .i64 ((d + 1 : Nat) : Int)) → f 4 = .v (.bool st) → f 6 = .ep [.sl .no (s.ready.map Va.pv), .sl .no (s.all.map Va.pv), .sl .no (s.lasts.map Va.pv)] → f 7 = .ep [.v (.int .u8 t.kind), .v (.string t.name)] → f 10 = .bp m.nb 0 → f 11 = .bp (m.nb + 1) 0 →
      X f (gst p (m.ext [some [PV.v (Value.int IntKind.u8 0), PV.v (Value.int IntKind.u8 0), PV.v (Value.int IntKind.i32 0), PV.v (Value.string { data := #[] }), PV.sl Own.full [], PV.sl Own.full [], PV.v (Value.int IntKind.i64 0), PV.v (Value.int IntKind.i64 0)], some [.v (.int .u8 c.kind), .v (.int .u8 c.op), .v (.int .i32 c.n), .v (.string c.name), .sl .no (c.names.map pS), .sl .no (c.kids.map Ex.pv), .v (.int .i64 c.line), .v (.int .i64 c.col)]]) i3 n q) := by
   intro f c i3 hc g0 g3 g4 g6 g7 g10 g11
   refine hX _ _ ?_
   clear hX X
   refine aSeq (fun X hX => ?_)
   refine aRegF 1 c.pv hok (by simp only [List.getElem?_cons_succ, List.getElem?_cons_zero, Ex.cells_pv, Ex.cs]) (Ex.ok_pv c) ?_
   intro f' hf
   have h0 : f' 0 = .bp p.gp 0 := (hf 0).trans (by rw [g0]; exact frz_ne (by omega))
   have h3 : f' 3 = .v (.int .i64 ((d + 1 : Nat) : Int)) := (hf 3).trans (by rw [g3]; rfl)
   have h4 : f' 4 = .v (.bool st) := (hf 4).trans (by rw [g4]; rfl)
   have h6 : f' 6 = .ep [.sl .no (s.ready.map Va.pv), .sl .no (s.all.map Va.pv), .sl .no (s.lasts.map Va.pv)] := (hf 6).trans (by rw [g6]; rfl)
   have h7 : f' 7 = .ep [.v (.int .u8 t.kind), .v (.string t.name)] := (hf 7).trans (by rw [g7]; rfl)
   have h10 : f' 10 = .bp m.nb 0 := (hf 10).trans (by rw [g10]; exact frz_ne (by omega))
   have h11 : f' 11 = .ep c.cs := (hf 11).trans (by rw [g11]; exact frz_eq.trans (by rw [Ex.cells_pv]))
   clear hf
   simp -implicitDefEqProofs only [↓slp, ↓reduceIte, reduceCtorEq, jA, jE, jF, Y5, hT, hG, h0, h3, h4, h6, h7, h10, h11, hw]; try simp only [fo]
   refine callM (E p _ (hok.ext _) s hs t ht st _ n q) ?_
   rintro v m' ⟨a, i4, rfl, ha, rfl⟩
   simp -implicitDefEqProofs only [↓slp, ↓reduceIte, reduceCtorEq, jA, jE, jF, Y5, hT, hG, h0, h3, h4, h6, h7, h10, h11, hw]; try simp only [fo]
   apply hX; clear hX X
   refine aSeq (fun X hX => ?_)
   refine aDrw (fun _ => True) (by kernel_rfl) trivial ?_
   simp -implicitDefEqProofs only [↓slp, ↓reduceIte, reduceCtorEq, jA, jE, jF, Y5, hT, hG, h0, h3, h4, h6, h7, h10, h11, hw]; try simp only [fo]
   refine callM (E p _ (hok.ext _) s hs t ht st _ n q) ?_
   rintro v m' ⟨b, i5, rfl, hb, rfl⟩
   refine ⟨trivial, ?_⟩
   simp -implicitDefEqProofs only [↓slp, ↓reduceIte, reduceCtorEq, jA, jE, jF, Y5, hT, hG, h0, h3, h4, h6, h7, h10, h11, hw]; try simp only [fo]
   (repeat (first | refine aSeq fun X hX => ?_ | apply aBlk | refine aSkip ?_ | (first | refine aExit ?_ | refine aRet ?_); try simp only [slx, ↓reduceIte, jA, reduceCtorEq] | (first | apply aReg | refine aDrE ?_ | apply aIf); simp -implicitDefEqProofs only [↓slp, ↓reduceIte, reduceCtorEq, jA, jE, jF, Y5, hT, hG]; try simp only [fo] | apply hX; clear hX X | clear hX X; apply hX; clear hX X | apply aI; · first | assumption | and_intros <;> first | omega | assumption))
   simp only [aPost, Try.results62, aRes_n, aRes_t, aRes_c, pack_one, pack_two]
   simp -implicitDefEqProofs only [↓slp, ↓reduceIte, reduceCtorEq, jA, jE, jF, Y5, hT, hG, h10]; try simp only [fo]
   refine leave_gst hok (.refl m) (by simp only [PV.settle, PV.settles, PV.pure, PV.pures, Ex.settle_pv, Ex.pure_pv]; rfl) ⟨Ex.un 8 0 [c, a, b], i5, ?_, .inr (.inl ⟨c, a, b, hc, ha, hb, rfl⟩), rfl⟩
   rw [← Ex.un_lit]
   simp only [PV.settle, PV.settles, Ex.settle_pv, List.map_cons, List.map_nil]
  clear hX
  refine aFltN 7 (fun _ => True) (by simp only [List.length_cons, List.length_nil]; omega) (by kernel_rfl) trivial ?_
  simp -implicitDefEqProofs only [↓slp, ↓reduceIte, reduceCtorEq, jA, jE, jF, Y5, hT, hG, hw, List.getElem_cons_succ, List.getElem_cons_zero, List.getLast_cons_cons, List.getLast_singleton, List.dropLast_cons_cons, List.dropLast_singleton]; try simp only [fo]
  refine ⟨?_, ?_⟩
  ·refine callE (tyB_any _) ?_
   refine ⟨trivial, ?_⟩
   simp -implicitDefEqProofs only [↓slp, ↓reduceIte, reduceCtorEq, jA, jE, jF, Y5, hT, hG, hw]; try simp only [fo]
   refine callM (E p _ (hok.ext _) s hs tyB (.inr (.inl rfl)) st _ n q) ?_
   rintro v m' ⟨c, i3, rfl, hc, rfl⟩
   refine ⟨trivial, ?_⟩
   simp -implicitDefEqProofs only [↓slp, ↓reduceIte, reduceCtorEq, jA, jE, jF, Y5, hT, hG]; try simp only [fo]
   exact join _ c i3 hc rfl rfl rfl rfl rfl rfl rfl
  ·refine callE (tyB_any _) ?_
   refine ⟨trivial, ?_⟩
   simp -implicitDefEqProofs only [↓slp, ↓reduceIte, reduceCtorEq, jA, jE, jF, Y5, hT, hG, hw]; try simp only [fo]
   refine ⟨?_, ?_⟩
   ·refine callM (E p _ (hok.ext _) s hs tyB (.inr (.inl rfl)) st _ n q) ?_
    rintro v m' ⟨c, i3, rfl, hc, rfl⟩
    refine ⟨trivial, ?_⟩
    simp -implicitDefEqProofs only [↓slp, ↓reduceIte, reduceCtorEq, jA, jE, jF, Y5, hT, hG]; try simp only [fo]
    exact join _ c i3 hc rfl rfl rfl rfl rfl rfl rfl
   ·refine callM (E p _ (hok.ext _) s hs tyB (.inr (.inl rfl)) st _ n q) ?_
    rintro v m' ⟨c, i3, rfl, hc, rfl⟩
    refine ⟨trivial, ?_⟩
    simp -implicitDefEqProofs only [↓slp, ↓reduceIte, reduceCtorEq, jA, jE, jF, Y5, hT, hG]; try simp only [fo]
    exact join _ c i3 hc rfl rfl rfl rfl rfl rfl rfl
 | false =>
 cases k7 : (r == 7) with
 | true =>
  have k4 : (r == 4) = false := by simp at k7 ⊢; omega
  have k5 : (r == 5) = false := by simp at k7 ⊢; omega
  have k6 : (r == 6) = false := by simp at k7 ⊢; omega
  (repeat (first | refine aSeq fun X hX => ?_ | apply aBlk | refine aSkip ?_ | (first | refine aExit ?_ | refine aRet ?_); try simp only [slx, ↓reduceIte, jA, reduceCtorEq] | (first | apply aReg | refine aDrE ?_ | apply aIf); simp -implicitDefEqProofs only [↓slp, ↓reduceIte, reduceCtorEq, jA, jE, jF, Y5, hT, hG, k0, k1, k2, k3, k4, k5, k6, k7]; try simp only [fo] | apply hX; clear hX X | clear hX X; apply hX; clear hX X | apply aI; · first | assumption | and_intros <;> first | omega | assumption))
  refine callM (pick_any p _ (hok.ext _) _ _ hs.lasts t _ n q) ?_
  rintro v m' ⟨x, b, i3, rfl, hx, rfl⟩
  cases b with
  | true =>
   simp -implicitDefEqProofs only [↓slp, ↓reduceIte, reduceCtorEq, jA, jE, jF, Y5, hT, hG]; try simp only [fo]
   (repeat (first | refine aSeq fun X hX => ?_ | apply aBlk | refine aSkip ?_ | (first | refine aExit ?_ | refine aRet ?_); try simp only [slx, ↓reduceIte, jA, reduceCtorEq] | (first | apply aReg | refine aDrE ?_ | apply aIf); simp -implicitDefEqProofs only [↓slp, ↓reduceIte, reduceCtorEq, jA, jE, jF, Y5, hT, hG]; try simp only [fo] | apply hX; clear hX X | clear hX X; apply hX; clear hX X | apply aI; · first | assumption | and_intros <;> first | omega | assumption))
   simp only [aPost, Try.results62, aRes_n, aRes_t, aRes_c, pack_one, pack_two]
   simp -implicitDefEqProofs only [↓slp, ↓reduceIte, reduceCtorEq, jA, jE, jF, Y5, hT, hG]; try simp only [fo]
   refine leave_gst hok (.refl m) rfl ⟨Ex.sc 5 0 0 x, i3, ?_, .inr (.inr (.inr (.inr (.inl ⟨x, hx rfl, rfl⟩)))), rfl⟩
   rw [← Ex.sc_lit]; rfl
  | false =>
   simp -implicitDefEqProofs only [↓slp, ↓reduceIte, reduceCtorEq, jA, jE, jF, Y5, hT, hG]; try simp only [fo]
   (repeat (first | refine aSeq fun X hX => ?_ | apply aBlk | refine aSkip ?_ | (first | refine aExit ?_ | refine aRet ?_); try simp only [slx, ↓reduceIte, jA, reduceCtorEq] | (first | apply aReg | refine aDrE ?_ | apply aIf); simp -implicitDefEqProofs only [↓slp, ↓reduceIte, reduceCtorEq, jA, jE, jF, Y5, hT, hG]; try simp only [fo] | apply hX; clear hX X | clear hX X; apply hX; clear hX X | apply aI; · first | assumption | and_intros <;> first | omega | assumption))
   exact hop _ _ rfl rfl rfl rfl rfl rfl
 | false =>
 cases k4 : (r == 4) with
 | true =>
  cases st with
  | true =>
   (repeat (first | refine aSeq fun X hX => ?_ | apply aBlk | refine aSkip ?_ | (first | refine aExit ?_ | refine aRet ?_); try simp only [slx, ↓reduceIte, jA, reduceCtorEq] | (first | apply aReg | apply aIf); simp -implicitDefEqProofs only [↓slp, ↓reduceIte, reduceCtorEq, jA, jE, jF, Y5, hT, hG, k0, k1, k2, k3, k4]; try simp only [fo] | apply hX; clear hX X | clear hX X; apply hX; clear hX X | apply aI; · first | assumption | and_intros <;> first | omega | assumption))
   refine callM (constant_any p _ (hok.ext _) t ht _ n q) ?_
   rintro v m' ⟨c, i3, rfl, hc, rfl⟩
   simp -implicitDefEqProofs only [↓slp, ↓reduceIte, reduceCtorEq, jA, jE, jF, Y5, hT, hG]; try simp only [fo]
   (repeat (first | refine aSeq fun X hX => ?_ | apply aBlk | refine aSkip ?_ | (first | refine aExit ?_ | refine aRet ?_); try simp only [slx, ↓reduceIte, jA, reduceCtorEq] | (first | apply aReg | apply aIf); simp -implicitDefEqProofs only [↓slp, ↓reduceIte, reduceCtorEq, jA, jE, jF, Y5, hT, hG]; try simp only [fo] | apply hX; clear hX X | clear hX X; apply hX; clear hX X | apply aI; · first | assumption | and_intros <;> first | omega | assumption))
   refine aDrw (fun _ => True) (by kernel_rfl) trivial ?_
   simp -implicitDefEqProofs only [↓slp, ↓reduceIte, reduceCtorEq, jA, jE, jF, Y5, hT, hG, hw]; try simp only [fo]
   refine callM (E p _ (hok.ext _) s.toAll hs.toAll t ht true _ n q) ?_
   rintro v m' ⟨b, i4, rfl, hb, rfl⟩
   refine ⟨trivial, ?_⟩
   simp -implicitDefEqProofs only [↓slp, ↓reduceIte, reduceCtorEq, jA, jE, jF, Y5, hT, hG]; try simp only [fo]
   refine callE (two_any 9 0 c b _) ?_
   refine ⟨trivial, ?_⟩
   simp -implicitDefEqProofs only [↓slp, ↓reduceIte, reduceCtorEq, jA, jE, jF, Y5, hT, hG]; try simp only [fo]
   (repeat (first | refine aSeq fun X hX => ?_ | apply aBlk | refine aSkip ?_ | (first | refine aExit ?_ | refine aRet ?_); try simp only [slx, ↓reduceIte, jA, reduceCtorEq] | (first | apply aReg | refine aDrE ?_ | apply aIf); simp -implicitDefEqProofs only [↓slp, ↓reduceIte, reduceCtorEq, jA, jE, jF, Y5, hT, hG]; try simp only [fo] | apply hX; clear hX X | clear hX X; apply hX; clear hX X | apply aI; · first | assumption | and_intros <;> first | omega | assumption))
   simp only [aPost, Try.results62, aRes_n, aRes_t, aRes_c, pack_one, pack_two]
   simp -implicitDefEqProofs only [↓slp, ↓reduceIte, reduceCtorEq, jA, jE, jF, Y5, hT, hG]; try simp only [fo]
   exact leave_gst hok (.refl m) (by simp only [Ex.settle_pv, Ex.pure_pv]) ⟨_, i4, by simp only [Ex.settle_pv], .inr (.inr (.inl ⟨rfl, c, b, hc, hb, rfl⟩)), rfl⟩
  | false =>
   (repeat (first | refine aSeq fun X hX => ?_ | apply aBlk | refine aSkip ?_ | (first | refine aExit ?_ | refine aRet ?_); try simp only [slx, ↓reduceIte, jA, reduceCtorEq] | (first | apply aReg | refine aDrE ?_ | apply aIf); simp -implicitDefEqProofs only [↓slp, ↓reduceIte, reduceCtorEq, jA, jE, jF, Y5, hT, hG, k0, k1, k2, k3, k4]; try simp only [fo] | apply hX; clear hX X | clear hX X; apply hX; clear hX X | apply aI; · first | assumption | and_intros <;> first | omega | assumption))
   exact hop _ _ rfl rfl rfl rfl rfl rfl
 | false =>
 cases k5 : (r == 5) with
 | true =>
  cases st with
  | true =>
   (repeat (first | refine aSeq fun X hX => ?_ | apply aBlk | refine aSkip ?_ | (first | refine aExit ?_ | refine aRet ?_); try simp only [slx, ↓reduceIte, jA, reduceCtorEq] | (first | apply aReg | apply aIf); simp -implicitDefEqProofs only [↓slp, ↓reduceIte, reduceCtorEq, jA, jE, jF, Y5, hT, hG, k0, k1, k2, k3, k4, k5]; try simp only [fo] | apply hX; clear hX X | clear hX X; apply hX; clear hX X | apply aI; · first | assumption | and_intros <;> first | omega | assumption))
   refine callM (constant_any p _ (hok.ext _) t ht _ n q) ?_
   rintro v m' ⟨c, i3, rfl, hc, rfl⟩
   simp -implicitDefEqProofs only [↓slp, ↓reduceIte, reduceCtorEq, jA, jE, jF, Y5, hT, hG]; try simp only [fo]
   (repeat (first | refine aSeq fun X hX => ?_ | apply aBlk | refine aSkip ?_ | (first | refine aExit ?_ | refine aRet ?_); try simp only [slx, ↓reduceIte, jA, reduceCtorEq] | (first | apply aReg | apply aIf); simp -implicitDefEqProofs only [↓slp, ↓reduceIte, reduceCtorEq, jA, jE, jF, Y5, hT, hG]; try simp only [fo] | apply hX; clear hX X | clear hX X; apply hX; clear hX X | apply aI; · first | assumption | and_intros <;> first | omega | assumption))
   refine aDrw (fun _ => True) (by kernel_rfl) trivial ?_
   simp -implicitDefEqProofs only [↓slp, ↓reduceIte, reduceCtorEq, jA, jE, jF, Y5, hT, hG, hw]; try simp only [fo]
   refine callM (E p _ (hok.ext _) s.toAll hs.toAll t ht true _ n q) ?_
   rintro v m' ⟨b, i4, rfl, hb, rfl⟩
   refine ⟨trivial, ?_⟩
   simp -implicitDefEqProofs only [↓slp, ↓reduceIte, reduceCtorEq, jA, jE, jF, Y5, hT, hG]; try simp only [fo]
   refine callE (two_any 9 0 c b _) ?_
   refine ⟨trivial, ?_⟩
   simp -implicitDefEqProofs only [↓slp, ↓reduceIte, reduceCtorEq, jA, jE, jF, Y5, hT, hG]; try simp only [fo]
   (repeat (first | refine aSeq fun X hX => ?_ | apply aBlk | refine aSkip ?_ | (first | refine aExit ?_ | refine aRet ?_); try simp only [slx, ↓reduceIte, jA, reduceCtorEq] | (first | apply aReg | refine aDrE ?_ | apply aIf); simp -implicitDefEqProofs only [↓slp, ↓reduceIte, reduceCtorEq, jA, jE, jF, Y5, hT, hG]; try simp only [fo] | apply hX; clear hX X | clear hX X; apply hX; clear hX X | apply aI; · first | assumption | and_intros <;> first | omega | assumption))
   simp only [aPost, Try.results62, aRes_n, aRes_t, aRes_c, pack_one, pack_two]
   simp -implicitDefEqProofs only [↓slp, ↓reduceIte, reduceCtorEq, jA, jE, jF, Y5, hT, hG]; try simp only [fo]
   exact leave_gst hok (.refl m) (by simp only [Ex.settle_pv, Ex.pure_pv]) ⟨_, i4, by simp only [Ex.settle_pv], .inr (.inr (.inl ⟨rfl, c, b, hc, hb, rfl⟩)), rfl⟩
  | false =>
   (repeat (first | refine aSeq fun X hX => ?_ | apply aBlk | refine aSkip ?_ | (first | refine aExit ?_ | refine aRet ?_); try simp only [slx, ↓reduceIte, jA, reduceCtorEq] | (first | apply aReg | refine aDrE ?_ | apply aIf); simp -implicitDefEqProofs only [↓slp, ↓reduceIte, reduceCtorEq, jA, jE, jF, Y5, hT, hG, k0, k1, k2, k3, k4, k5]; try simp only [fo] | apply hX; clear hX X | clear hX X; apply hX; clear hX X | apply aI; · first | assumption | and_intros <;> first | omega | assumption))
   exact hop _ _ rfl rfl rfl rfl rfl rfl
 | false =>
 cases k6 : (r == 6) with
 | true =>
  cases st with
  | true =>
   (repeat (first | refine aSeq fun X hX => ?_ | apply aBlk | refine aSkip ?_ | (first | refine aExit ?_ | refine aRet ?_); try simp only [slx, ↓reduceIte, jA, reduceCtorEq] | (first | apply aReg | refine aDrE ?_ | apply aIf); simp -implicitDefEqProofs only [↓slp, ↓reduceIte, reduceCtorEq, jA, jE, jF, Y5, hT, hG, k0, k1, k2, k3, k4, k5, k6, hw]; try simp only [fo] | apply hX; clear hX X | clear hX X; apply hX; clear hX X | apply aI; · first | assumption | and_intros <;> first | omega | assumption))
   refine callM (E p _ (hok.ext _) s hs t ht true _ n q) ?_
   rintro v m' ⟨a, i3, rfl, ha, rfl⟩
   simp -implicitDefEqProofs only [↓slp, ↓reduceIte, reduceCtorEq, jA, jE, jF, Y5, hT, hG]; try simp only [fo]
   (repeat (first | refine aSeq fun X hX => ?_ | apply aBlk | refine aSkip ?_ | (first | refine aExit ?_ | refine aRet ?_); try simp only [slx, ↓reduceIte, jA, reduceCtorEq] | (first | apply aReg | refine aDrE ?_ | apply aIf); simp -implicitDefEqProofs only [↓slp, ↓reduceIte, reduceCtorEq, jA, jE, jF, Y5, hT, hG, hw]; try simp only [fo] | apply hX; clear hX X | clear hX X; apply hX; clear hX X | apply aI; · first | assumption | and_intros <;> first | omega | assumption))
   refine callM (E p _ (hok.ext _) s.toAll hs.toAll t ht true _ n q) ?_
   rintro v m' ⟨b, i4, rfl, hb, rfl⟩
   simp -implicitDefEqProofs only [↓slp, ↓reduceIte, reduceCtorEq, jA, jE, jF, Y5, hT, hG]; try simp only [fo]
   (repeat (first | refine aSeq fun X hX => ?_ | apply aBlk | refine aSkip ?_ | (first | refine aExit ?_ | refine aRet ?_); try simp only [slx, ↓reduceIte, jA, reduceCtorEq] | (first | apply aReg | refine aDrE ?_ | apply aIf); simp -implicitDefEqProofs only [↓slp, ↓reduceIte, reduceCtorEq, jA, jE, jF, Y5, hT, hG]; try simp only [fo] | apply hX; clear hX X | clear hX X; apply hX; clear hX X | apply aI; · first | assumption | and_intros <;> first | omega | assumption))
   have hun := Ex.un_lit 10 0 [b]
   simp only [List.map_cons, List.map_nil] at hun
   rw [hun]
   refine callE (two_any 11 0 a (Ex.un 10 0 [b]) _) ?_
   simp -implicitDefEqProofs only [↓slp, ↓reduceIte, reduceCtorEq, jA, jE, jF, Y5, hT, hG]; try simp only [fo]
   (repeat (first | refine aSeq fun X hX => ?_ | apply aBlk | refine aSkip ?_ | (first | refine aExit ?_ | refine aRet ?_); try simp only [slx, ↓reduceIte, jA, reduceCtorEq] | (first | apply aReg | refine aDrE ?_ | apply aIf); simp -implicitDefEqProofs only [↓slp, ↓reduceIte, reduceCtorEq, jA, jE, jF, Y5, hT, hG]; try simp only [fo] | apply hX; clear hX X | clear hX X; apply hX; clear hX X | apply aI; · first | assumption | and_intros <;> first | omega | assumption))
   simp only [aPost, Try.results62, aRes_n, aRes_t, aRes_c, pack_one, pack_two]
   simp -implicitDefEqProofs only [↓slp, ↓reduceIte, reduceCtorEq, jA, jE, jF, Y5, hT, hG]; try simp only [fo]
   exact leave_gst hok (.refl m) (by simp only [Ex.settle_pv, Ex.pure_pv]) ⟨_, i4, by simp only [Ex.settle_pv], .inr (.inr (.inr (.inl ⟨rfl, a, b, ha, hb, rfl⟩))), rfl⟩
  | false =>
   (repeat (first | refine aSeq fun X hX => ?_ | apply aBlk | refine aSkip ?_ | (first | refine aExit ?_ | refine aRet ?_); try simp only [slx, ↓reduceIte, jA, reduceCtorEq] | (first | apply aReg | refine aDrE ?_ | apply aIf); simp -implicitDefEqProofs only [↓slp, ↓reduceIte, reduceCtorEq, jA, jE, jF, Y5, hT, hG, k0, k1, k2, k3, k4, k5, k6]; try simp only [fo] | apply hX; clear hX X | clear hX X; apply hX; clear hX X | apply aI; · first | assumption | and_intros <;> first | omega | assumption))
   exact hop _ _ rfl rfl rfl rfl rfl rfl
 | false =>
 (repeat (first | refine aSeq fun X hX => ?_ | apply aBlk | refine aSkip ?_ | (first | refine aExit ?_ | refine aRet ?_); try simp only [slx, ↓reduceIte, jA, reduceCtorEq] | (first | apply aReg | refine aDrE ?_ | apply aIf); simp -implicitDefEqProofs only [↓slp, ↓reduceIte, reduceCtorEq, jA, jE, jF, Y5, hT, hG, k0, k1, k2, k3, k4, k5, k6, k7]; try simp only [fo] | apply hX; clear hX X | clear hX X; apply hX; clear hX X | apply aI; · first | assumption | and_intros <;> first | omega | assumption))
 exact hop _ _ rfl rfl rfl rfl rfl rfl
theorem expr_any : ∀ d, d < 1000 → ExprC d
 | d + 1, h => exprS_any d h (expr_any d (by omega))
 | 0, _ => expr0_any
end Go.Proofs.Ytaealemhegdmpaa
/-
 The maker: scopes; some of what an arm defines; ways out.
-/
set_option linter.unusedVariables false
set_option linter.unusedSimpArgs false
namespace Go.Proofs.Ytaealemhegdmpaa
open Nat renaming reduceEqDiff → jA, reduceAdd → jB, reduceMul → jC, reduceLT → jD, reduceLeDiff → jE, reduceBEq → jF, reduceBNe → jG
open Int renaming reduceLE → jH, reduceLT → jI, reduceToNat → jJ, reduceEq → jK
open Go
set_option linter.defProp false
def Y6 := aI @slb (aI @td_3 (aI @zv_3 (aI @Try.underlying3 (aI @td_4 (aI @zv_4 (aI @Try.underlying4 (aI @td_5 (aI @zv_5 (aI @Try.underlying5 (aI @td_9 (aI @zv_9 (aI @Try.underlying9 (aI @td_21 (aI @zv_21 (aI @Try.underlying21 (aI @td_22 (aI @zv_22 (aI @tel_22 (aI @Try.underlying22 (aI @td_81 (aI @zv_81 (aI @tel_81 (aI @Try.underlying81 (aI @td_37 (aI @zv_37 (aI @tel_37 (aI @Try.underlying37 (aI @td_33 (aI @zv_33 (aI @tel_33 (aI @Try.underlying33 (aI @td_83 (aI @zv_83 (aI @tf_83 (aI @td_79 (aI @zv_79 (aI @tf_79 (aI @fl_79 (aI @td_80 (aI @zv_80 (aI @tel_80 (aI @Try.underlying80 (aI @td_85 (aI @zv_85 (aI @tf_85 (aI @nk_67 (aI @td_67 (aI @zv_67 (aI @Try.underlying67 (aI @td_69 (aI @zv_69 (aI @tf_69 (aI @nk_73 (aI @td_73 (aI @zv_73 (aI @Try.underlying73 (aI @td_75 (aI @zv_75 (aI @tf_75 (aI @td_111 (aI @zv_111 (aI @tel_111 (aI @Try.underlying111 (aI @td_116 (aI @zv_116 (aI @tf_116 (aI @td_105 (aI @zv_105 (aI @tf_105 (aI @td_134 (aI @zv_134 (aI @tel_134 (aI @Try.underlying134 (aI @Ex.settle_pv (aI @Ex.pure_pv (aI @Ex.cells_pv (aI @Ex.cs.eq_1 (aI @On.pv.eq_1 (aI @Ty.pv.eq_1 (aI @Va.settle_pv (aI @Va.pure_pv (aI @Va.cells_pv (aI @Va.cs.eq_1 (aI @Sc.pv.eq_1 (aI @gst_nb (aI @gst_nt (aI @gst_fresh (aI @gst_use (aI @gst_free (aI @gst_alive (aI @gst_t (aI @gst_g (aI @gst_updt (aI @gst_updg (aI @gst_ext (aI @gst_ext2 (aI @gst_et (aI @gst_eg (aI @gst_own (aI @gst_own0 (aI @gst_ou (aI @gst_ou0 (aI @GP.tape.eq_1 @GP.gen.eq_1)))))))))))))))))))))))))))))))))))))))))))))))))))))))))))))))))))))))))))))))))))))))))))))))))))))))
def hasV (l : List Va) (s : Str) : Bool := l.any fun v => eqS v.name s
set_option maxRecDepth 20000 in
theorem has_any (o : Own) (l : List Va) (s : Str) (m : M) : ACalls Try.prog 48 [.sl o (l.map Va.pv), pS s] m (fun v m' => v = pB (hasV l s) ∧ m' = m) := by
 refine ACalls.enter (mu := []) ok_mix Try.func48 rfl (by kernel_rfl) (by kernel_rfl) (by simp only [List.length_cons, List.length_nil, Try.ntmps48]; omega) ?_
 (repeat (first | refine aSeq fun X hX => ?_ | apply aBlk | refine aSkip ?_ | (first | refine aExit ?_ | refine aRet ?_); try simp only [slx, ↓reduceIte, jA, reduceCtorEq] | (first | apply aReg | refine aDrE ?_); simp -implicitDefEqProofs only [↓slp, ↓reduceIte, reduceCtorEq, jA, jE, Y6] | apply hX; clear hX X | clear hX X; apply hX; clear hX X | intro hlen; unfold maxLen at hlen | apply aI; · first | assumption | and_intros <;> first | omega | assumption))
 obtain ⟨I, hI⟩ : ∃ I : F → M → Prop, ∀ f m', I f m' = (∃ k : Nat, k ≤ l.length ∧ f 0 = .sl o (l.map Va.pv) ∧ f 1 = pS s ∧ f 5 = pI k ∧ hasV l s = hasV (l.drop k) s ∧ m' = m) := ⟨_, fun _ _ => rfl⟩
 refine aLoop I (fun f m => l.length - numOf (f 5)) ?_ ?_
 ·rw [hI]; exact ⟨0, by omega, rfl, rfl, rfl, rfl, rfl⟩
 intro f m' hrel
 rw [hI] at hrel
 obtain ⟨k, hk, h0, h1, h5, hs, rfl⟩ := hrel
 (repeat (first | refine aSeq fun X hX => ?_ | apply aBlk | refine aSkip ?_ | (first | refine aExit ?_ | refine aRet ?_); try simp only [slx, ↓reduceIte, jA, reduceCtorEq] | (first | apply aReg | refine aDrE ?_); simp -implicitDefEqProofs only [↓slp, ↓reduceIte, reduceCtorEq, jA, jE, Y6, h0, h5, pI] | apply hX; clear hX X | clear hX X; apply hX; clear hX X | intro hlen; unfold maxLen at hlen | apply aI; · first | assumption | and_intros <;> first | omega | assumption))
 refine aIf ?_; simp -implicitDefEqProofs only [↓slp, slb, ↓reduceIte, reduceCtorEq, jA, jE]; refine ⟨fun hb => ?_, fun hb => ?_⟩
 ·have hlt : k < l.length := by simpa using hb
  have g0 := getD_map Va.pv l k hlt
  have hi : IntKind.i64.wrap ((k : Int) + 1) = ((k + 1 : Nat) : Int) := by rw [wrap64 (by omega)]; omega
  have hd : hasV (l.drop k) s = (eqS l[k].name s || hasV (l.drop (k + 1)) s) := by unfold hasV; rw [List.drop_eq_getElem_cons hlt, List.any_cons]
  cases c1 : (l[k].name.toList == s.toList) with
  | true =>
   have c2 : eqS l[k].name s = true := c1
   (repeat (first | refine aSeq fun X hX => ?_ | apply aBlk | refine aSkip ?_ | (first | refine aExit ?_ | refine aRet ?_); try simp only [slx, ↓reduceIte, jA, reduceCtorEq] | (first | apply aReg | refine aDrE ?_ | apply aIf); simp -implicitDefEqProofs only [↓slp, ↓reduceIte, reduceCtorEq, jA, jE, Y6, h0, h1, h5, pI, pS, g0, c1] | apply hX; clear hX X | clear hX X; apply hX; clear hX X | intro hlen; unfold maxLen at hlen | apply aI; · first | assumption | and_intros <;> first | omega | assumption))
   simp only [aPost, Try.results48, aRes_n, aRes_t, aRes_c, pack_one, pack_two]
   have hv : hasV l s = true := by rw [hs, hd, c2]; rfl
   exact leave_same rfl ⟨by rw [hv]; rfl, rfl⟩
  | false =>
   have c2 : eqS l[k].name s = false := c1
   (repeat (first | refine aSeq fun X hX => ?_ | apply aBlk | refine aSkip ?_ | (first | refine aExit ?_ | refine aRet ?_); try simp only [slx, ↓reduceIte, jA, reduceCtorEq] | (first | apply aReg | refine aDrE ?_ | apply aIf); simp -implicitDefEqProofs only [↓slp, ↓reduceIte, reduceCtorEq, jA, jE, Y6, h0, h1, h5, pI, pS, g0, c1, hi] | apply hX; clear hX X | clear hX X; apply hX; clear hX X | intro hlen; unfold maxLen at hlen | apply aI; · first | assumption | and_intros <;> first | omega | assumption))
   rw [hI]
   exact ⟨⟨k + 1, hlt, h0, h1, rfl, by rw [hs, hd, c2]; rfl, rfl⟩, by omega⟩
 ·have hlt : k = l.length := by simp at hb; omega
  subst hlt
  (repeat (first | refine aSeq fun X hX => ?_ | apply aBlk | refine aSkip ?_ | (first | refine aExit ?_ | refine aRet ?_); try simp only [slx, ↓reduceIte, jA, reduceCtorEq] | (first | apply aReg | refine aDrE ?_ | apply aIf); simp -implicitDefEqProofs only [↓slp, ↓reduceIte, reduceCtorEq, jA, jE, Y6] | apply hX; clear hX X | clear hX X; apply hX; clear hX X | intro hlen; unfold maxLen at hlen | apply aI; · first | assumption | and_intros <;> first | omega | assumption))
  simp only [aPost, Try.results48, aRes_n, aRes_t, aRes_c, pack_one, pack_two]
  have hv : hasV l s = false := by rw [hs, List.drop_length]; rfl
  exact leave_same rfl ⟨by rw [hv]; rfl, rfl⟩
def Sc.more (s : Sc) (l : List Va) : Sc := ⟨s.ready ++ l, s.all, s.lasts⟩
theorem va_len (l : List Va) : ∀ x ∈ l.map Va.pv, x.cells.length = 15 := fun x hx => by
 obtain ⟨a, _, rfl⟩ := List.mem_map.1 hx
 rfl
set_option maxRecDepth 20000 in
theorem more_any (s : Sc) (o : Own) (l : List Va) (hs : s.ready.length + l.length < 2 ^ 39) (m : M) : ACalls Try.prog 50 [s.pv, .sl o (l.map Va.pv)] m (fun v m' => v = (s.more l).pv ∧ m' = m) := by
 have h1 := va_len s.ready
 have h2 := va_len l
 have h3 : s.ready.length ≤ maxLen := by unfold maxLen; omega
 have h4 : s.ready.length + l.length ≤ maxLen := by unfold maxLen; omega
 have h5 : (m.fresh 15).alive m.nt 15 := by simp [M.alive, M.fresh, M.nt]
 have t1 : Toks m (m.fresh 15) := (Toks.refl m).use (o := .full) (s := 15) (s' := 15) Mine.full
 have t2 : Toks m (((m.fresh 15).kill m.nt).fresh 15) := t1.use (o := .tok m.nt) (s := 15) (Mine.new (o := .full) (Toks.refl m) 15)
 refine ACalls.enter (mu := [4]) ok_mix Try.func50 rfl (by kernel_rfl) (by kernel_rfl) (by simp only [List.length_cons, List.length_nil, Try.ntmps50]; omega) ?_
 (repeat (first | refine aSeq fun X hX => ?_ | apply aBlk | refine aSkip ?_ | (first | refine aExit ?_ | refine aRet ?_); try simp only [slx, ↓reduceIte, jA, reduceCtorEq] | (first | apply aReg | apply aIf); simp -implicitDefEqProofs only [↓slp, ↓reduceIte, reduceCtorEq, jA, jE, Y6] | apply hX; clear hX X | clear hX X; apply hX; clear hX X | intro hlen; unfold maxLen at hlen | apply aI; · first | assumption | and_intros <;> first | omega | assumption))
 (repeat (first | (intro hlen; unfold maxLen at hlen) | (apply aI; (focus (first | omega | assumption | trivial | (repeat' apply aI) <;> first | omega | assumption | trivial)))))
 (repeat (first | refine aSeq fun X hX => ?_ | apply aBlk | refine aSkip ?_ | (first | refine aExit ?_ | refine aRet ?_); try simp only [slx, ↓reduceIte, jA, reduceCtorEq] | (first | apply aReg | apply aIf); simp -implicitDefEqProofs only [↓slp, ↓reduceIte, reduceCtorEq, jA, jE, Y6] | apply hX; clear hX X | clear hX X; apply hX; clear hX X | intro hlen; unfold maxLen at hlen | apply aI; · first | assumption | and_intros <;> first | omega | assumption))
 simp only [aPost, Try.results50, aRes_n, aRes_t, aRes_c, pack_one, pack_two]
 simp -implicitDefEqProofs only [↓slp, ↓reduceIte, reduceCtorEq, jA, jE, Y6]
 refine leave_toks t2 rfl ⟨?_, rfl⟩
 simp only [Sc.pv, Sc.more, List.map_append]
 rfl
def isLess : List Va → List Va → Prop
 | [], l => l = []
 | v :: r, l => (∃ l', l = v :: l' ∧ isLess r l') ∨ (v.last = true ∧ isLess r l)
theorem isLess_keep (v : Va) : ∀ {a l : List Va}, isLess a l → isLess (a ++ [v]) (l ++ [v])
 | [], l, h => by cases h; exact .inl ⟨[], rfl, rfl⟩
 | w :: r, l, h => by
  rcases h with ⟨l', rfl, h⟩ | ⟨hw, h⟩
  ·exact .inl ⟨l' ++ [v], rfl, isLess_keep v h⟩
  ·exact .inr ⟨hw, isLess_keep v h⟩
theorem isLess_drop (v : Va) (hv : v.last = true) : ∀ {a l : List Va}, isLess a l → isLess (a ++ [v]) l
 | [], l, h => .inr ⟨hv, h⟩
 | w :: r, l, h => by
  rcases h with ⟨l', rfl, h⟩ | ⟨hw, h⟩
  ·exact .inl ⟨l', rfl, isLess_drop v hv h⟩
  ·exact .inr ⟨hw, isLess_drop v hv h⟩
theorem isLess_len : ∀ {a l : List Va}, isLess a l → l.length ≤ a.length
 | [], l, h => by cases h; exact Nat.le_refl _
 | w :: r, l, h => by
  rcases h with ⟨l', rfl, h⟩ | ⟨hw, h⟩
  ·have := isLess_len h; simpa using this
  ·have := isLess_len h; simp; omega
set_option maxRecDepth 20000 in
theorem less_any (p : GP) (m : M) (hok : p.ok m) (o : Own) (l : List Va) (hl : l.length < 2 ^ 39) (i : Nat) (n q : Int) : ACalls Try.prog 71 [.bp p.gp 0, .sl o (l.map Va.pv)] (gst p m i n q) (fun v m' => ∃ r i', v = .sl .no (List.map Va.pv r) ∧ isLess l r ∧ m' = gst p m i' n q) := by
 have hG := hok.gp
 have hT := hok.tp
 refine ACalls.enter (mu := []) ok_mix Try.func71 rfl (by kernel_rfl) (by kernel_rfl) (by simp only [List.length_cons, List.length_nil, Try.ntmps71]; omega) ?_
 (repeat (first | refine aSeq fun X hX => ?_ | apply aBlk | refine aSkip ?_ | (first | refine aExit ?_ | refine aRet ?_); try simp only [slx, ↓reduceIte, jA, reduceCtorEq] | (first | apply aReg | refine aDrE ?_ | apply aIf); simp -implicitDefEqProofs only [↓slp, ↓reduceIte, reduceCtorEq, jA, jE, Y6] | apply hX; clear hX X | clear hX X; apply hX; clear hX X | intro hlen; unfold maxLen at hlen | apply aI; · first | assumption | and_intros <;> first | omega | assumption))
 obtain ⟨I, hI⟩ : ∃ I : F → M → Prop, ∀ f m', I f m' = (∃ (k : Nat) (r : List Va) (o2 : Own) (mm : M) (i' : Nat), k ≤ l.length ∧ f 0 = .bp p.gp 0 ∧ f 1 = .sl o (l.map Va.pv) ∧ f 5 = .sl o2 (r.map Va.pv) ∧ f 6 = pI k ∧ isLess (l.take k) r ∧ Toks m mm ∧ Mine m mm o2 15 ∧ m' = gst p mm i' n q) := ⟨_, fun _ _ => rfl⟩
 refine aLoop I (fun f m => l.length - numOf (f 6)) ?_ ?_
 ·rw [hI]; exact ⟨0, [], .full, m, i, by omega, rfl, rfl, rfl, rfl, rfl, .refl _, .full, rfl⟩
 intro f m' hrel
 rw [hI] at hrel
 obtain ⟨k, r, o2, mm, i', hk, h0, h1, h5, h6, hl2, ht, g2, rfl⟩ := hrel
 have hG' : p.gp < mm.nb := by rw [ht.nb]; exact hG
 have hT' : p.tp < mm.nb := by rw [ht.nb]; exact hT
 (repeat (first | refine aSeq fun X hX => ?_ | apply aBlk | refine aSkip ?_ | (first | refine aExit ?_ | refine aRet ?_); try simp only [slx, ↓reduceIte, jA, reduceCtorEq] | (first | apply aReg | refine aDrE ?_); simp -implicitDefEqProofs only [↓slp, ↓reduceIte, reduceCtorEq, jA, jE, Y6, h1, h6, pI] | apply hX; clear hX X | clear hX X; apply hX; clear hX X | intro hlen; unfold maxLen at hlen | apply aI; · first | assumption | and_intros <;> first | omega | assumption))
 refine aIf ?_; simp -implicitDefEqProofs only [↓slp, slb, ↓reduceIte, reduceCtorEq, jA, jE]; refine ⟨fun hb => ?_, fun hb => ?_⟩
 ·have hlt : k < l.length := by simpa using hb
  have g0 := getD_map Va.pv l k hlt
  have hi : IntKind.i64.wrap ((k : Int) + 1) = ((k + 1 : Nat) : Int) := by rw [wrap64 (by omega)]; omega
  have htk : l.take (k + 1) = l.take k ++ [l[k]] := List.take_succ_eq_append_getElem hlt
  have hrl := isLess_len hl2
  have hrl' : (l.take k).length ≤ l.length := by simp; omega
  have hmx : r.length + 1 ≤ maxLen := by unfold maxLen; omega
  have hf := g2.free
  have hvl := va_len r
  have ht1 := ht.use (s := 15) g2
  have g2' := Mine.new ht o2 15
  have hadd : List.map Va.pv r ++ [l[k].pv] = (r ++ [l[k]]).map Va.pv := by rw [List.map_append]; rfl
  cases c1 : l[k].last with
  | false =>
   (repeat (first | refine aSeq fun X hX => ?_ | apply aBlk | refine aSkip ?_ | (first | refine aExit ?_ | refine aRet ?_); try simp only [slx, ↓reduceIte, jA, reduceCtorEq] | (first | apply aReg | apply aIf); simp -implicitDefEqProofs only [↓slp, ↓reduceIte, reduceCtorEq, jA, jE, Y6, h0, h1, h5, h6, pI, g0, c1, hi, hG', hT'] | apply hX; clear hX X | clear hX X; apply hX; clear hX X | intro hlen; unfold maxLen at hlen | apply aI; · first | assumption | and_intros <;> first | omega | assumption))
   rw [hI]
   exact ⟨⟨k + 1, r ++ [l[k]], _, _, _, hlt, h0, h1, congrArg (PV.sl (.tok mm.nt)) (by rw [← hadd, Va.pv, Va.cs, c1]), rfl, by rw [htk]; exact isLess_keep _ hl2, ht1, g2', rfl⟩, by omega⟩
  | true =>
   (repeat (first | refine aSeq fun X hX => ?_ | apply aBlk | refine aSkip ?_ | (first | refine aExit ?_ | refine aRet ?_); try simp only [slx, ↓reduceIte, jA, reduceCtorEq] | (first | apply aReg | apply aIf); simp -implicitDefEqProofs only [↓slp, ↓reduceIte, reduceCtorEq, jA, jE, Y6, h0, h1, h5, h6, pI, g0, c1, hi, hG', hT'] | apply hX; clear hX X | clear hX X; apply hX; clear hX X | intro hlen; unfold maxLen at hlen | apply aI; · first | assumption | and_intros <;> first | omega | assumption))
   refine callM (next_any p _ (hok.toks ht) 2 (by omega) _ n q) ?_
   rintro v m' ⟨x, i2, rfl, ⟨hx0, hx1⟩, rfl⟩
   cases c2 : (x == 0) with
   | true =>
    simp -implicitDefEqProofs only [↓slp, ↓reduceIte, reduceCtorEq, jA, jE, Y6, h0, h1, h5, h6, pI, g0, c1, c2, hi, hG', hT']
    (repeat (first | refine aSeq fun X hX => ?_ | apply aBlk | refine aSkip ?_ | (first | refine aExit ?_ | refine aRet ?_); try simp only [slx, ↓reduceIte, jA, reduceCtorEq] | (first | apply aReg | apply aIf); simp -implicitDefEqProofs only [↓slp, ↓reduceIte, reduceCtorEq, jA, jE, Y6, h0, h1, h5, h6, pI, g0, hi, hG', hT'] | apply hX; clear hX X | clear hX X; apply hX; clear hX X | intro hlen; unfold maxLen at hlen | apply aI; · first | assumption | and_intros <;> first | omega | assumption))
    rw [hI]
    exact ⟨⟨k + 1, r ++ [l[k]], _, _, _, hlt, h0, h1, congrArg (PV.sl (.tok mm.nt)) (by rw [← hadd, Va.pv, Va.cs, c1]), rfl, by rw [htk]; exact isLess_keep _ hl2, ht1, g2', rfl⟩, by omega⟩
   | false =>
    simp -implicitDefEqProofs only [↓slp, ↓reduceIte, reduceCtorEq, jA, jE, Y6, h0, h1, h5, h6, pI, g0, c1, c2, hi, hG', hT']
    (repeat (first | refine aSeq fun X hX => ?_ | apply aBlk | refine aSkip ?_ | (first | refine aExit ?_ | refine aRet ?_); try simp only [slx, ↓reduceIte, jA, reduceCtorEq] | (first | apply aReg | apply aIf); simp -implicitDefEqProofs only [↓slp, ↓reduceIte, reduceCtorEq, jA, jE, Y6, h0, h1, h5, h6, pI, g0, hi, hG', hT'] | apply hX; clear hX X | clear hX X; apply hX; clear hX X | intro hlen; unfold maxLen at hlen | apply aI; · first | assumption | and_intros <;> first | omega | assumption))
    rw [hI]
    exact ⟨⟨k + 1, r, o2, mm, i2, hlt, h0, h1, h5, rfl, by rw [htk]; exact isLess_drop _ c1 hl2, ht, g2, rfl⟩, by omega⟩
 ·have hlt : k = l.length := by simp at hb; omega
  subst hlt
  rw [List.take_length] at hl2
  (repeat (first | refine aSeq fun X hX => ?_ | apply aBlk | refine aSkip ?_ | (first | refine aExit ?_ | refine aRet ?_); try simp only [slx, ↓reduceIte, jA, reduceCtorEq] | (first | apply aReg | refine aDrE ?_ | apply aIf); simp -implicitDefEqProofs only [↓slp, ↓reduceIte, reduceCtorEq, jA, jE, Y6, h5] | apply hX; clear hX X | clear hX X; apply hX; clear hX X | intro hlen; unfold maxLen at hlen | apply aI; · first | assumption | and_intros <;> first | omega | assumption))
  simp only [aPost, Try.results71, aRes_n, aRes_t, aRes_c, pack_one, pack_two]
  exact leave_gst0 hok ht rfl ⟨r, i', by simp only [h5, put_app]; rfl, hl2, rfl⟩
end Go.Proofs.Ytaealemhegdmpaa
/-
 The maker: ways out.
-/
set_option linter.unusedVariables false
set_option linter.unusedSimpArgs false
namespace Go.Proofs.Ytaealemhegdmpaa
open Nat renaming reduceEqDiff → jA, reduceAdd → jB, reduceMul → jC, reduceLT → jD, reduceLeDiff → jE, reduceBEq → jF, reduceBNe → jG
open Int renaming reduceLE → jH, reduceLT → jI, reduceToNat → jJ, reduceEq → jK
open Go
set_option linter.defProp false
def Y7 := aI @slb (aI @td_3 (aI @zv_3 (aI @Try.underlying3 (aI @td_4 (aI @zv_4 (aI @Try.underlying4 (aI @td_5 (aI @zv_5 (aI @Try.underlying5 (aI @td_9 (aI @zv_9 (aI @Try.underlying9 (aI @td_21 (aI @zv_21 (aI @Try.underlying21 (aI @td_22 (aI @zv_22 (aI @tel_22 (aI @Try.underlying22 (aI @td_81 (aI @zv_81 (aI @tel_81 (aI @Try.underlying81 (aI @td_37 (aI @zv_37 (aI @tel_37 (aI @Try.underlying37 (aI @td_33 (aI @zv_33 (aI @tel_33 (aI @Try.underlying33 (aI @td_83 (aI @zv_83 (aI @tf_83 (aI @td_79 (aI @zv_79 (aI @tf_79 (aI @fl_79 (aI @td_80 (aI @zv_80 (aI @tel_80 (aI @Try.underlying80 (aI @td_85 (aI @zv_85 (aI @tf_85 (aI @nk_67 (aI @td_67 (aI @zv_67 (aI @Try.underlying67 (aI @td_69 (aI @zv_69 (aI @tf_69 (aI @nk_73 (aI @td_73 (aI @zv_73 (aI @Try.underlying73 (aI @td_75 (aI @zv_75 (aI @tf_75 (aI @td_111 (aI @zv_111 (aI @tel_111 (aI @Try.underlying111 (aI @td_116 (aI @zv_116 (aI @tf_116 (aI @td_105 (aI @zv_105 (aI @tf_105 (aI @td_134 (aI @zv_134 (aI @tel_134 (aI @Try.underlying134 (aI @Ex.settle_pv (aI @Ex.pure_pv (aI @Ex.cells_pv (aI @Ex.cs.eq_1 (aI @On.pv.eq_1 (aI @Ty.pv.eq_1 (aI @Va.settle_pv (aI @Va.pure_pv (aI @Va.cells_pv (aI @Va.cs.eq_1 (aI @Sc.pv.eq_1 (aI @Tr.settle_pv (aI @Tr.pure_pv (aI @Tr.cells_pv (aI @Tr.cs.eq_1 (aI @gst_nb (aI @gst_nt (aI @gst_fresh (aI @gst_use (aI @gst_free (aI @gst_alive (aI @gst_t (aI @gst_g (aI @gst_updt (aI @gst_updg (aI @gst_ext (aI @gst_ext2 (aI @gst_et (aI @gst_eg (aI @gst_own (aI @gst_own0 (aI @gst_ou (aI @gst_ou0 (aI @GP.tape.eq_1 @GP.gen.eq_1)))))))))))))))))))))))))))))))))))))))))))))))))))))))))))))))))))))))))))))))))))))))))))))))))))))))))))
theorem callMS {P : Program} {g : FuncId} {args args' : List PV} {m : M} {R K Z : PV → M → Prop} (h : ACalls P g args' m R) (he : args.map PV.settle = args') (hk : ∀ v m', R v m' → K v m') : @ACallsI P g args m ⟨K, Z⟩ := by
 subst he
 refine ACallsZ.mono (Z := noZ) ⟨h.cc, fun G w vs hI hl hr => h.run G w vs hI (by simpa using hl) (fun j h1 h2 => ?_)⟩ hk (fun _ _ h => h.elim)
 simpa using (hr j (by simpa using h1) h2).settle
def isGX (p : GP) (m m2 : M) : Prop := ∃ ts i n q, m2 = gst p ⟨m.boxes, ts⟩ i n q
theorem isGX_all {p : GP} {m : M} {Q : M → Prop} : (∀ m2, isGX p m m2 → Q m2) = ∀ ts i n q, Q (gst p ⟨m.boxes, ts⟩ i n q) :=
 propext ⟨fun h ts i n q => h _ ⟨ts, i, n, q, rfl⟩, fun h m2 ⟨ts, i, n, q, e⟩ => e ▸ h ts i n q⟩
theorem isGX_of {p : GP} {m mm : M} {i : Nat} {n q : Int} (h : mm.boxes = m.boxes) : isGX p m (gst p mm i n q) := by
 refine ⟨mm.toks, i, n, q, ?_⟩
 rw [← h]
theorem gst_gx {p : GP} {m : M} {ts : List (Option Nat)} {i : Nat} {n q : Int} (hG : p.gp < m.nb) : (gst p ⟨m.boxes, ts⟩ i n q).get p.gp = some (p.gen n q) := gst_g hG
def GWay (s : Sc) (nn : Int) (t : Tr) : Prop := ∃ (e : Ex) (k : Nat) (b : Bool), GEx 2 ⟨s.ready, [], s.lasts⟩ tyB false e ∧ (k : Int) < nn ∧ t = ⟨e, nameS ⟨#[83]⟩ k, b, 0, 0⟩
def GWays (s : Sc) (nn : Int) (l : List Tr) : Prop := l.length ≤ 2 ∧ ∀ t ∈ l, GWay s nn t
theorem tr_len (l : List Tr) : ∀ x ∈ l.map Tr.pv, x.cells.length = 12 := fun x hx => by
 obtain ⟨a, _, rfl⟩ := List.mem_map.1 hx
 rfl
set_option maxRecDepth 20000 in
theorem ways_any (p : GP) (m : M) (hok : p.ok m) (s : Sc) (hs : s.ok) (nn : Int) (hn0 : 0 < nn) (hn1 : nn < 100) (i : Nat) (n q : Int) : ACalls Try.prog 72 [.bp p.gp 0, s.pv, pI nn] (gst p m i n q) (fun v m' => ∃ l i', v = .sl .no (List.map Tr.pv l) ∧ GWays s nn l ∧ m' = gst p m i' n q) := by
 have hG := hok.gp
 have hT := hok.tp
 have hs2 : Sc.ok ⟨s.ready, [], s.lasts⟩ := ⟨hs.ready, by simp, hs.lasts⟩
 refine ACalls.enter (mu := []) ok_mix Try.func72 rfl (by kernel_rfl) (by kernel_rfl) (by simp only [List.length_cons, List.length_nil, Try.ntmps72]; omega) ?_
 (repeat (first | refine aSeq fun X hX => ?_ | apply aBlk | refine aSkip ?_ | (first | refine aExit ?_ | refine aRet ?_); try simp only [slx, ↓reduceIte, jA, reduceCtorEq] | (first | apply aReg | apply aIf); simp -implicitDefEqProofs only [↓slp, ↓reduceIte, reduceCtorEq, jA, jB, jE, Y7, hT, hG] | apply hX; clear hX X | clear hX X; apply hX; clear hX X | apply aI; · first | assumption | and_intros <;> first | omega | assumption))
 refine callM (next_any p _ hok 3 (by omega) i n q) ?_
 rintro v m' ⟨r, i', rfl, ⟨hr0, hr1⟩, rfl⟩
 simp -implicitDefEqProofs only [↓slp, ↓reduceIte, reduceCtorEq, jA, jB, jE, Y7, hT, hG]
 (repeat (first | refine aSeq fun X hX => ?_ | apply aBlk | refine aSkip ?_ | (first | refine aExit ?_ | refine aRet ?_); try simp only [slx, ↓reduceIte, jA, reduceCtorEq] | (first | apply aReg | apply aIf); simp -implicitDefEqProofs only [↓slp, ↓reduceIte, reduceCtorEq, jA, jB, jE, Y7, hT, hG] | apply hX; clear hX X | clear hX X; apply hX; clear hX X | apply aI; · first | assumption | and_intros <;> first | omega | assumption))
 obtain ⟨I, hI⟩ : ∃ I : F → M → Prop, ∀ f m', I f m' = (∃ (k : Nat) (l : List Tr) (o2 : Own) (mm : M) (i' : Nat), (k : Int) ≤ r ∧ f 0 = .bp p.gp 0 ∧ f 2 = pI nn ∧ f 4 = .ep [.sl .no (s.ready.map Va.pv), .sl .no (s.all.map Va.pv), .sl .no (s.lasts.map Va.pv)] ∧ f 7 = .sl o2 (l.map Tr.pv) ∧ f 8 = pI r ∧ f 9 = pI k ∧ l.length = k ∧ (∀ t ∈ l, GWay s nn t) ∧ Toks m mm ∧ Mine m mm o2 12 ∧ m' = gst p mm i' n q) := ⟨_, fun _ _ => rfl⟩
 refine aLoop I (fun f m => r.toNat - numOf (f 9)) ?_ ?_
 ·rw [hI]; exact ⟨0, [], .full, m, i', by omega, rfl, rfl, rfl, rfl, rfl, rfl, rfl, (fun t h => by cases h), .refl _, .full, rfl⟩
 intro f m' hrel
 rw [hI] at hrel
 obtain ⟨k, l, o2, mm, i2, hk, h0, h2, h4, h7, h8, h9, hlk, hgl, ht, g2, rfl⟩ := hrel
 have hG' : p.gp < mm.nb := by rw [ht.nb]; exact hG
 have hT' : p.tp < mm.nb := by rw [ht.nb]; exact hT
 (repeat (first | refine aSeq fun X hX => ?_ | apply aBlk | refine aSkip ?_ | (first | refine aExit ?_ | refine aRet ?_); try simp only [slx, ↓reduceIte, jA, reduceCtorEq] | (first | apply aReg | refine aDrE ?_); simp -implicitDefEqProofs only [↓slp, ↓reduceIte, reduceCtorEq, jA, jB, jE, Y7, h8, h9, pI] | apply hX; clear hX X | clear hX X; apply hX; clear hX X | apply aI; · first | assumption | and_intros <;> first | omega | assumption))
 refine aIf ?_; simp -implicitDefEqProofs only [↓slp, slb, ↓reduceIte, reduceCtorEq, jA, jB, jE]; refine ⟨fun hb => ?_, fun hb => ?_⟩
 ·have hlt : (k : Int) < r := by simpa using hb
  have hi : IntKind.i64.wrap ((k : Int) + 1) = ((k + 1 : Nat) : Int) := by rw [wrap64 (by omega)]; omega
  (repeat (first | refine aSeq fun X hX => ?_ | apply aBlk | refine aSkip ?_ | (first | refine aExit ?_ | refine aRet ?_); try simp only [slx, ↓reduceIte, jA, reduceCtorEq] | (apply hX; clear hX X) | (clear hX X; apply hX; clear hX X)))
  refine aDrw (isGX p m) (by kernel_rfl) (isGX_of ht.boxes) ?_
  simp -implicitDefEqProofs only [↓slp, ↓reduceIte, reduceCtorEq, jA, jB, jE, Y7, h0, h2, h4, h7, h8, h9, hG', hT', hG, hT, pI, isGX_all, gst_gx, forall_const]
  have hmx : l.length + 1 ≤ maxLen := by unfold maxLen; omega
  have hf := g2.free
  have hvl := tr_len l
  have ht1 := ht.use (s := 12) g2
  have g2' := Mine.new ht o2 12
  refine callE (tyB_any _) ?_
  refine ⟨isGX_of ht.boxes, ?_⟩
  simp -implicitDefEqProofs only [↓slp, ↓reduceIte, reduceCtorEq, jA, jB, jE, Y7, h0, h2, h4, h7, h8, h9, hG', hT', hG, hT, pI, isGX_all, gst_gx, forall_const]
  refine callMS (expr_any 2 (by omega) p _ (hok.toks ht) ⟨s.ready, [], s.lasts⟩ hs2 tyB (.inr (.inl rfl)) false _ n q) rfl ?_
  rintro v m' ⟨e, i3, rfl, he, rfl⟩
  refine ⟨isGX_of ht.boxes, ?_⟩
  simp -implicitDefEqProofs only [↓slp, ↓reduceIte, reduceCtorEq, jA, jB, jE, Y7, h0, h2, h4, h7, h8, h9, hG', hT', hG, hT, pI, isGX_all, gst_gx, forall_const]
  refine callM (next_any p _ (hok.toks ht) nn hn0 _ n q) ?_
  rintro v m' ⟨x, i4, rfl, ⟨hx0, hx1⟩, rfl⟩
  obtain ⟨kk, rfl⟩ : ∃ kk : Nat, x = kk := ⟨x.toNat, (Int.toNat_of_nonneg hx0).symm⟩
  refine ⟨isGX_of ht.boxes, ?_⟩
  simp -implicitDefEqProofs only [↓slp, ↓reduceIte, reduceCtorEq, jA, jB, jE, Y7, h0, h2, h4, h7, h8, h9, hG', hT', hG, hT, pI, isGX_all, gst_gx, forall_const]
  refine callE (digits_any kk _ (by omega)) ?_
  have hsz := digS_size kk
  have hs1 : (⟨#[83]⟩ : ByteArray).size = 1 := rfl
  refine ⟨isGX_of ht.boxes, ?_⟩
  simp -implicitDefEqProofs only [↓slp, ↓reduceIte, reduceCtorEq, jA, jB, jE, Y7, h0, h2, h4, h7, h8, h9, hG', hT', hG, hT, pI, isGX_all, gst_gx, forall_const, pS]
  (repeat (first | (intro hlen; unfold maxLen at hlen) | (apply aI; (focus (first | omega | assumption | trivial | (repeat' apply aI) <;> first | omega | assumption | trivial)))))
  refine callM (next_any p _ (hok.toks ht) 2 (by omega) _ n q) ?_
  rintro v m' ⟨y, i5, rfl, ⟨hy0, hy1⟩, rfl⟩
  refine ⟨isGX_of ht.boxes, ?_⟩
  simp -implicitDefEqProofs only [↓slp, ↓reduceIte, reduceCtorEq, jA, jB, jE, Y7, h0, h2, h4, h7, h8, h9, hG', hT', hG, hT, pI, isGX_all, gst_gx, forall_const, pS]
  (repeat (first | (intro hlen; unfold maxLen at hlen) | (apply aI; (focus (first | omega | assumption | trivial | (repeat' apply aI) <;> first | omega | assumption | trivial)))))
  refine ⟨isGX_of ht1.boxes, ?_⟩
  (repeat (first | refine aSeq fun X hX => ?_ | apply aBlk | refine aSkip ?_ | (first | refine aExit ?_ | refine aRet ?_); try simp only [slx, ↓reduceIte, jA, reduceCtorEq] | (first | apply aReg | apply aIf); simp -implicitDefEqProofs only [↓slp, ↓reduceIte, reduceCtorEq, jA, jB, jE, Y7, h0, h2, h4, h7, h8, h9, hi, pI] | apply hX; clear hX X | clear hX X; apply hX; clear hX X | apply aI; · first | assumption | and_intros <;> first | omega | assumption))
  rw [hI]
  refine ⟨⟨k + 1, l ++ [⟨e, nameS ⟨#[83]⟩ kk, (y == 0), 0, 0⟩], .tok mm.nt, _, i5, by omega, h0, h2, h4, congrArg (PV.sl (.tok mm.nt)) (by rw [List.map_append]; rfl), h8, rfl, by simp [hlk], ?_, ht1, g2', rfl⟩, ?_⟩
  ·intro t ht2
   rcases List.mem_append.1 ht2 with h | h
   ·exact hgl t h
   ·have := List.mem_singleton.1 h
    exact ⟨e, kk, _, he, hx1, this⟩
  ·omega
 ·(repeat (first | refine aSeq fun X hX => ?_ | apply aBlk | refine aSkip ?_ | (first | refine aExit ?_ | refine aRet ?_); try simp only [slx, ↓reduceIte, jA, reduceCtorEq] | (first | apply aReg | apply aIf); simp -implicitDefEqProofs only [↓slp, ↓reduceIte, reduceCtorEq, jA, jB, jE, Y7, h7] | apply hX; clear hX X | clear hX X; apply hX; clear hX X | apply aI; · first | assumption | and_intros <;> first | omega | assumption))
  simp only [aPost, Try.results72, aRes_n, aRes_t, aRes_c, pack_one, pack_two]
  exact leave_gst0 hok ht rfl ⟨l, i2, by simp only [h7, put_app]; rfl, ⟨by omega, hgl⟩, rfl⟩
end Go.Proofs.Ytaealemhegdmpaa
