/-
 Texts that belong together: AbMk6, AbMk7, AbMk8.
-/
-- halved
import Derived.Test.YthhhnfjcaicjnaaGreatDoorMkB
import Derived.Test.YthhhnfjcaicjnaaGreatDoorAbMac
set_option linter.unusedVariables false
set_option linter.unusedSimpArgs false
namespace Go.Proofs.YthhhnfjcaicjnaaGreatDoor
open Nat renaming reduceEqDiff → jA, reduceAdd → jB, reduceMul → jC, reduceLT → jD, reduceLeDiff → jE, reduceBEq → jF, reduceBNe → jG
open Int renaming reduceLE → jH, reduceLT → jI, reduceToNat → jJ, reduceEq → jK
open Go
set_option linter.defProp false
def tfAbMk6 := tfAbMk4

theorem operator_any (d : Nat) (hd : d < 1000) (E : ExprC d) (p : GP) (m : M) (hok : p.ok m) (s : Sc) (hs : s.ok) (t : Ty) (ht : isTy t) (st : Bool) (i : Nat) (n q : Int) : ACalls Tryz.prog 108 [.bp p.gp 0, s.pv, t.pv, pI ((d + 1 : Nat) : Int), pB st] (gst p m i n q) (fun v m' => ∃ e i', v = Ex.pv e ∧ GOp (GEx d) s t st e ∧ m' = gst p m i' n q) := by
 rcases ht with rfl | rfl | rfl
 ·exact operatorI_any d hd E p m hok s hs st i n q
 ·exact operatorB_any d hd E p m hok s hs st i n q
 ·exact operatorC_any d hd p m hok s hs st i n q

set_option maxRecDepth 20000 in
set_option maxHeartbeats 1000000 in
theorem expr0_any : ExprC 0 := by
 intro p m hok s hs t ht st i n q
 have hG := hok.gp
 have hT := hok.tp
 have c0 : decide (((0 : Nat) : Int) ≤ 0) = true := rfl
 refine ACalls.enter (mu := [10, 11]) ok_mix Tryz.func98 rfl (by kernel_rfl) (by kernel_rfl) (by simp only [List.length_cons, List.length_nil, Tryz.ntmps98]; omega) ?_
 (repeat (first | refine aSeq fun X hX => ?_ | (first | apply aReg | apply aIf); simp -implicitDefEqProofs only [↓slp, slb, ↓reduceIte, reduceCtorEq, jA, jE, jF, tfAbMk6, hT, hG, c0] | apply hX; clear hX X))
 refine callM (variable_any p _ (hok.ext _) _ _ hs.ready t ht _ n q) ?_
 rintro v m' ⟨e, i3, rfl, he, rfl⟩
 simp -implicitDefEqProofs only [↓slp, slb, ↓reduceIte, jA, jE, tfAbMk6, hT, hG]; try simp only [fo]
 (repeat (first | refine aRet ?_; try simp only [slx, ↓reduceIte, jA, reduceCtorEq] | apply hX; clear hX X))
 simp only [aPost, Tryz.results98, aRes_n, aRes_t, aRes_c, pack_one, pack_two]
 simp -implicitDefEqProofs only [slb, ↓reduceIte, jA, jE, tfAbMk6, hT, hG]; try simp only [fo]
 exact leave_gst hok (.refl m) (by simp only [Ex.settle_pv, Ex.pure_pv]) ⟨_, i3, by simp only [Ex.settle_pv], he, rfl⟩
set_option maxRecDepth 20000 in
set_option maxHeartbeats 4000000 in
theorem exprS_any (d : Nat) (hd : d + 1 < 1000) (E : ExprC d) : ExprC (d + 1) := by
 intro p m hok s hs t ht st i n q
 have hG := hok.gp
 have hT := hok.tp
 have hN := hok.ne
 have hw : IntKind.i64.wrap (((d + 1 : Nat) : Int) - 1) = (d : Int) := by rw [wrap64 (by omega)]; omega
 have c0 : decide (((d + 1 : Nat) : Int) ≤ 0) = false := by simp
 refine ACalls.enter (mu := [10, 11]) ok_mix Tryz.func98 rfl (by kernel_rfl) (by kernel_rfl) (by simp only [List.length_cons, List.length_nil, Tryz.ntmps98]; omega) ?_
 (repeat (first | refine aSeq fun X hX => ?_ | refine aSkip ?_ | (first | apply aReg | apply aIf); simp -implicitDefEqProofs only [↓slp, slb, ↓reduceIte, reduceCtorEq, jA, jF, tfAbMk6, hT, hG, c0] | apply hX; clear hX X | apply And.intro; focus omega))
 refine callM (next_any p _ (hok.ext _) 12 (by omega) i n q) ?_
 rintro v m' ⟨r, i', rfl, ⟨hr0, hr1⟩, rfl⟩
 simp -implicitDefEqProofs only [slb]
 apply hX; clear hX X
 have hop : ∀ (f : F) (i2 : Nat), f 0 = .bp p.gp 0 → f 3 = .v (.int .i64 ((d + 1 : Nat) : Int)) → f 4 = .v (.bool st) → f 6 = .ep [.sl .no (s.ready.map Va.pv), .sl .no (s.all.map Va.pv), .sl .no (s.lasts.map Va.pv)] → f 7 = .ep [.v (.int .u8 t.kind), .v (.string t.name)] → f 10 = .bp m.nb 0 →
     X f (gst p (m.ext [some [PV.v (Value.int IntKind.u8 0), PV.v (Value.int IntKind.u8 0), PV.v (Value.int IntKind.i32 0), PV.v (Value.string { data := #[] }), PV.sl Own.full [], PV.sl Own.full [], PV.v (Value.int IntKind.i64 0), PV.v (Value.int IntKind.i64 0)]]) i2 n q) := by
  intro f i2 h0 h3 h4 h6 h7 h10
  refine hX _ _ ?_
  clear hX X
  (repeat (first | refine aSeq fun X hX => ?_ | refine aReg ?_; simp -implicitDefEqProofs only [↓slp, slb, ↓reduceIte, jA, jE, jF, tfAbMk6, h0, h3, h4, h6, h7]))
  refine callM (operator_any d (by omega) E p _ (hok.ext _) s hs t ht st i2 n q) ?_
  rintro v m' ⟨e, i3, rfl, he, rfl⟩
  simp -implicitDefEqProofs only [↓slp, slb, ↓reduceIte, jA, jE, tfAbMk6, hT, hG, h10]; try simp only [fo]
  (repeat (first | refine aRet ?_ | apply hX; clear hX X))
  simp only [aPost, Tryz.results98, aRes_n, aRes_t, aRes_c, pack_one, pack_two]
  simp -implicitDefEqProofs only [slb, ↓reduceIte, jA, jE, tfAbMk6, hT, hG, h10]; try simp only [fo]
  exact leave_gst hok (.refl m) (by simp only [Ex.settle_pv, Ex.pure_pv]) ⟨_, i3, by simp only [Ex.settle_pv], .inr (.inr (.inr (.inr (.inr he)))), rfl⟩
 clear hX
 cases k0 : (r == 0) with
 | true =>
  (repeat (first | refine aSeq fun X hX => ?_ | (first | apply aReg | apply aIf); simp -implicitDefEqProofs only [↓slp, slb, ↓reduceIte, reduceCtorEq, jA, jE, jF, tfAbMk6, k0] | apply hX; clear hX X))
  refine callM (constant_any p _ (hok.ext _) t ht _ n q) ?_
  rintro v m' ⟨e, i3, rfl, he, rfl⟩
  simp -implicitDefEqProofs only [↓slp, slb, ↓reduceIte, jA, jE, tfAbMk6, hT, hG]; try simp only [fo]
  (repeat (first | refine aRet ?_; try simp only [slx, ↓reduceIte, jA, reduceCtorEq] | apply hX; clear hX X))
  simp only [aPost, Tryz.results98, aRes_n, aRes_t, aRes_c, pack_one, pack_two]
  simp -implicitDefEqProofs only [slb, ↓reduceIte, jA, jE, tfAbMk6, hT, hG]; try simp only [fo]
  exact leave_gst hok (.refl m) (by simp only [Ex.settle_pv, Ex.pure_pv]) ⟨_, i3, by simp only [Ex.settle_pv], .inl (.inr he), rfl⟩
 | false =>
 cases k1 : (r == 1) with
 | true =>
  (repeat (first | refine aSeq fun X hX => ?_ | refine aSkip ?_ | (first | apply aReg | apply aIf); simp -implicitDefEqProofs only [↓slp, slb, ↓reduceIte, reduceCtorEq, jA, jE, jF, tfAbMk6, k0, k1] | apply hX; clear hX X))
  refine callM (variable_any p _ (hok.ext _) _ _ hs.ready t ht _ n q) ?_
  rintro v m' ⟨e, i3, rfl, he, rfl⟩
  simp -implicitDefEqProofs only [↓slp, slb, ↓reduceIte, jA, jE, tfAbMk6, hT, hG]; try simp only [fo]
  (repeat (first | refine aRet ?_; try simp only [slx, ↓reduceIte, jA, reduceCtorEq] | apply hX; clear hX X))
  simp only [aPost, Tryz.results98, aRes_n, aRes_t, aRes_c, pack_one, pack_two]
  simp -implicitDefEqProofs only [slb, ↓reduceIte, jA, jE, tfAbMk6, hT, hG]; try simp only [fo]
  exact leave_gst hok (.refl m) (by simp only [Ex.settle_pv, Ex.pure_pv]) ⟨_, i3, by simp only [Ex.settle_pv], .inl he, rfl⟩
 | false =>
 cases k2 : (r == 2) with
 | true =>
  (repeat (first | refine aSeq fun X hX => ?_ | (first | apply aReg | apply aIf); simp -implicitDefEqProofs only [↓slp, slb, ↓reduceIte, reduceCtorEq, jA, jE, jF, tfAbMk6, k0, k1, k2] | apply hX; clear hX X))
  refine callM (variable_any p _ (hok.ext _) _ _ hs.ready t ht _ n q) ?_
  rintro v m' ⟨e, i3, rfl, he, rfl⟩
  simp -implicitDefEqProofs only [↓slp, slb, ↓reduceIte, jA, jE, tfAbMk6, hT, hG]; try simp only [fo]
  (repeat (first | refine aRet ?_; try simp only [slx, ↓reduceIte, jA, reduceCtorEq] | apply hX; clear hX X))
  simp only [aPost, Tryz.results98, aRes_n, aRes_t, aRes_c, pack_one, pack_two]
  simp -implicitDefEqProofs only [slb, ↓reduceIte, jA, jE, tfAbMk6, hT, hG]; try simp only [fo]
  exact leave_gst hok (.refl m) (by simp only [Ex.settle_pv, Ex.pure_pv]) ⟨_, i3, by simp only [Ex.settle_pv], .inl he, rfl⟩
 | false =>
 cases k3 : (r == 3) with
 | true =>
  (repeat (first | refine aSeq fun X hX => ?_ | (first | apply aReg | apply aIf); simp -implicitDefEqProofs only [↓slp, slb, ↓reduceIte, reduceCtorEq, jA, jF, k0, k1, k2, k3] | apply hX; clear hX X))
  have join : ∀ (f : F) (c : Ex) (i3 : Nat), GEx d s tyB st c → f 0 = .bp p.gp 0 → f 3 = .v (.int .i64 ((d + 1 : Nat) : Int)) → f 4 = .v (.bool st) → f 6 = .ep [.sl .no (s.ready.map Va.pv), .sl .no (s.all.map Va.pv), .sl .no (s.lasts.map Va.pv)] → f 7 = .ep [.v (.int .u8 t.kind), .v (.string t.name)] → f 10 = .bp m.nb 0 → f 11 = .bp (m.nb + 1) 0 →
      X f (gst p (m.ext [some [PV.v (Value.int IntKind.u8 0), PV.v (Value.int IntKind.u8 0), PV.v (Value.int IntKind.i32 0), PV.v (Value.string { data := #[] }), PV.sl Own.full [], PV.sl Own.full [], PV.v (Value.int IntKind.i64 0), PV.v (Value.int IntKind.i64 0)], some [.v (.int .u8 c.kind), .v (.int .u8 c.op), .v (.int .i32 c.n), .v (.string c.name), .sl .no (c.names.map pS), .sl .no (c.kids.map Ex.pv), .v (.int .i64 c.line), .v (.int .i64 c.col)]]) i3 n q) := by
   intro f c i3 hc g0 g3 g4 g6 g7 g10 g11
   refine hX _ _ ?_
   clear hX X
   refine aSeq (fun X hX => ?_)
   refine aRegF 1 c.pv hok (by simp only [List.getElem?_cons_succ, List.getElem?_cons_zero, Ex.cells_pv, Ex.cs]) (Ex.ok_pv c) ?_
   intro f' hf
   have h0 : f' 0 = .bp p.gp 0 := (hf 0).trans (by rw [g0]; exact frz_ne (by omega))
   have h3 : f' 3 = .v (.int .i64 ((d + 1 : Nat) : Int)) := (hf 3).trans (by rw [g3]; rfl)
   have h4 : f' 4 = .v (.bool st) := (hf 4).trans (by rw [g4]; rfl)
   have h6 : f' 6 = .ep [.sl .no (s.ready.map Va.pv), .sl .no (s.all.map Va.pv), .sl .no (s.lasts.map Va.pv)] := (hf 6).trans (by rw [g6]; rfl)
   have h7 : f' 7 = .ep [.v (.int .u8 t.kind), .v (.string t.name)] := (hf 7).trans (by rw [g7]; rfl)
   have h10 : f' 10 = .bp m.nb 0 := (hf 10).trans (by rw [g10]; exact frz_ne (by omega))
   have h11 : f' 11 = .ep c.cs := (hf 11).trans (by rw [g11]; exact frz_eq.trans (by rw [Ex.cells_pv]))
   clear hf
   simp -implicitDefEqProofs only [↓slp, slb, ↓reduceIte, jA, jE, jF, tfAbMk6, h0, h3, h4, h6, h7, hw]
   refine callM (E p _ (hok.ext _) s hs t ht st _ n q) ?_
   rintro v m' ⟨a, i4, rfl, ha, rfl⟩
   simp -implicitDefEqProofs only [↓slp, slb, ↓reduceIte, jF, tfAbMk6]; try simp only [fo]
   apply hX; clear hX X
   refine aSeq (fun X hX => ?_)
   refine aDrw (fun _ => True) (by kernel_rfl) trivial ?_
   simp -implicitDefEqProofs only [↓slp, slb, ↓reduceIte, reduceCtorEq, jA, jE, jF, tfAbMk6, h0, h3, h4, h6, h7, h11, hw]
   refine callM (E p _ (hok.ext _) s hs t ht st _ n q) ?_
   rintro v m' ⟨b, i5, rfl, hb, rfl⟩
   refine ⟨trivial, ?_⟩
   simp -implicitDefEqProofs only [↓slp, slb, ↓reduceIte, jA, jE, jF, tfAbMk6, hT, hG, h10]; try simp only [fo]
   (repeat (first | refine aRet ?_; try simp only [slx, ↓reduceIte, jA, reduceCtorEq] | apply hX; clear hX X | apply And.intro; focus omega))
   simp only [aPost, Tryz.results98, aRes_n, aRes_t, aRes_c, pack_one, pack_two]
   simp -implicitDefEqProofs only [slb, ↓reduceIte, jA, jE, tfAbMk6, hT, hG, h10]
   refine leave_gst hok (.refl m) (by simp only [PV.settle, PV.settles, PV.pure, PV.pures, Ex.settle_pv, Ex.pure_pv]; rfl) ⟨Ex.un 8 0 [c, a, b], i5, ?_, .inr (.inl ⟨c, a, b, hc, ha, hb, rfl⟩), rfl⟩
   rw [← Ex.un_lit]
   simp only [PV.settle, PV.settles, Ex.settle_pv, List.map_cons, List.map_nil]
  clear hX
  refine aFltN 7 (fun _ => True) (by simp only [List.length_cons, List.length_nil]; omega) (by kernel_rfl) trivial ?_
  simp -implicitDefEqProofs only [↓slp, slb, ↓reduceIte, reduceCtorEq, jA, jE, jF, tfAbMk6, hT, hG, List.getElem_cons_succ, List.getElem_cons_zero, List.getLast_cons_cons, List.getLast_singleton, List.dropLast_singleton]
  refine ⟨?_, ?_⟩
  ·refine callE (tyB_any _) ?_
   refine ⟨trivial, ?_⟩
   simp -implicitDefEqProofs only [↓slp, slb, ↓reduceIte, jA, jF, tfAbMk6, hw]
   refine callM (E p _ (hok.ext _) s hs tyB (.inr (.inl rfl)) st _ n q) ?_
   rintro v m' ⟨c, i3, rfl, hc, rfl⟩
   refine ⟨trivial, ?_⟩
   simp -implicitDefEqProofs only [↓slp, slb, ↓reduceIte, jA, jE, tfAbMk6, hT, hG]; try simp only [fo]
   exact join _ c i3 hc rfl rfl rfl rfl rfl rfl rfl
  ·refine callE (tyB_any _) ?_
   refine ⟨trivial, ?_⟩
   simp -implicitDefEqProofs only [↓slp, slb, ↓reduceIte, jA, jF, tfAbMk6, hT, hG, hw]
   refine ⟨?_, ?_⟩
   ·refine callM (E p _ (hok.ext _) s hs tyB (.inr (.inl rfl)) st _ n q) ?_
    rintro v m' ⟨c, i3, rfl, hc, rfl⟩
    refine ⟨trivial, ?_⟩
    simp -implicitDefEqProofs only [↓slp, slb, ↓reduceIte, jA, jE, tfAbMk6, hT, hG]; try simp only [fo]
    exact join _ c i3 hc rfl rfl rfl rfl rfl rfl rfl
   ·refine callM (E p _ (hok.ext _) s hs tyB (.inr (.inl rfl)) st _ n q) ?_
    rintro v m' ⟨c, i3, rfl, hc, rfl⟩
    refine ⟨trivial, ?_⟩
    simp -implicitDefEqProofs only [↓slp, slb, ↓reduceIte, jA, jE, jF, tfAbMk6, hT, hG]; try simp only [fo]
    exact join _ c i3 hc rfl rfl rfl rfl rfl rfl rfl
 | false =>
 cases k7 : (r == 7) with
 | true =>
  have k4 : (r == 4) = false := by simp at k7 ⊢; omega
  have k5 : (r == 5) = false := by simp at k7 ⊢; omega
  have k6 : (r == 6) = false := by simp at k7 ⊢; omega
  (repeat (first | refine aSeq fun X hX => ?_ | (first | apply aReg | apply aIf); simp -implicitDefEqProofs only [↓slp, slb, ↓reduceIte, reduceCtorEq, jA, jE, jF, tfAbMk6, k0, k1, k2, k3, k4, k5, k6, k7] | apply hX; clear hX X))
  refine callM (pick_any p _ (hok.ext _) _ _ hs.lasts t _ n q) ?_
  rintro v m' ⟨x, b, i3, rfl, hx, rfl⟩
  cases b with
  | true =>
   simp -implicitDefEqProofs only [↓slp, slb, ↓reduceIte, jA, jF]
   (repeat (first | refine aSeq fun X hX => ?_ | refine aRet ?_; try simp only [slx, ↓reduceIte, jA, reduceCtorEq] | (first | apply aReg | apply aIf); simp -implicitDefEqProofs only [↓slp, slb, ↓reduceIte, reduceCtorEq, jA, jE, jF, tfAbMk6, hT, hG] | apply hX; clear hX X | apply And.intro; focus omega))
   simp only [aPost, Tryz.results98, aRes_n, aRes_t, aRes_c, pack_one, pack_two]
   simp -implicitDefEqProofs only [slb, ↓reduceIte, jA, jE, tfAbMk6, hT, hG]
   refine leave_gst hok (.refl m) rfl ⟨Ex.sc 5 0 0 x, i3, ?_, .inr (.inr (.inr (.inr (.inl ⟨x, hx rfl, rfl⟩)))), rfl⟩
   rw [← Ex.sc_lit]; rfl
  | false =>
   simp -implicitDefEqProofs only [↓slp, slb, ↓reduceIte, jA, jF]
   (repeat (first | refine aSeq fun X hX => ?_ | refine aSkip ?_ | (first | apply aReg | apply aIf); simp -implicitDefEqProofs only [↓slp, slb, ↓reduceIte, jF] | apply hX; clear hX X))
   exact hop _ _ rfl rfl rfl rfl rfl rfl
 | false =>
 cases k4 : (r == 4) with
 | true =>
  cases st with
  | true =>
   (repeat (first | refine aSeq fun X hX => ?_ | refine aSkip ?_ | (first | apply aReg | apply aIf); simp -implicitDefEqProofs only [↓slp, slb, ↓reduceIte, reduceCtorEq, jA, jE, jF, tfAbMk6, k0, k1, k2, k3, k4] | apply hX; clear hX X))
   refine callM (constant_any p _ (hok.ext _) t ht _ n q) ?_
   rintro v m' ⟨c, i3, rfl, hc, rfl⟩
   simp -implicitDefEqProofs only [↓slp, slb, ↓reduceIte, jF, tfAbMk6]; try simp only [fo]
   (repeat (first | refine aSeq fun X hX => ?_ | refine aReg ?_; simp -implicitDefEqProofs only [↓slp, slb, ↓reduceIte, reduceCtorEq, jA, jE, jF, tfAbMk6]; try simp only [fo] | apply hX; clear hX X | apply And.intro; focus omega))
   refine aDrw (fun _ => True) (by kernel_rfl) trivial ?_
   simp -implicitDefEqProofs only [↓slp, slb, ↓reduceIte, reduceCtorEq, jA, jE, jF, tfAbMk6, hw]
   refine callM (E p _ (hok.ext _) s.toAll hs.toAll t ht true _ n q) ?_
   rintro v m' ⟨b, i4, rfl, hb, rfl⟩
   refine ⟨trivial, ?_⟩
   simp -implicitDefEqProofs only [↓slp, slb, ↓reduceIte, jA, jF, tfAbMk6]; try simp only [fo]
   refine callE (two_any 9 0 c b _) ?_
   refine ⟨trivial, ?_⟩
   simp -implicitDefEqProofs only [↓slp, slb, ↓reduceIte, jA, jE, tfAbMk6, hT, hG]; try simp only [fo]
   (repeat (first | refine aRet ?_; try simp only [slx, ↓reduceIte, jA, reduceCtorEq] | apply hX; clear hX X))
   simp only [aPost, Tryz.results98, aRes_n, aRes_t, aRes_c, pack_one, pack_two]
   simp -implicitDefEqProofs only [slb, ↓reduceIte, jA, jE, tfAbMk6, hT, hG]; try simp only [fo]
   exact leave_gst hok (.refl m) (by simp only [Ex.settle_pv, Ex.pure_pv]) ⟨_, i4, by simp only [Ex.settle_pv], .inr (.inr (.inl ⟨rfl, c, b, hc, hb, rfl⟩)), rfl⟩
  | false =>
   (repeat (first | refine aSeq fun X hX => ?_ | refine aSkip ?_ | (first | apply aReg | apply aIf); simp -implicitDefEqProofs only [↓slp, slb, ↓reduceIte, reduceCtorEq, jA, jF, k0, k1, k2, k3, k4] | apply hX; clear hX X))
   exact hop _ _ rfl rfl rfl rfl rfl rfl
 | false =>
 cases k5 : (r == 5) with
 | true =>
  cases st with
  | true =>
   (repeat (first | refine aSeq fun X hX => ?_ | (first | apply aReg | apply aIf); simp -implicitDefEqProofs only [↓slp, slb, ↓reduceIte, reduceCtorEq, jA, jE, jF, tfAbMk6, k0, k1, k2, k3, k4, k5] | apply hX; clear hX X))
   refine callM (constant_any p _ (hok.ext _) t ht _ n q) ?_
   rintro v m' ⟨c, i3, rfl, hc, rfl⟩
   simp -implicitDefEqProofs only [↓slp, slb, ↓reduceIte, jF, tfAbMk6]; try simp only [fo]
   (repeat (first | refine aSeq fun X hX => ?_ | refine aReg ?_; simp -implicitDefEqProofs only [↓slp, slb, ↓reduceIte, reduceCtorEq, jA, jE, jF, tfAbMk6]; try simp only [fo] | apply hX; clear hX X | apply And.intro; focus omega))
   refine aDrw (fun _ => True) (by kernel_rfl) trivial ?_
   simp -implicitDefEqProofs only [↓slp, slb, ↓reduceIte, reduceCtorEq, jA, jE, jF, tfAbMk6, hw]
   refine callM (E p _ (hok.ext _) s.toAll hs.toAll t ht true _ n q) ?_
   rintro v m' ⟨b, i4, rfl, hb, rfl⟩
   refine ⟨trivial, ?_⟩
   simp -implicitDefEqProofs only [↓slp, slb, ↓reduceIte, jA, jF, tfAbMk6]; try simp only [fo]
   refine callE (two_any 9 0 c b _) ?_
   refine ⟨trivial, ?_⟩
   simp -implicitDefEqProofs only [↓slp, slb, ↓reduceIte, jA, jE, tfAbMk6, hT, hG]; try simp only [fo]
   (repeat (first | refine aRet ?_; try simp only [slx, ↓reduceIte, jA, reduceCtorEq] | apply hX; clear hX X))
   simp only [aPost, Tryz.results98, aRes_n, aRes_t, aRes_c, pack_one, pack_two]
   simp -implicitDefEqProofs only [slb, ↓reduceIte, jA, jE, tfAbMk6, hT, hG]; try simp only [fo]
   exact leave_gst hok (.refl m) (by simp only [Ex.settle_pv, Ex.pure_pv]) ⟨_, i4, by simp only [Ex.settle_pv], .inr (.inr (.inl ⟨rfl, c, b, hc, hb, rfl⟩)), rfl⟩
  | false =>
   (repeat (first | refine aSeq fun X hX => ?_ | refine aSkip ?_ | (first | apply aReg | apply aIf); simp -implicitDefEqProofs only [↓slp, slb, ↓reduceIte, reduceCtorEq, jA, jF, k0, k1, k2, k3, k4, k5] | apply hX; clear hX X))
   exact hop _ _ rfl rfl rfl rfl rfl rfl
 | false =>
 cases k6 : (r == 6) with
 | true =>
  cases st with
  | true =>
   (repeat (first | refine aSeq fun X hX => ?_ | (first | apply aReg | apply aIf); simp -implicitDefEqProofs only [↓slp, slb, ↓reduceIte, reduceCtorEq, jA, jE, jF, tfAbMk6, k0, k1, k2, k3, k4, k5, k6, hw] | apply hX; clear hX X))
   refine callM (E p _ (hok.ext _) s hs t ht true _ n q) ?_
   rintro v m' ⟨a, i3, rfl, ha, rfl⟩
   simp -implicitDefEqProofs only [↓slp, slb, ↓reduceIte, jF, tfAbMk6]; try simp only [fo]
   (repeat (first | refine aSeq fun X hX => ?_ | refine aReg ?_; simp -implicitDefEqProofs only [↓slp, slb, ↓reduceIte, reduceCtorEq, jA, jE, jF, tfAbMk6, hw]; try simp only [fo] | apply hX; clear hX X | apply And.intro; focus omega))
   refine callM (E p _ (hok.ext _) s.toAll hs.toAll t ht true _ n q) ?_
   rintro v m' ⟨b, i4, rfl, hb, rfl⟩
   simp -implicitDefEqProofs only [↓slp, slb, ↓reduceIte, jE, jF, tfAbMk6]; try simp only [fo]
   (repeat (first | refine aSeq fun X hX => ?_ | refine aReg ?_; simp -implicitDefEqProofs only [↓slp, slb, ↓reduceIte, jA, jE, jF, tfAbMk6]; try simp only [fo] | apply hX; clear hX X | apply And.intro; focus omega))
   have hun := Ex.un_lit 10 0 [b]
   simp only [List.map_cons, List.map_nil] at hun
   rw [hun]
   refine callE (two_any 11 0 a (Ex.un 10 0 [b]) _) ?_
   simp -implicitDefEqProofs only [↓slp, slb, ↓reduceIte, jA, jE, tfAbMk6, hT, hG]; try simp only [fo]
   (repeat (first | refine aRet ?_; try simp only [slx, ↓reduceIte, jA, reduceCtorEq] | apply hX; clear hX X))
   simp only [aPost, Tryz.results98, aRes_n, aRes_t, aRes_c, pack_one, pack_two]
   simp -implicitDefEqProofs only [slb, ↓reduceIte, jA, jE, tfAbMk6, hT, hG]; try simp only [fo]
   exact leave_gst hok (.refl m) (by simp only [Ex.settle_pv, Ex.pure_pv]) ⟨_, i4, by simp only [Ex.settle_pv], .inr (.inr (.inr (.inl ⟨rfl, a, b, ha, hb, rfl⟩))), rfl⟩
  | false =>
   (repeat (first | refine aSeq fun X hX => ?_ | refine aSkip ?_ | (first | apply aReg | apply aIf); simp -implicitDefEqProofs only [↓slp, slb, ↓reduceIte, reduceCtorEq, jA, jF, k0, k1, k2, k3, k4, k5, k6] | apply hX; clear hX X))
   exact hop _ _ rfl rfl rfl rfl rfl rfl
 | false =>
 (repeat (first | refine aSeq fun X hX => ?_ | refine aSkip ?_ | (first | apply aReg | apply aIf); simp -implicitDefEqProofs only [↓slp, slb, ↓reduceIte, jA, jF, k0, k1, k2, k3, k4, k5, k6, k7] | apply hX; clear hX X))
 exact hop _ _ rfl rfl rfl rfl rfl rfl

theorem expr_any : ∀ d, d < 1000 → ExprC d
 | d + 1, h => exprS_any d h (expr_any d (by omega))
 | 0, _ => expr0_any

def tfAbMk7 := And.intro @td_3 (And.intro @zv_3 (And.intro @Tryz.underlying3 (And.intro @td_4 (And.intro @zv_4 (And.intro @Tryz.underlying4 (And.intro @td_5 (And.intro @zv_5 (And.intro @Tryz.underlying5 (And.intro @td_9 (And.intro @zv_9 (And.intro @Tryz.underlying9 (And.intro @td_21 (And.intro @zv_21 (And.intro @Tryz.underlying21 (And.intro @td_22 (And.intro @zv_22 (And.intro @tel_22 (And.intro @Tryz.underlying22 (And.intro @td_44 (And.intro @zv_44 (And.intro @tel_44 (And.intro @Tryz.underlying44 (And.intro @td_35 (And.intro @zv_35 (And.intro @tel_35 (And.intro @Tryz.underlying35 (And.intro @td_43 (And.intro @zv_43 (And.intro @tel_43 (And.intro @Tryz.underlying43 (And.intro @td_46 (And.intro @zv_46 (And.intro @tf_46 (And.intro @td_51 (And.intro @zv_51 (And.intro @tf_51 (And.intro @fl_51 (And.intro @td_104 (And.intro @zv_104 (And.intro @tel_104 (And.intro @Tryz.underlying104 (And.intro @td_106 (And.intro @zv_106 (And.intro @tf_106 (And.intro @nk_71 (And.intro @td_71 (And.intro @zv_71 (And.intro @Tryz.underlying71 (And.intro @td_73 (And.intro @zv_73 (And.intro @tf_73 (And.intro @nk_75 (And.intro @td_75 (And.intro @zv_75 (And.intro @Tryz.underlying75 (And.intro @td_77 (And.intro @zv_77 (And.intro @tf_77 (And.intro @td_108 (And.intro @zv_108 (And.intro @tel_108 (And.intro @Tryz.underlying108 (And.intro @td_160 (And.intro @zv_160 (And.intro @tf_160 (And.intro @td_118 (And.intro @zv_118 (And.intro @tf_118 (And.intro @td_161 (And.intro @zv_161 (And.intro @tel_161 (And.intro @Tryz.underlying161 (And.intro @Ex.settle_pv (And.intro @Ex.pure_pv (And.intro @Ex.cells_pv (And.intro @Ex.cs.eq_1 (And.intro @On.pv.eq_1 (And.intro @Ty.pv.eq_1 (And.intro @Va.settle_pv (And.intro @Va.pure_pv (And.intro @Va.cells_pv (And.intro @Va.cs.eq_1 (And.intro @Sc.pv.eq_1 (And.intro @gst_nb (And.intro @gst_nt (And.intro @gst_fresh (And.intro @gst_use (And.intro @gst_free (And.intro @gst_alive (And.intro @gst_t (And.intro @gst_g (And.intro @gst_updt (And.intro @gst_updg (And.intro @gst_ext (And.intro @gst_ext2 (And.intro @gst_et (And.intro @gst_eg (And.intro @gst_own (And.intro @gst_own0 (And.intro @gst_ou (And.intro @gst_ou0 (And.intro @GP.tape.eq_1 @GP.gen.eq_1))))))))))))))))))))))))))))))))))))))))))))))))))))))))))))))))))))))))))))))))))))))))))))))))))))))

def hasV (l : List Va) (s : Str) : Bool := l.any fun v => eqS v.name s
set_option maxRecDepth 20000 in
set_option maxHeartbeats 400000 in
theorem has_any (o : Own) (l : List Va) (s : Str) (m : M) : ACalls Tryz.prog 76 [.sl o (l.map Va.pv), pS s] m (fun v m' => v = pB (hasV l s) ∧ m' = m) := by
 refine eN [] Tryz.func76 ?_
 (repeat revert X); refine wW aEQ_t ?_; repeat intro X hX
 obtain ⟨I, hI⟩ : ∃ I : F → M → Prop, ∀ f m', I f m' = (∃ k : Nat, k ≤ l.length ∧ f 0 = .sl o (l.map Va.pv) ∧ f 1 = pS s ∧ f 5 = pI k ∧ hasV l s = hasV (l.drop k) s ∧ m' = m) := ⟨_, fun _ _ => rfl⟩
 refine aLoop I (fun f m => l.length - numOf (f 5)) ?_ ?_
 ·rw [hI]; exact ⟨0, by omega, rfl, rfl, rfl, rfl, rfl⟩
 intro f m' hrel
 rw [hI] at hrel
 obtain ⟨k, hk, h0, h1, h5, hs, rfl⟩ := hrel
 (repeat (first | refine aSeq fun X hX => ?_ | refine aReg ?_; simp -implicitDefEqProofs only [↓slp, slb, ↓reduceIte, reduceCtorEq, jA, tfAbMk7, h0, h5, pI] | apply hX; clear hX X | intro hlen; unfold maxLen at hlen))
 refine aIf ?_; simp -implicitDefEqProofs only [slb, ↓reduceIte]; refine ⟨fun hb => ?_, fun hb => ?_⟩
 ·have hlt : k < l.length := by simpa using hb
  have g0 := getD_map Va.pv l k hlt
  have hi : IntKind.i64.wrap ((k : Int) + 1) = ((k + 1 : Nat) : Int) := by rw [wrap64 (by omega)]; omega
  have hd : hasV (l.drop k) s = (eqS l[k].name s || hasV (l.drop (k + 1)) s) := by unfold hasV; rw [List.drop_eq_getElem_cons hlt, List.any_cons]
  cases c1 : (l[k].name.toList == s.toList) with
  | true =>
   have c2 : eqS l[k].name s = true := c1
   (repeat (first | refine aSeq fun X hX => ?_ | refine aSkip ?_ | refine aRet ?_; try simp only [slx, ↓reduceIte, jA, reduceCtorEq] | (first | apply aReg | apply aIf); simp -implicitDefEqProofs only [↓slp, slb, ↓reduceIte, reduceCtorEq, jA, jE, tfAbMk7, h0, h1, h5, pI, pS, g0, c1] | apply hX; clear hX X | apply And.intro; focus omega))
   simp only [aPost, Tryz.results76, aRes_n, aRes_t, aRes_c, pack_one, pack_two]
   have hv : hasV l s = true := by rw [hs, hd, c2]; rfl
   exact leave_same rfl ⟨by rw [hv]; rfl, rfl⟩
  | false =>
   have c2 : eqS l[k].name s = false := c1
   (repeat (first | refine aSeq fun X hX => ?_ | refine aSkip ?_ | (first | apply aReg | apply aIf); simp -implicitDefEqProofs only [↓slp, slb, ↓reduceIte, reduceCtorEq, jA, jE, tfAbMk7, h0, h1, h5, pI, pS, g0, c1, hi] | apply hX; clear hX X | apply And.intro; focus omega))
   rw [hI]
   exact ⟨⟨k + 1, hlt, h0, h1, rfl, by rw [hs, hd, c2]; rfl, rfl⟩, by omega⟩
 ·have hlt : k = l.length := by simp at hb; omega
  subst hlt
  (repeat revert X); refine wD aEQ_t ?_; repeat intro X hX
  refine wR Tryz.results76 ?_
  have hv : hasV l s = false := by rw [hs, List.drop_length]; rfl
  exact leave_same rfl ⟨by rw [hv]; rfl, rfl⟩

def Sc.more (s : Sc) (l : List Va) : Sc := ⟨s.ready ++ l, s.all, s.lasts⟩
theorem va_len (l : List Va) : ∀ x ∈ l.map Va.pv, x.cells.length = 15 := fun x hx => by
 obtain ⟨a, _, rfl⟩ := List.mem_map.1 hx
 rfl
set_option maxRecDepth 20000 in
set_option maxHeartbeats 400000 in
theorem more_any (s : Sc) (o : Own) (l : List Va) (hs : s.ready.length + l.length < 2 ^ 39) (m : M) : ACalls Tryz.prog 78 [s.pv, .sl o (l.map Va.pv)] m (fun v m' => v = (s.more l).pv ∧ m' = m) := by
 have h1 := va_len s.ready
 have h2 := va_len l
 have h3 : s.ready.length ≤ maxLen := by unfold maxLen; omega
 have h4 : s.ready.length + l.length ≤ maxLen := by unfold maxLen; omega
 have h5 : (m.fresh 15).alive m.nt 15 := by simp [M.alive, M.fresh, M.nt]
 have t1 : Toks m (m.fresh 15) := (Toks.refl m).use (o := .full) (s := 15) (s' := 15) Mine.full
 have t2 : Toks m (((m.fresh 15).kill m.nt).fresh 15) := t1.use (o := .tok m.nt) (s := 15) (Mine.new (o := .full) (Toks.refl m) 15)
 refine eN [4] Tryz.func78 ?_
 (repeat (first | refine aSeq fun X hX => ?_ | refine aReg ?_; simp -implicitDefEqProofs only [↓slp, slb, ↓reduceIte, tfAbMk7]))
 (repeat ((apply And.intro; (focus (trivial)))))
 (repeat (first | refine aSeq fun X hX => ?_ | refine aRet ?_ | refine aReg ?_; simp -implicitDefEqProofs only [↓slp, slb, ↓reduceIte, reduceCtorEq, jA, jE, tfAbMk7] | apply hX; clear hX X | apply And.intro; focus (first | omega | (repeat' apply And.intro) <;> first | omega | assumption)))
 simp only [aPost, Tryz.results78, aRes_n, aRes_t, aRes_c, pack_one, pack_two]
 simp -implicitDefEqProofs only [slb, ↓reduceIte, jA, jE, tfAbMk7]
 refine leave_toks t2 rfl ⟨?_, rfl⟩
 simp only [Sc.pv, Sc.more, List.map_append]
 rfl

def isLess : List Va → List Va → Prop
 | [], l => l = []
 | v :: r, l => (∃ l', l = v :: l' ∧ isLess r l') ∨ (v.last = true ∧ isLess r l)
theorem isLess_keep (v : Va) : ∀ {a l : List Va}, isLess a l → isLess (a ++ [v]) (l ++ [v])
 | [], l, h => by cases h; exact .inl ⟨[], rfl, rfl⟩
 | w :: r, l, h => by
  rcases h with ⟨l', rfl, h⟩ | ⟨hw, h⟩
  ·exact .inl ⟨l' ++ [v], rfl, isLess_keep v h⟩
  ·exact .inr ⟨hw, isLess_keep v h⟩
theorem isLess_drop (v : Va) (hv : v.last = true) : ∀ {a l : List Va}, isLess a l → isLess (a ++ [v]) l
 | [], l, h => .inr ⟨hv, h⟩
 | w :: r, l, h => by
  rcases h with ⟨l', rfl, h⟩ | ⟨hw, h⟩
  ·exact .inl ⟨l', rfl, isLess_drop v hv h⟩
  ·exact .inr ⟨hw, isLess_drop v hv h⟩
theorem isLess_len : ∀ {a l : List Va}, isLess a l → l.length ≤ a.length
 | [], l, h => by cases h; exact Nat.le_refl _
 | w :: r, l, h => by
  rcases h with ⟨l', rfl, h⟩ | ⟨hw, h⟩
  ·have := isLess_len h; simpa using this
  ·have := isLess_len h; simp; omega
set_option maxRecDepth 20000 in
set_option maxHeartbeats 1000000 in
theorem less_any (p : GP) (m : M) (hok : p.ok m) (o : Own) (l : List Va) (hl : l.length < 2 ^ 39) (i : Nat) (n q : Int) : ACalls Tryz.prog 103 [.bp p.gp 0, .sl o (l.map Va.pv)] (gst p m i n q) (fun v m' => ∃ r i', v = .sl .no (List.map Va.pv r) ∧ isLess l r ∧ m' = gst p m i' n q) := by
 have hG := hok.gp
 have hT := hok.tp
 refine eN [] Tryz.func103 ?_
 (repeat revert X); refine wD tfAbMk7 ?_; repeat intro X hX
 obtain ⟨I, hI⟩ : ∃ I : F → M → Prop, ∀ f m', I f m' = (∃ (k : Nat) (r : List Va) (o2 : Own) (mm : M) (i' : Nat), k ≤ l.length ∧ f 0 = .bp p.gp 0 ∧ f 1 = .sl o (l.map Va.pv) ∧ f 5 = .sl o2 (r.map Va.pv) ∧ f 6 = pI k ∧ isLess (l.take k) r ∧ Toks m mm ∧ Mine m mm o2 15 ∧ m' = gst p mm i' n q) := ⟨_, fun _ _ => rfl⟩
 refine aLoop I (fun f m => l.length - numOf (f 6)) ?_ ?_
 ·rw [hI]; exact ⟨0, [], .full, m, i, by omega, rfl, rfl, rfl, rfl, rfl, .refl _, .full, rfl⟩
 intro f m' hrel
 rw [hI] at hrel
 obtain ⟨k, r, o2, mm, i', hk, h0, h1, h5, h6, hl2, ht, g2, rfl⟩ := hrel
 have hG' : p.gp < mm.nb := by rw [ht.nb]; exact hG
 have hT' : p.tp < mm.nb := by rw [ht.nb]; exact hT
 (repeat revert X); refine wW (And.intro tfAbMk7 (And.intro h1 (And.intro h6 @pI.eq_1))) ?_; repeat intro X hX
 refine aIf ?_; simp -implicitDefEqProofs only [slb, ↓reduceIte]; refine ⟨fun hb => ?_, fun hb => ?_⟩
 ·have hlt : k < l.length := by simpa using hb
  have g0 := getD_map Va.pv l k hlt
  have hi : IntKind.i64.wrap ((k : Int) + 1) = ((k + 1 : Nat) : Int) := by rw [wrap64 (by omega)]; omega
  have htk : l.take (k + 1) = l.take k ++ [l[k]] := List.take_succ_eq_append_getElem hlt
  have hrl := isLess_len hl2
  have hrl' : (l.take k).length ≤ l.length := by simp; omega
  have hmx : r.length + 1 ≤ maxLen := by unfold maxLen; omega
  have hf := g2.free
  have hvl := va_len r
  have ht1 := ht.use (s := 15) g2
  have g2' := Mine.new ht o2 15
  have hadd : List.map Va.pv r ++ [l[k].pv] = (r ++ [l[k]]).map Va.pv := by rw [List.map_append]; rfl
  cases c1 : l[k].last with
  | false =>
   (repeat (first | refine aSeq fun X hX => ?_ | refine aSkip ?_ | (first | apply aReg | apply aIf); simp -implicitDefEqProofs only [↓slp, slb, ↓reduceIte, reduceCtorEq, jA, jE, tfAbMk7, h1, h5, h6, pI, g0, c1, hi] | apply hX; clear hX X | apply And.intro; focus (first | omega | (repeat' apply And.intro) <;> first | omega | assumption)))
   rw [hI]
   exact ⟨⟨k + 1, r ++ [l[k]], _, _, _, hlt, h0, h1, congrArg (PV.sl (.tok mm.nt)) (by rw [← hadd, Va.pv, Va.cs, c1]), rfl, by rw [htk]; exact isLess_keep _ hl2, ht1, g2', rfl⟩, by omega⟩
  | true =>
   (repeat (first | refine aSeq fun X hX => ?_ | refine aSkip ?_ | refine aReg ?_; simp -implicitDefEqProofs only [↓slp, slb, ↓reduceIte, reduceCtorEq, jA, jE, tfAbMk7, h0, h1, h6, pI, g0, c1, hG'] | apply hX; clear hX X | apply And.intro; focus omega))
   refine callM (next_any p _ (hok.toks ht) 2 (by omega) _ n q) ?_
   rintro v m' ⟨x, i2, rfl, ⟨hx0, hx1⟩, rfl⟩
   cases c2 : (x == 0) with
   | true =>
    refine wS (And.intro h6 (And.intro @pI.eq_1 c2)) ?_
    (repeat (first | (first | apply aReg | apply aIf); simp -implicitDefEqProofs only [↓slp, slb, ↓reduceIte, reduceCtorEq, jA, jE, tfAbMk7, h1, h5, h6, pI, g0, hi] | apply hX; clear hX X | apply And.intro; focus (first | omega | (repeat' apply And.intro) <;> first | omega | assumption)))
    rw [hI]
    exact ⟨⟨k + 1, r ++ [l[k]], _, _, _, hlt, h0, h1, congrArg (PV.sl (.tok mm.nt)) (by rw [← hadd, Va.pv, Va.cs, c1]), rfl, by rw [htk]; exact isLess_keep _ hl2, ht1, g2', rfl⟩, by omega⟩
   | false =>
    refine wS (And.intro h6 (And.intro @pI.eq_1 c2)) ?_
    (repeat (first | refine aSkip ?_ | (first | apply aReg | apply aIf); simp -implicitDefEqProofs only [↓slp, slb, ↓reduceIte, jA, h6, pI, hi] | apply hX; clear hX X))
    rw [hI]
    exact ⟨⟨k + 1, r, o2, mm, i2, hlt, h0, h1, h5, rfl, by rw [htk]; exact isLess_drop _ c1 hl2, ht, g2, rfl⟩, by omega⟩
 ·have hlt : k = l.length := by simp at hb; omega
  subst hlt
  rw [List.take_length] at hl2
  (repeat revert X); refine wD h5 ?_; repeat intro X hX
  refine wR Tryz.results103 ?_
  exact leave_gst0 hok ht rfl ⟨r, i', by simp only [h5, put_app]; rfl, hl2, rfl⟩

def tfAbMk8 := And.intro @td_3 (And.intro @zv_3 (And.intro @Tryz.underlying3 (And.intro @td_4 (And.intro @zv_4 (And.intro @Tryz.underlying4 (And.intro @td_5 (And.intro @zv_5 (And.intro @Tryz.underlying5 (And.intro @td_9 (And.intro @zv_9 (And.intro @Tryz.underlying9 (And.intro @td_21 (And.intro @zv_21 (And.intro @Tryz.underlying21 (And.intro @td_22 (And.intro @zv_22 (And.intro @tel_22 (And.intro @Tryz.underlying22 (And.intro @td_44 (And.intro @zv_44 (And.intro @tel_44 (And.intro @Tryz.underlying44 (And.intro @td_35 (And.intro @zv_35 (And.intro @tel_35 (And.intro @Tryz.underlying35 (And.intro @td_43 (And.intro @zv_43 (And.intro @tel_43 (And.intro @Tryz.underlying43 (And.intro @td_46 (And.intro @zv_46 (And.intro @tf_46 (And.intro @td_51 (And.intro @zv_51 (And.intro @tf_51 (And.intro @fl_51 (And.intro @td_104 (And.intro @zv_104 (And.intro @tel_104 (And.intro @Tryz.underlying104 (And.intro @td_106 (And.intro @zv_106 (And.intro @tf_106 (And.intro @nk_71 (And.intro @td_71 (And.intro @zv_71 (And.intro @Tryz.underlying71 (And.intro @td_73 (And.intro @zv_73 (And.intro @tf_73 (And.intro @nk_75 (And.intro @td_75 (And.intro @zv_75 (And.intro @Tryz.underlying75 (And.intro @td_77 (And.intro @zv_77 (And.intro @tf_77 (And.intro @td_108 (And.intro @zv_108 (And.intro @tel_108 (And.intro @Tryz.underlying108 (And.intro @td_160 (And.intro @zv_160 (And.intro @tf_160 (And.intro @td_118 (And.intro @zv_118 (And.intro @tf_118 (And.intro @td_161 (And.intro @zv_161 (And.intro @tel_161 (And.intro @Tryz.underlying161 (And.intro @Ex.settle_pv (And.intro @Ex.pure_pv (And.intro @Ex.cells_pv (And.intro @Ex.cs.eq_1 (And.intro @On.pv.eq_1 (And.intro @Ty.pv.eq_1 (And.intro @Va.settle_pv (And.intro @Va.pure_pv (And.intro @Va.cells_pv (And.intro @Va.cs.eq_1 (And.intro @Sc.pv.eq_1 (And.intro @Tr.settle_pv (And.intro @Tr.pure_pv (And.intro @Tr.cells_pv (And.intro @Tr.cs.eq_1 (And.intro @gst_nb (And.intro @gst_nt (And.intro @gst_fresh (And.intro @gst_use (And.intro @gst_free (And.intro @gst_alive (And.intro @gst_t (And.intro @gst_g (And.intro @gst_updt (And.intro @gst_updg (And.intro @gst_ext (And.intro @gst_ext2 (And.intro @gst_et (And.intro @gst_eg (And.intro @gst_own (And.intro @gst_own0 (And.intro @gst_ou (And.intro @gst_ou0 (And.intro @GP.tape.eq_1 @GP.gen.eq_1))))))))))))))))))))))))))))))))))))))))))))))))))))))))))))))))))))))))))))))))))))))))))))))))))))))))))

theorem callMS {P : Program} {g : FuncId} {args args' : List PV} {m : M} {R K Z : PV → M → Prop} (h : ACalls P g args' m R) (he : args.map PV.settle = args') (hk : ∀ v m', R v m' → K v m') : @ACallsI P g args m ⟨K, Z⟩ := by
 subst he
 refine ACallsZ.mono (Z := noZ) ⟨h.cc, fun G w vs hI hl hr => h.run G w vs hI (by simpa using hl) (fun j h1 h2 => ?_)⟩ hk (fun _ _ h => h.elim)
 simpa using (hr j (by simpa using h1) h2).settle
def isGX (p : GP) (m m2 : M) : Prop := ∃ ts i n q, m2 = gst p ⟨m.boxes, ts⟩ i n q
theorem isGX_all {p : GP} {m : M} {Q : M → Prop} : (∀ m2, isGX p m m2 → Q m2) = ∀ ts i n q, Q (gst p ⟨m.boxes, ts⟩ i n q) :=
 propext ⟨fun h ts i n q => h _ ⟨ts, i, n, q, rfl⟩, fun h m2 ⟨ts, i, n, q, e⟩ => e ▸ h ts i n q⟩
theorem isGX_of {p : GP} {m mm : M} {i : Nat} {n q : Int} (h : mm.boxes = m.boxes) : isGX p m (gst p mm i n q) := by
 refine ⟨mm.toks, i, n, q, ?_⟩
 rw [← h]
theorem gst_gx {p : GP} {m : M} {ts : List (Option Nat)} {i : Nat} {n q : Int} (hG : p.gp < m.nb) : (gst p ⟨m.boxes, ts⟩ i n q).get p.gp = some (p.gen n q) := gst_g hG

def GWay (s : Sc) (nn : Int) (t : Tr) : Prop := ∃ (e : Ex) (k : Nat) (b : Bool), GEx 2 ⟨s.ready, [], s.lasts⟩ tyB false e ∧ (k : Int) < nn ∧ t = ⟨e, nameS ⟨#[83]⟩ k, b, 0, 0⟩
def GWays (s : Sc) (nn : Int) (l : List Tr) : Prop := l.length ≤ 2 ∧ ∀ t ∈ l, GWay s nn t
theorem tr_len (l : List Tr) : ∀ x ∈ l.map Tr.pv, x.cells.length = 12 := fun x hx => by
 obtain ⟨a, _, rfl⟩ := List.mem_map.1 hx
 rfl
set_option maxRecDepth 20000 in
set_option maxHeartbeats 2000000 in
theorem ways_any (p : GP) (m : M) (hok : p.ok m) (s : Sc) (hs : s.ok) (nn : Int) (hn0 : 0 < nn) (hn1 : nn < 100) (i : Nat) (n q : Int) : ACalls Tryz.prog 104 [.bp p.gp 0, s.pv, pI nn] (gst p m i n q) (fun v m' => ∃ l i', v = .sl .no (List.map Tr.pv l) ∧ GWays s nn l ∧ m' = gst p m i' n q) := by
 have hG := hok.gp
 have hT := hok.tp
 have hs2 : Sc.ok ⟨s.ready, [], s.lasts⟩ := ⟨hs.ready, by simp, hs.lasts⟩
 refine eN [] Tryz.func104 ?_
 (repeat revert X); refine wE (And.intro tfAbMk8 hG) ?_; repeat intro X hX
 refine callM (next_any p _ hok 3 (by omega) i n q) ?_
 rintro v m' ⟨r, i', rfl, ⟨hr0, hr1⟩, rfl⟩
 refine wS aEQ_t ?_
 (repeat revert X); refine wE aEQ_t ?_; repeat intro X hX
 obtain ⟨I, hI⟩ : ∃ I : F → M → Prop, ∀ f m', I f m' = (∃ (k : Nat) (l : List Tr) (o2 : Own) (mm : M) (i' : Nat), (k : Int) ≤ r ∧ f 0 = .bp p.gp 0 ∧ f 2 = pI nn ∧ f 4 = .ep [.sl .no (s.ready.map Va.pv), .sl .no (s.all.map Va.pv), .sl .no (s.lasts.map Va.pv)] ∧ f 7 = .sl o2 (l.map Tr.pv) ∧ f 8 = pI r ∧ f 9 = pI k ∧ l.length = k ∧ (∀ t ∈ l, GWay s nn t) ∧ Toks m mm ∧ Mine m mm o2 12 ∧ m' = gst p mm i' n q) := ⟨_, fun _ _ => rfl⟩
 refine aLoop I (fun f m => r.toNat - numOf (f 9)) ?_ ?_
 ·rw [hI]; exact ⟨0, [], .full, m, i', by omega, rfl, rfl, rfl, rfl, rfl, rfl, rfl, (fun t h => by cases h), .refl _, .full, rfl⟩
 intro f m' hrel
 rw [hI] at hrel
 obtain ⟨k, l, o2, mm, i2, hk, h0, h2, h4, h7, h8, h9, hlk, hgl, ht, g2, rfl⟩ := hrel
 have hG' : p.gp < mm.nb := by rw [ht.nb]; exact hG
 have hT' : p.tp < mm.nb := by rw [ht.nb]; exact hT
 (repeat revert X); refine wW (And.intro h8 (And.intro h9 @pI.eq_1)) ?_; repeat intro X hX
 refine aIf ?_; simp -implicitDefEqProofs only [slb, ↓reduceIte]; refine ⟨fun hb => ?_, fun hb => ?_⟩
 ·have hlt : (k : Int) < r := by simpa using hb
  have hi : IntKind.i64.wrap ((k : Int) + 1) = ((k + 1 : Nat) : Int) := by rw [wrap64 (by omega)]; omega
  (repeat (first | refine aSeq fun X hX => ?_ | refine aBlk ?_ | refine aSkip ?_ | (apply hX; clear hX X)))
  refine aDrw (isGX p m) (by kernel_rfl) (isGX_of ht.boxes) ?_
  refine wS (And.intro tfAbMk8 (And.intro h0 (And.intro h4 h7))) ?_
  have hmx : l.length + 1 ≤ maxLen := by unfold maxLen; omega
  have hf := g2.free
  have hvl := tr_len l
  have ht1 := ht.use (s := 12) g2
  have g2' := Mine.new ht o2 12
  refine callE (tyB_any _) ?_
  refine ⟨isGX_of ht.boxes, ?_⟩
  refine wS tfAbMk8 ?_
  refine callMS (expr_any 2 (by omega) p _ (hok.toks ht) ⟨s.ready, [], s.lasts⟩ hs2 tyB (.inr (.inl rfl)) false _ n q) rfl ?_
  rintro v m' ⟨e, i3, rfl, he, rfl⟩
  refine ⟨isGX_of ht.boxes, ?_⟩
  simp -implicitDefEqProofs only [↓slp, slb, ↓reduceIte, reduceCtorEq, jA, jB, tfAbMk8, h0, h2, hG', hG, pI, isGX_all, gst_gx]
  refine callM (next_any p _ (hok.toks ht) nn hn0 _ n q) ?_
  rintro v m' ⟨x, i4, rfl, ⟨hx0, hx1⟩, rfl⟩
  obtain ⟨kk, rfl⟩ : ∃ kk : Nat, x = kk := ⟨x.toNat, (Int.toNat_of_nonneg hx0).symm⟩
  refine ⟨isGX_of ht.boxes, ?_⟩
  refine wS (And.intro tfAbMk8 @pI.eq_1) ?_
  refine callE (digits_any kk _ (by omega)) ?_
  have hsz := digS_size kk
  have hs1 : (⟨#[83]⟩ : ByteArray).size = 1 := rfl
  refine ⟨isGX_of ht.boxes, ?_⟩
  simp -implicitDefEqProofs only [↓slp, slb, ↓reduceIte, reduceCtorEq, jB, tfAbMk8, h0, hG', hG, pI, isGX_all, gst_gx, pS]
  (repeat ((apply And.intro; (focus omega))))
  refine callM (next_any p _ (hok.toks ht) 2 (by omega) _ n q) ?_
  rintro v m' ⟨y, i5, rfl, ⟨hy0, hy1⟩, rfl⟩
  refine ⟨isGX_of ht.boxes, ?_⟩
  refine wS (And.intro tfAbMk8 (And.intro h9 (And.intro @pI.eq_1 @pS.eq_1))) ?_
  (repeat ((apply And.intro; (focus (first | omega | (repeat' apply And.intro) <;> first | omega | assumption | trivial)))))
  refine ⟨isGX_of ht1.boxes, ?_⟩
  (repeat (first | refine aReg ?_; simp -implicitDefEqProofs only [↓slp, slb, ↓reduceIte, jA, h9, hi, pI] | apply hX; clear hX X))
  rw [hI]
  refine ⟨⟨k + 1, l ++ [⟨e, nameS ⟨#[83]⟩ kk, (y == 0), 0, 0⟩], .tok mm.nt, _, i5, by omega, h0, h2, h4, congrArg (PV.sl (.tok mm.nt)) (by rw [List.map_append]; rfl), h8, rfl, by simp [hlk], ?_, ht1, g2', rfl⟩, ?_⟩
  ·intro t ht2
   rcases List.mem_append.1 ht2 with h | h
   ·exact hgl t h
   ·have := List.mem_singleton.1 h
    exact ⟨e, kk, _, he, hx1, this⟩
  ·omega
 ·((repeat revert X); refine wE h7 ?_; repeat intro X hX)
  refine wR Tryz.results104 ?_
  exact leave_gst0 hok ht rfl ⟨l, i2, by simp only [h7, put_app]; rfl, ⟨by omega, hgl⟩, rfl⟩
end Go.Proofs.YthhhnfjcaicjnaaGreatDoor
