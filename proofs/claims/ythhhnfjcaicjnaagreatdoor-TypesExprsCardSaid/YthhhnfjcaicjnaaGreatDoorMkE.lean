/-
 Texts that belong together: AbMk12, AbMk13.
-/
-- halved
import Derived.Test.YthhhnfjcaicjnaaGreatDoorAbMac
import Derived.Test.YthhhnfjcaicjnaaGreatDoorMkD
set_option linter.unusedVariables false
set_option linter.unusedSimpArgs false
namespace Go.Proofs.YthhhnfjcaicjnaaGreatDoor
open Nat renaming reduceEqDiff → jA, reduceAdd → jB, reduceMul → jC, reduceLT → jD, reduceLeDiff → jE, reduceBEq → jF, reduceBNe → jG
open Int renaming reduceLE → jH, reduceLT → jI, reduceToNat → jJ, reduceEq → jK
open Go
set_option linter.defProp false
def tfAbMk12 := tfAbMk10

theorem set_concat_length {α : Type} (l : List α) (a b : α) : (l ++ [a]).set l.length b = l ++ [b] := by
 rw [List.set_append_right _ _ (Nat.le_refl _)]; simp
def GAArm (RB : RBT) (s : Sc) (outs : List Va) (nn : Int) (j n n' : Nat) (a : Am) : Prop := ∃ l u b w, isLess outs l ∧ (j = 0 → l = outs) ∧ GWays s nn u ∧ RB n n' s.arm l b ∧ GWays (s.more l) nn w ∧ a = .mk (nameS ⟨#[83]⟩ j) b.vars b.eqs u w 0 0
def GAuto (RB : RBT) (n n' : Nat) (s : Sc) (outs : List Va) (x : Qu) : Prop := ∃ (nn : Nat) (ar : List Am), (1 ≤ nn ∧ nn ≤ 3) ∧ ar.length = nn ∧ Chn (GAArm RB s outs nn) 0 n n' ar ∧ x = .mk 4 [] sE [] false zE ar 0 0
set_option maxRecDepth 20000 in
set_option maxHeartbeats 4000000 in
theorem automaton_any (d : Nat) (hd : d + 1 < 1000) (RB : Int → RBT) (B : BlockC d RB) (p : GP) (m : M) (hok : p.ok m) (s : Sc) (k : Nat) (hs : s.le k) (outs : List Va) (ho : outs.length ≤ 3) (hty : ∀ v ∈ outs, isTy v.t) (i n : Nat) (q : Int) (hk : k + 3 * cB d ≤ 2 ^ 30) (hk3 : k + 3 ≤ 2 ^ 30) (hn : n + 3 * cB d ≤ 2 ^ 50) (hq : q ≤ 20) (hq2 : -(2 : Int) ^ 50 ≤ q - 3 * cB d) : ACalls Tryz.prog 97 [.bp p.gp 0, s.pv, .sl .no (outs.map Va.pv), pI ((d + 1 : Nat) : Int)] (gst p m i n q) (fun v m' => ∃ (x : Qu) (i' n' : Nat) (q' : Int), v = x.pv ∧ GAuto (RB p.subs) n n' s outs x ∧ Cnt (3 * cB d) n q n' q' ∧ m' = gst p m i' n' q') := by
 have hG := hok.gp
 have hT := hok.tp
 have hw : IntKind.i64.wrap (((d + 1 : Nat) : Int) - 1) = (d : Int) := by rw [wrap64 (by omega)]; omega
 refine eN [8, 9, 13] Tryz.func97 ?_
 (repeat revert X); refine wE (And.intro tfAbMk12 (And.intro hT hG)) ?_; repeat intro X hX
 refine callM (next_any p _ (hok.ext _) 3 (by omega) i n q) ?_
 rintro v m' ⟨r0, i', rfl, ⟨hr0, hr1⟩, rfl⟩
 obtain ⟨nn, hnn, hwn⟩ : ∃ nn : Nat, (1 ≤ nn ∧ nn ≤ 3) ∧ IntKind.i64.wrap (1 + r0) = (nn : Int) := ⟨(1 + r0).toNat, by omega, by rw [wrap64 (by omega)]; omega⟩
 refine wS hwn ?_
 (repeat revert X); refine wE aEQ_t ?_; repeat intro X hX
 obtain ⟨I, hI⟩ : ∃ I : F → M → Prop, ∀ f m', I f m' = (∃ (j : Nat) (ar : List Am) (o2 : Own) (mm : M) (r : List (Option (List PV))) (i' n' : Nat) (q' : Int), j ≤ nn ∧ f 0 = .bp p.gp 0 ∧ f 2 = .sl .no (outs.map Va.pv) ∧ f 3 = pI ((d + 1 : Nat) : Int) ∧ f 5 = .ep [.sl .no (s.ready.map Va.pv), .sl .no (s.all.map Va.pv), .sl .no (s.lasts.map Va.pv)] ∧ f 8 = .bp m.nb 0 ∧ f 9 = .bp (m.nb + 1) 0 ∧ f 10 = pI nn ∧ f 11 = pI j ∧ ar.length = j ∧ Chn (GAArm (RB p.subs) s outs nn) 0 n n' ar ∧ Toks m mm ∧ Mine m mm o2 7 ∧ Cnt (j * cB d) n q n' q' ∧ m' = gst p (mm.ext (some [PV.v (Value.int IntKind.u8 0), PV.sl Own.full [], PV.v (Value.string { data := #[] }), PV.sl Own.full [], PV.v (Value.bool false), PV.v (Value.int IntKind.u8 0), PV.v (Value.int IntKind.u8 0), PV.v (Value.int IntKind.i32 0), PV.v (Value.string { data := #[] }), PV.sl Own.full [], PV.sl Own.full [], PV.v (Value.int IntKind.i64 0), PV.v (Value.int IntKind.i64 0), PV.sl Own.full [], PV.v (Value.int IntKind.i64 0), PV.v (Value.int IntKind.i64 0)] :: some [PV.v (Value.int IntKind.u8 4), PV.sl Own.full [], PV.v (Value.string { data := #[] }), PV.sl Own.full [], PV.v (Value.bool false), PV.v (Value.int IntKind.u8 0), PV.v (Value.int IntKind.u8 0), PV.v (Value.int IntKind.i32 0), PV.v (Value.string { data := #[] }), PV.sl Own.full [], PV.sl Own.full [], PV.v (Value.int IntKind.i64 0), PV.v (Value.int IntKind.i64 0), PV.sl o2 (ar.map Am.pv), PV.v (Value.int IntKind.i64 0), PV.v (Value.int IntKind.i64 0)] :: r)) i' n' q') := ⟨_, fun _ _ => rfl⟩
 refine aLoop I (fun f m => nn - numOf (f 11)) ?_ ?_
 ·rw [hI]; exact ⟨0, [], .full, m, [], i', n, q, by omega, rfl, rfl, rfl, rfl, rfl, rfl, rfl, rfl, rfl, rfl, .refl _, .full, Cnt.le (Cnt.refl 0 n q) (by omega), rfl⟩
 intro f m' hrel
 rw [hI] at hrel
 obtain ⟨j, ar, o2, mm, r, i3, n3, q3, hj, h0, h2, h3, h5, h8, h9, h10, h11, hlen, hga, ht, g2, hcnt, rfl⟩ := hrel
 have hnb := ht.nb
 have hG' : p.gp < mm.nb := by rw [ht.nb]; exact hG
 have hT' : p.tp < mm.nb := by rw [ht.nb]; exact hT
 (repeat revert X); refine wW (And.intro h10 (And.intro h11 @pI.eq_1)) ?_; repeat intro X hX
 refine aIf ?_; simp -implicitDefEqProofs only [slb, ↓reduceIte]; refine ⟨fun hb => ?_, fun hb => ?_⟩
 ·have hlt : j < nn := by simpa using hb
  have hi : IntKind.i64.wrap ((j : Int) + 1) = ((j + 1 : Nat) : Int) := by rw [wrap64 (by omega)]; omega
  have hjb : j * cB d ≤ 2 * cB d := Nat.mul_le_mul_right _ (by omega)
  have hmu : numOf (f 11) = j := by rw [h11]; rfl
  (repeat revert X); refine wE (And.intro h2 (And.intro h11 @pI.eq_1)) ?_; repeat intro X hX
  have fin : ∀ (f : F) (l : List Va) (i4 : Nat), isLess outs l → (j = 0 → l = outs) → f 0 = .bp p.gp 0 → f 2 = .sl .no (outs.map Va.pv) → f 3 = pI ((d + 1 : Nat) : Int) → f 5 = .ep [.sl .no (s.ready.map Va.pv), .sl .no (s.all.map Va.pv), .sl .no (s.lasts.map Va.pv)] → f 8 = .bp m.nb 0 → f 9 = .bp (m.nb + 1) 0 → f 10 = pI nn → f 11 = pI j → f 12 = .sl .no (l.map Va.pv) → X f (gst p (mm.ext (some [PV.v (Value.int IntKind.u8 0), PV.sl Own.full [], PV.v (Value.string { data := #[] }), PV.sl Own.full [], PV.v (Value.bool false), PV.v (Value.int IntKind.u8 0), PV.v (Value.int IntKind.u8 0), PV.v (Value.int IntKind.i32 0), PV.v (Value.string { data := #[] }), PV.sl Own.full [], PV.sl Own.full [], PV.v (Value.int IntKind.i64 0), PV.v (Value.int IntKind.i64 0), PV.sl Own.full [], PV.v (Value.int IntKind.i64 0), PV.v (Value.int IntKind.i64 0)] :: some [PV.v (Value.int IntKind.u8 4), PV.sl Own.full [], PV.v (Value.string { data := #[] }), PV.sl Own.full [], PV.v (Value.bool false), PV.v (Value.int IntKind.u8 0), PV.v (Value.int IntKind.u8 0), PV.v (Value.int IntKind.i32 0), PV.v (Value.string { data := #[] }), PV.sl Own.full [], PV.sl Own.full [], PV.v (Value.int IntKind.i64 0), PV.v (Value.int IntKind.i64 0), PV.sl o2 (ar.map Am.pv), PV.v (Value.int IntKind.i64 0), PV.v (Value.int IntKind.i64 0)] :: r)) i4 n3 q3) := by
   intro f l i4 hl hl0 h0 h2 h3 h5 h8 h9 h10 h11 h12
   apply hX; clear hX X
   have hll := isLess_len hl
   have hmx : ar.length + 1 ≤ maxLen := by unfold maxLen; omega
   have hf := g2.free
   have hvl := am_len ar
   have ht1 := ht.use (s := 7) g2
   have g2' := Mine.new ht o2 7
   have hc1 := hcnt.n
   have hc2 := hcnt.q0
   have hc3 := hcnt.q1
   have hsz := digS_size j
   have hs1 : (⟨#[83]⟩ : ByteArray).size = 1 := rfl
   (repeat revert X); refine wE (And.intro h11 @pI.eq_1) ?_; repeat intro X hX
   refine callE (digits_any j _ (by omega)) ?_
   simp -implicitDefEqProofs only [↓slp, slb, ↓reduceIte, jA, jE, jF, tfAbMk12, hnb, hT, hG, List.getElem?_concat_length, set_concat_length, pS]
   (repeat ((apply And.intro; (focus omega))))
   apply hX; clear hX X
   (repeat revert X); refine wE (And.intro tfAbMk12 (And.intro h0 (And.intro h5 (And.intro h10 @pI.eq_1)))) ?_; repeat intro X hX
   refine callM (ways_any p _ ((hok.toks ht).ext _) s (hs.ok (by omega)) nn (by omega) (by omega) _ n3 q3) ?_
   rintro v m' ⟨u, i5, rfl, hu, rfl⟩
   simp -implicitDefEqProofs only [↓slp, slb, ↓reduceIte, reduceCtorEq, jA, jE, jF, tfAbMk12, hnb, hT, hG, List.getElem?_concat_length, set_concat_length]
   (repeat revert X); refine wE (And.intro tfAbMk12 (And.intro h0 (And.intro h3 (And.intro h5 (And.intro h12 (And.intro @pI.eq_1 hw)))))) ?_; repeat intro X hX
   refine callMS (B p _ ((hok.toks ht).ext _) s.arm k hs.arm l (by omega) (isLess_ty hl hty) i5 n3 q3 (by omega) (by omega) (by omega) (by omega)) rfl ?_
   rintro v m' ⟨b, i6, n6, q6, rfl, hb2, hcnt2, rfl⟩
   simp -implicitDefEqProofs only [↓slp, slb, ↓reduceIte, reduceCtorEq, jA, jE, jF, tfAbMk12, hnb, hT, hG, List.getElem?_concat_length, set_concat_length, Bk.pv]
   (repeat revert X); refine wE (And.intro tfAbMk12 (And.intro h0 (And.intro h5 h12))) ?_; repeat intro X hX
   refine callM (more_any s .no l (by have := hs.ready; omega) _) ?_
   rintro v m' ⟨rfl, rfl⟩
   refine wS (And.intro tfAbMk12 (And.intro h10 @pI.eq_1)) ?_
   refine callM (ways_any p _ ((hok.toks ht).ext _) (s.more l) ((hs.more l).ok (by omega)) nn (by omega) (by omega) _ n6 q6) ?_
   rintro v m' ⟨w, i7, rfl, hw7, rfl⟩
   simp -implicitDefEqProofs only [↓slp, slb, ↓reduceIte, reduceCtorEq, jA, jE, jF, tfAbMk12, hnb, hT, hG, List.getElem?_concat_length, set_concat_length]
   (repeat (first | refine aReg ?_; simp -implicitDefEqProofs only [↓slp, slb, ↓reduceIte, reduceCtorEq, jA, jE, jF, tfAbMk12, h9, h11, hnb, hT, hG, pI, List.getElem?_concat_length, hi] | apply hX; clear hX X | apply And.intro; focus (first | omega | (repeat' apply And.intro) <;> first | omega | assumption)))
   rw [hI]
   have hadd : (ar ++ [Am.mk (nameS ⟨#[83]⟩ j) b.vars b.eqs u w 0 0]).map Am.pv = ar.map Am.pv ++ [PV.ag [PV.v (Value.string (⟨#[83]⟩ ++ digS j)), PV.sl Own.no (List.map Va.pv b.vars), PV.sl Own.no (List.map Qu.pv b.eqs), PV.sl Own.no (List.map Tr.pv u), PV.sl Own.no (List.map Tr.pv w), PV.v (Value.int IntKind.i64 0), PV.v (Value.int IntKind.i64 0)]] := by
    rw [List.map_append, List.map_singleton, Am.pv_eq]; rfl
   refine ⟨⟨j + 1, ar ++ [Am.mk (nameS ⟨#[83]⟩ j) b.vars b.eqs u w 0 0], .tok mm.nt, (o2.use mm).fresh 7, r ++ [some [PV.v (Value.string (⟨#[83]⟩ ++ digS j)), PV.sl Own.no (List.map Va.pv b.vars), PV.sl Own.no (List.map Qu.pv b.eqs), PV.sl Own.no (List.map Tr.pv u), PV.sl Own.no (List.map Tr.pv w), PV.v (Value.int IntKind.i64 0), PV.v (Value.int IntKind.i64 0)]], i7, n6, q6, hlt, h0, h2, h3, h5, h8, h9, h10, rfl, by simp [hlen], ?_, ht1, g2', ?_, ?_⟩, by omega⟩
   ·refine Chn_snoc hga ⟨l, u, b, w, hl, fun e => hl0 (by omega), hu, hb2, hw7, ?_⟩
    simp [hlen]
   ·have := hcnt.trans hcnt2
    rwa [show j * cB d + cB d = (j + 1) * cB d by rw [Nat.succ_mul]] at this
   ·rw [hadd]
  refine ⟨fun cj => ?_, fun cj => ?_⟩
  ·(refine vE (And.intro h0 h2) ?_; repeat intro X hX)
   refine callM (less_any p _ ((hok.toks ht).ext _) .no outs (by omega) _ n3 q3) ?_
   rintro v m' ⟨l, i4, rfl, hl, rfl⟩
   refine wS aEQ_t ?_
   exact fin _ l i4 hl (fun e => by subst e; simp at cj) h0 h2 h3 h5 h8 h9 h10 h11 rfl
  ·(repeat refine aSkip ?_)
   exact fin _ outs i3 (isLess_refl _) (fun _ => rfl) h0 h2 h3 h5 h8 h9 h10 h11 rfl
 ·have hlt : j = nn := by simp at hb; omega
  (repeat revert X); refine wD (And.intro tfAbMk12 (And.intro h8 (And.intro h9 (And.intro hnb (And.intro hT hG))))) ?_; repeat intro X hX
  refine wQ Tryz.results97 (And.intro tfAbMk12 (And.intro h8 (And.intro hnb (And.intro hT hG)))) ?_
  refine leave_gst hok ht (by simp only [PV.settle, PV.settles, PV.pure, PV.pures]; rfl) ⟨.mk 4 [] sE [] false zE ar 0 0, i3, n3, q3, ?_, ⟨nn, ar, hnn, by omega, hga, rfl⟩, Cnt.le hcnt (Nat.mul_le_mul_right _ (by omega)), rfl⟩
  rw [Qu.pv_eq]; rfl

def tfAbMk13 := And.intro @td_3 (And.intro @zv_3 (And.intro @Tryz.underlying3 (And.intro @td_4 (And.intro @zv_4 (And.intro @Tryz.underlying4 (And.intro @td_5 (And.intro @zv_5 (And.intro @Tryz.underlying5 (And.intro @td_9 (And.intro @zv_9 (And.intro @Tryz.underlying9 (And.intro @td_21 (And.intro @zv_21 (And.intro @Tryz.underlying21 (And.intro @td_22 (And.intro @zv_22 (And.intro @tel_22 (And.intro @Tryz.underlying22 (And.intro @td_44 (And.intro @zv_44 (And.intro @tel_44 (And.intro @Tryz.underlying44 (And.intro @td_35 (And.intro @zv_35 (And.intro @tel_35 (And.intro @Tryz.underlying35 (And.intro @td_36 (And.intro @zv_36 (And.intro @tel_36 (And.intro @Tryz.underlying36 (And.intro @td_38 (And.intro @zv_38 (And.intro @tf_38 (And.intro @td_43 (And.intro @zv_43 (And.intro @tel_43 (And.intro @Tryz.underlying43 (And.intro @td_46 (And.intro @zv_46 (And.intro @tf_46 (And.intro @td_51 (And.intro @zv_51 (And.intro @tf_51 (And.intro @fl_51 (And.intro @td_104 (And.intro @zv_104 (And.intro @tel_104 (And.intro @Tryz.underlying104 (And.intro @td_106 (And.intro @zv_106 (And.intro @tf_106 (And.intro @td_113 (And.intro @zv_113 (And.intro @tf_113 (And.intro @fl_113 (And.intro @td_47 (And.intro @zv_47 (And.intro @tel_47 (And.intro @Tryz.underlying47 (And.intro @td_49 (And.intro @zv_49 (And.intro @tf_49 (And.intro @nk_71 (And.intro @td_71 (And.intro @zv_71 (And.intro @Tryz.underlying71 (And.intro @td_73 (And.intro @zv_73 (And.intro @tf_73 (And.intro @nk_75 (And.intro @td_75 (And.intro @zv_75 (And.intro @Tryz.underlying75 (And.intro @td_77 (And.intro @zv_77 (And.intro @tf_77 (And.intro @td_108 (And.intro @zv_108 (And.intro @tel_108 (And.intro @Tryz.underlying108 (And.intro @td_110 (And.intro @zv_110 (And.intro @tf_110 (And.intro @td_160 (And.intro @zv_160 (And.intro @tf_160 (And.intro @td_118 (And.intro @zv_118 (And.intro @tf_118 (And.intro @td_161 (And.intro @zv_161 (And.intro @tel_161 (And.intro @Tryz.underlying161 (And.intro @Ex.settle_pv (And.intro @Ex.pure_pv (And.intro @Ex.cells_pv (And.intro @Ex.cs.eq_1 (And.intro @On.pv.eq_1 (And.intro @Ty.pv.eq_1 (And.intro @Va.settle_pv (And.intro @Va.pure_pv (And.intro @Va.cells_pv (And.intro @Va.cs.eq_1 (And.intro @Sc.pv.eq_1 (And.intro @gst_nb (And.intro @gst_nt (And.intro @gst_fresh (And.intro @gst_use (And.intro @gst_free (And.intro @gst_alive (And.intro @gst_t (And.intro @gst_g (And.intro @gst_updt (And.intro @gst_updg (And.intro @gst_ext (And.intro @gst_ext2 (And.intro @gst_et (And.intro @gst_eg (And.intro @gst_own (And.intro @gst_own0 (And.intro @gst_ou (And.intro @gst_ou0 (And.intro @GP.tape.eq_1 @GP.gen.eq_1)))))))))))))))))))))))))))))))))))))))))))))))))))))))))))))))))))))))))))))))))))))))))))))))))))))))))))))))))))))))))))

def isGP (p : GP) (m : M) (bs : List (Option (List PV))) (m2 : M) : Prop := ∃ r i n q, m2 = gst p (m.ext (bs ++ r)) i n q
theorem isGP_all {p : GP} {m : M} {bs : List (Option (List PV))} {Q : M → Prop} : (∀ m2, isGP p m bs m2 → Q m2) = ∀ r i n q, Q (gst p (m.ext (bs ++ r)) i n q) :=
 propext ⟨fun h r i n q => h _ ⟨r, i, n, q, rfl⟩, fun h m2 ⟨r, i, n, q, e⟩ => e ▸ h r i n q⟩
theorem isGP_of {p : GP} {m : M} {bs : List (Option (List PV))} {i : Nat} {n q : Int} {bs' : List (Option (List PV))} {r : List (Option (List PV))} (h : bs' = bs ++ r := by rfl) : isGP p m bs (gst p (m.ext bs') i n q) := ⟨r, i, n, q, by rw [h]⟩
def whE (c : Va) (nm : Str) (e : Ex) : Ex := .mk 12 0 0 c.name [nm] [e] 0 0
def vaE (w : Va) : Ex := .mk 4 0 0 w.name [] [] 0 0
theorem whE_pv (c : Va) (nm : Str) (e : Ex) : (whE c nm e).pv = .ag [PV.v (Value.int IntKind.u8 12), PV.v (Value.int IntKind.u8 0), PV.v (Value.int IntKind.i32 0), PV.v (Value.string c.name), PV.sl Own.no [pS nm], PV.sl Own.no [e.pv], PV.v (Value.int IntKind.i64 0), PV.v (Value.int IntKind.i64 0)] := by rw [Ex.pv_eq]; rfl
theorem vaE_pv (w : Va) : (vaE w).pv = .ag [PV.v (Value.int IntKind.u8 4), PV.v (Value.int IntKind.u8 0), PV.v (Value.int IntKind.i32 0), PV.v (Value.string w.name), PV.sl Own.no [], PV.sl Own.no [], PV.v (Value.int IntKind.i64 0), PV.v (Value.int IntKind.i64 0)] := by rw [Ex.pv_eq]; rfl
def defQ (v : Va) (e : Ex) : Qu := .mk 1 [v.name] sE [] false e [] 0 0
def mgE (c w : Va) (e2 k1 : Ex) : Ex := .mk 13 0 0 c.name [sGreen, sRed, sBlue] [whE c sGreen e2, vaE w, k1] 0 0
theorem defQ_pv (v : Va) (e : Ex) : (defQ v e).pv = .ag [PV.v (Value.int IntKind.u8 1), PV.sl Own.no [PV.v (Value.string v.name)], PV.v (Value.string { data := #[] }), PV.sl Own.no [], PV.v (Value.bool false), PV.v (Value.int IntKind.u8 e.kind), PV.v (Value.int IntKind.u8 e.op), PV.v (Value.int IntKind.i32 e.n), PV.v (Value.string e.name), PV.sl Own.no (List.map pS e.names), PV.sl Own.no (List.map Ex.pv e.kids), PV.v (Value.int IntKind.i64 e.line), PV.v (Value.int IntKind.i64 e.col), PV.sl Own.no [], PV.v (Value.int IntKind.i64 0), PV.v (Value.int IntKind.i64 0)] := by rw [Qu.pv_eq]; rfl
def clVa (nm : Str) (t : Ty) (l : List On) : Va := ⟨nm, t, l, false, zE, 0, 0⟩
def GSamp (n : Nat) (s : Sc) (c w z : Va) (q1 q2 q3 : Qu) : Prop := ∃ (e1 e2 e3 k1 kp : Ex), c = mkVa (nameS ⟨#[99]⟩ (n + 1)) tyC ∧ w = clVa (nameS ⟨#[119]⟩ (n + 2)) tyI [⟨sRed, c.name⟩] ∧ z = mkVa (nameS ⟨#[122]⟩ (n + 3)) tyI ∧ GEx 2 s tyI false e1 ∧ GEx 2 s tyI false e2 ∧ GEx 3 s tyC true e3 ∧ isConst tyI k1 ∧ (kp = whE c sRed e1 ∨ ∃ k2, isConst tyI k2 ∧ kp = Ex.two 9 0 k2 (Ex.two 7 3 (vaE w) (whE c sRed e1))) ∧ q1 = defQ c e3 ∧ q2 = defQ w kp ∧ q3 = defQ z (mgE c w e2 k1)
set_option maxRecDepth 20000 in
set_option maxHeartbeats 8000000 in
theorem sampled_any (d : Nat) (hd : d < 1000) (t : Int) (RE : Int → RET) (E : EqsC d t RE) (p : GP) (m : M) (hok : p.ok m) (s : Sc) (k : Nat) (hs : s.le k) (outs : List Va) (ho : outs.length ≤ 3) (hty : ∀ v ∈ outs, isTy v.t) (i n : Nat) (q : Int) (hk : k + 3 + cE d q ≤ 2 ^ 30) (hn : n + 3 + cE d q ≤ 2 ^ 50) (hqt : q ≤ t) (hq : q ≤ 20) (hq2 : -(2 : Int) ^ 50 ≤ q - cE d q) : ACalls Tryz.prog 100 [.bp p.gp 0, s.pv, .sl .no (outs.map Va.pv), pI d] (gst p m i n q) (fun v m' => ∃ (c w z : Va) (q1 q2 q3 : Qu) (l : List Qu) (vs : List Va) (i' n' : Nat) (q' : Int), v = .tp [.sl .no ((q1 :: q2 :: q3 :: l).map Qu.pv), .sl .no ((c :: w :: z :: vs).map Va.pv)] ∧ GSamp n s c w z q1 q2 q3 ∧ RE p.subs (n + 3) n' (s.more [c, z]) outs l vs ∧ l.length ≤ 3 + cE d q ∧ vs.length ≤ cE d q ∧ Cnt (3 + cE d q) n q n' q' ∧ m' = gst p m i' n' q') := by
 have hG := hok.gp
 have hT := hok.tp
 refine eN [11, 13, 14, 15, 16] Tryz.func100 ?_
 (repeat revert X); refine wE tfAbMk13 ?_; repeat intro X hX
 refine callM (name_any p _ hok ⟨#[99]⟩ (by decide) i n q (by omega)) ?_
 rintro v m' ⟨rfl, rfl⟩
 refine wS aEQ_t ?_
 refine callE (tyC_any _) ?_
 refine wS tfAbMk13 ?_
 (repeat (first | refine aSeq fun X hX => ?_ | (apply hX; clear hX X)))
 have join1 : ∀ (c w : Va) (hc : c = mkVa (nameS ⟨#[99]⟩ (n + 1)) tyC) (hw : w = clVa (nameS ⟨#[119]⟩ (n + 1 + 1)) tyI [⟨sRed, c.name⟩]) (f : F) (i2 : Nat), f 0 = .bp p.gp 0 → f 2 = .sl .no (outs.map Va.pv) → f 3 = pI d → f 5 = .ep [.sl .no (s.ready.map Va.pv), .sl .no (s.all.map Va.pv), .sl .no (s.lasts.map Va.pv)] → f 10 = .ep c.cs → f 11 = .bp m.nb 0 → X f (gst p (m.ext [some [PV.v (Value.string w.name), PV.v (Value.int IntKind.u8 tyI.kind), PV.v (Value.string tyI.name), PV.sl Own.full [PV.ag [PV.v (Value.string sRed), PV.v (Value.string c.name)]], PV.v (Value.bool false), PV.v (Value.int IntKind.u8 0), PV.v (Value.int IntKind.u8 0), PV.v (Value.int IntKind.i32 0), PV.v (Value.string { data := #[] }), PV.sl Own.full [], PV.sl Own.full [], PV.v (Value.int IntKind.i64 0), PV.v (Value.int IntKind.i64 0), PV.v (Value.int IntKind.i64 0), PV.v (Value.int IntKind.i64 0)]]) i2 ((n + 1 + 1 : Nat) : Int) q) := by
  intro c w hc hw f i2 h0 h2 h3 h5 h10 h11
  apply hX; clear hX X
  (repeat revert X); refine wE h0 ?_; repeat intro X hX
  refine callM (name_any p _ (hok.ext _) ⟨#[122]⟩ (by decide) i2 (n + 1 + 1) q (by omega)) ?_
  rintro v m' ⟨rfl, rfl⟩
  refine wS aEQ_t ?_
  refine callE (tyI_any _) ?_
  refine wS tfAbMk13 ?_
  (repeat (first | refine aSeq fun X hX => ?_ | (apply hX; clear hX X)))
  have join2 : ∀ (z : Va) (hz : z = mkVa (nameS ⟨#[122]⟩ (n + 1 + 1 + 1)) tyI) (e1 : Ex) (he1 : GEx 2 s tyI false e1) (f : F) (i2 : Nat), f 0 = .bp p.gp 0 → f 2 = .sl .no (outs.map Va.pv) → f 3 = pI d → f 5 = .ep [.sl .no (s.ready.map Va.pv), .sl .no (s.all.map Va.pv), .sl .no (s.lasts.map Va.pv)] → f 10 = .ep c.cs → f 11 = .bp m.nb 0 → f 12 = .ep z.cs → f 13 = .bp (m.nb + 1) 0 → X f (gst p (m.ext [some [PV.v (Value.string w.name), PV.v (Value.int IntKind.u8 tyI.kind), PV.v (Value.string tyI.name), PV.sl Own.full [PV.ag [PV.v (Value.string sRed), PV.v (Value.string c.name)]], PV.v (Value.bool false), PV.v (Value.int IntKind.u8 0), PV.v (Value.int IntKind.u8 0), PV.v (Value.int IntKind.i32 0), PV.v (Value.string { data := #[] }), PV.sl Own.full [], PV.sl Own.full [], PV.v (Value.int IntKind.i64 0), PV.v (Value.int IntKind.i64 0), PV.v (Value.int IntKind.i64 0), PV.v (Value.int IntKind.i64 0)], some [PV.v (Value.int IntKind.u8 12), PV.v (Value.int IntKind.u8 0), PV.v (Value.int IntKind.i32 0), PV.v (Value.string c.name), PV.sl Own.full [pS sRed], PV.sl Own.full [e1.pv], PV.v (Value.int IntKind.i64 0), PV.v (Value.int IntKind.i64 0)]]) i2 ((n + 1 + 1 + 1 : Nat) : Int) q) := by
   intro z hz e1 he1 f i2 h0 h2 h3 h5 h10 h11 h12 h13
   apply hX; clear hX X
   (repeat refine aSeq fun X hX => ?_)
   have join3 : ∀ (e2 : Ex) (he2 : GEx 2 s tyI false e2) (f : F) (i2 : Nat), f 0 = .bp p.gp 0 → f 2 = .sl .no (outs.map Va.pv) → f 3 = pI d → f 5 = .ep [.sl .no (s.ready.map Va.pv), .sl .no (s.all.map Va.pv), .sl .no (s.lasts.map Va.pv)] → f 10 = .ep c.cs → f 11 = .bp m.nb 0 → f 12 = .ep z.cs → f 13 = .bp (m.nb + 1) 0 → f 14 = .bp (m.nb + 2) 0 → X f (gst p (m.ext [some [PV.v (Value.string w.name), PV.v (Value.int IntKind.u8 tyI.kind), PV.v (Value.string tyI.name), PV.sl Own.full [PV.ag [PV.v (Value.string sRed), PV.v (Value.string c.name)]], PV.v (Value.bool false), PV.v (Value.int IntKind.u8 0), PV.v (Value.int IntKind.u8 0), PV.v (Value.int IntKind.i32 0), PV.v (Value.string { data := #[] }), PV.sl Own.full [], PV.sl Own.full [], PV.v (Value.int IntKind.i64 0), PV.v (Value.int IntKind.i64 0), PV.v (Value.int IntKind.i64 0), PV.v (Value.int IntKind.i64 0)], some [PV.v (Value.int IntKind.u8 12), PV.v (Value.int IntKind.u8 0), PV.v (Value.int IntKind.i32 0), PV.v (Value.string c.name), PV.sl Own.full [pS sRed], PV.sl Own.full [e1.pv], PV.v (Value.int IntKind.i64 0), PV.v (Value.int IntKind.i64 0)], some [PV.v (Value.int IntKind.u8 12), PV.v (Value.int IntKind.u8 0), PV.v (Value.int IntKind.i32 0), PV.v (Value.string c.name), PV.sl Own.full [pS sGreen], PV.sl Own.full [e2.pv], PV.v (Value.int IntKind.i64 0), PV.v (Value.int IntKind.i64 0)]]) i2 ((n + 1 + 1 + 1 : Nat) : Int) q) := by
    intro e2 he2 f i2 h0 h2 h3 h5 h10 h11 h12 h13 h14
    apply hX; clear hX X
    (repeat refine aSeq fun X hX => ?_)
    have join4 : ∀ (k1 : Ex) (hk1 : isConst tyI k1) (f : F) (i2 : Nat), f 0 = .bp p.gp 0 → f 2 = .sl .no (outs.map Va.pv) → f 3 = pI d → f 5 = .ep [.sl .no (s.ready.map Va.pv), .sl .no (s.all.map Va.pv), .sl .no (s.lasts.map Va.pv)] → f 10 = .ep c.cs → f 11 = .bp m.nb 0 → f 12 = .ep z.cs → f 13 = .bp (m.nb + 1) 0 → f 14 = .bp (m.nb + 2) 0 → f 15 = .bp (m.nb + 3) 0 → X f (gst p (m.ext [some [PV.v (Value.string w.name), PV.v (Value.int IntKind.u8 tyI.kind), PV.v (Value.string tyI.name), PV.sl Own.full [PV.ag [PV.v (Value.string sRed), PV.v (Value.string c.name)]], PV.v (Value.bool false), PV.v (Value.int IntKind.u8 0), PV.v (Value.int IntKind.u8 0), PV.v (Value.int IntKind.i32 0), PV.v (Value.string { data := #[] }), PV.sl Own.full [], PV.sl Own.full [], PV.v (Value.int IntKind.i64 0), PV.v (Value.int IntKind.i64 0), PV.v (Value.int IntKind.i64 0), PV.v (Value.int IntKind.i64 0)], some [PV.v (Value.int IntKind.u8 12), PV.v (Value.int IntKind.u8 0), PV.v (Value.int IntKind.i32 0), PV.v (Value.string c.name), PV.sl Own.full [pS sRed], PV.sl Own.full [e1.pv], PV.v (Value.int IntKind.i64 0), PV.v (Value.int IntKind.i64 0)], some [PV.v (Value.int IntKind.u8 12), PV.v (Value.int IntKind.u8 0), PV.v (Value.int IntKind.i32 0), PV.v (Value.string c.name), PV.sl Own.full [pS sGreen], PV.sl Own.full [e2.pv], PV.v (Value.int IntKind.i64 0), PV.v (Value.int IntKind.i64 0)], some [PV.v (Value.int IntKind.u8 13), PV.v (Value.int IntKind.u8 0), PV.v (Value.int IntKind.i32 0), PV.v (Value.string c.name), PV.sl Own.full [pS sGreen, pS sRed, pS sBlue], PV.sl Own.full [(whE c sGreen e2).pv, (vaE w).pv, k1.pv], PV.v (Value.int IntKind.i64 0), PV.v (Value.int IntKind.i64 0)]]) i2 ((n + 1 + 1 + 1 : Nat) : Int) q) := by
     intro k1 hk1 f i2 h0 h2 h3 h5 h10 h11 h12 h13 h14 h15
     apply hX; clear hX X
     (repeat refine aSeq fun X hX => ?_)
     have join5 : ∀ (k2 : Ex) (hk2 : isConst tyI k2) (kp : Ex) (hkp : kp = Ex.two 9 0 k2 (Ex.two 7 3 (vaE w) (whE c sRed e1))) (f : F) (i2 : Nat), f 0 = .bp p.gp 0 → f 2 = .sl .no (outs.map Va.pv) → f 3 = pI d → f 5 = .ep [.sl .no (s.ready.map Va.pv), .sl .no (s.all.map Va.pv), .sl .no (s.lasts.map Va.pv)] → f 10 = .ep c.cs → f 11 = .bp m.nb 0 → f 12 = .ep z.cs → f 13 = .bp (m.nb + 1) 0 → f 15 = .bp (m.nb + 3) 0 → f 16 = .bp (m.nb + 4) 0 → X f (gst p (m.ext [some [PV.v (Value.string w.name), PV.v (Value.int IntKind.u8 tyI.kind), PV.v (Value.string tyI.name), PV.sl Own.full [PV.ag [PV.v (Value.string sRed), PV.v (Value.string c.name)]], PV.v (Value.bool false), PV.v (Value.int IntKind.u8 0), PV.v (Value.int IntKind.u8 0), PV.v (Value.int IntKind.i32 0), PV.v (Value.string { data := #[] }), PV.sl Own.full [], PV.sl Own.full [], PV.v (Value.int IntKind.i64 0), PV.v (Value.int IntKind.i64 0), PV.v (Value.int IntKind.i64 0), PV.v (Value.int IntKind.i64 0)], some [PV.v (Value.int IntKind.u8 12), PV.v (Value.int IntKind.u8 0), PV.v (Value.int IntKind.i32 0), PV.v (Value.string c.name), PV.sl Own.full [pS sRed], PV.sl Own.full [e1.pv], PV.v (Value.int IntKind.i64 0), PV.v (Value.int IntKind.i64 0)], some [PV.v (Value.int IntKind.u8 12), PV.v (Value.int IntKind.u8 0), PV.v (Value.int IntKind.i32 0), PV.v (Value.string c.name), PV.sl Own.full [pS sGreen], PV.sl Own.full [e2.pv], PV.v (Value.int IntKind.i64 0), PV.v (Value.int IntKind.i64 0)], some [PV.v (Value.int IntKind.u8 13), PV.v (Value.int IntKind.u8 0), PV.v (Value.int IntKind.i32 0), PV.v (Value.string c.name), PV.sl Own.full [pS sGreen, pS sRed, pS sBlue], PV.sl Own.full [(whE c sGreen e2).pv, (vaE w).pv, k1.pv], PV.v (Value.int IntKind.i64 0), PV.v (Value.int IntKind.i64 0)], some [PV.v (Value.int IntKind.u8 kp.kind), PV.v (Value.int IntKind.u8 kp.op), PV.v (Value.int IntKind.i32 kp.n), PV.v (Value.string kp.name), PV.sl Own.no (kp.names.map pS), PV.sl Own.no (kp.kids.map Ex.pv), PV.v (Value.int IntKind.i64 kp.line), PV.v (Value.int IntKind.i64 kp.col)]]) i2 ((n + 1 + 1 + 1 : Nat) : Int) q) := by
      intro k2 hk2 kp hkp f i2 h0 h2 h3 h5 h10 h11 h12 h13 h15 h16
      apply hX; clear hX X
      (repeat revert X); refine wE (And.intro tfAbMk13 (And.intro h0 hG)) ?_; repeat intro X hX
      refine callM (next_any p _ (hok.ext _) 2 (by omega) _ _ q) ?_
      rintro v m' ⟨r, i5, rfl, ⟨hr0, hr1⟩, rfl⟩
      refine wS aEQ_t ?_
      apply hX; clear hX X
      have join6 : ∀ (kp : Ex) (oo : Own) (hkp : kp = whE c sRed e1 ∨ ∃ k2, isConst tyI k2 ∧ kp = Ex.two 9 0 k2 (Ex.two 7 3 (vaE w) (whE c sRed e1))) (f : F) (i2 : Nat), f 0 = .bp p.gp 0 → f 2 = .sl .no (outs.map Va.pv) → f 3 = pI d → f 5 = .ep [.sl .no (s.ready.map Va.pv), .sl .no (s.all.map Va.pv), .sl .no (s.lasts.map Va.pv)] → f 10 = .ep c.cs → f 11 = .bp m.nb 0 → f 12 = .ep z.cs → f 15 = .bp (m.nb + 3) 0 → f 16 = .bp (m.nb + 4) 0 → X f (gst p (m.ext [some [PV.v (Value.string w.name), PV.v (Value.int IntKind.u8 tyI.kind), PV.v (Value.string tyI.name), PV.sl Own.full [PV.ag [PV.v (Value.string sRed), PV.v (Value.string c.name)]], PV.v (Value.bool false), PV.v (Value.int IntKind.u8 0), PV.v (Value.int IntKind.u8 0), PV.v (Value.int IntKind.i32 0), PV.v (Value.string { data := #[] }), PV.sl Own.full [], PV.sl Own.full [], PV.v (Value.int IntKind.i64 0), PV.v (Value.int IntKind.i64 0), PV.v (Value.int IntKind.i64 0), PV.v (Value.int IntKind.i64 0)], some [PV.v (Value.int IntKind.u8 12), PV.v (Value.int IntKind.u8 0), PV.v (Value.int IntKind.i32 0), PV.v (Value.string c.name), PV.sl Own.full [pS sRed], PV.sl Own.full [e1.pv], PV.v (Value.int IntKind.i64 0), PV.v (Value.int IntKind.i64 0)], some [PV.v (Value.int IntKind.u8 12), PV.v (Value.int IntKind.u8 0), PV.v (Value.int IntKind.i32 0), PV.v (Value.string c.name), PV.sl Own.full [pS sGreen], PV.sl Own.full [e2.pv], PV.v (Value.int IntKind.i64 0), PV.v (Value.int IntKind.i64 0)], some [PV.v (Value.int IntKind.u8 13), PV.v (Value.int IntKind.u8 0), PV.v (Value.int IntKind.i32 0), PV.v (Value.string c.name), PV.sl Own.full [pS sGreen, pS sRed, pS sBlue], PV.sl Own.full [(whE c sGreen e2).pv, (vaE w).pv, k1.pv], PV.v (Value.int IntKind.i64 0), PV.v (Value.int IntKind.i64 0)], some [PV.v (Value.int IntKind.u8 kp.kind), PV.v (Value.int IntKind.u8 kp.op), PV.v (Value.int IntKind.i32 kp.n), PV.v (Value.string kp.name), PV.sl oo (kp.names.map pS), PV.sl oo (kp.kids.map Ex.pv), PV.v (Value.int IntKind.i64 kp.line), PV.v (Value.int IntKind.i64 kp.col)]]) i2 ((n + 1 + 1 + 1 : Nat) : Int) q) := by
       intro kp oo hkp f i2 h0 h2 h3 h5 h10 h11 h12 h15 h16
       apply hX; clear hX X
       (repeat refine aSeq fun X hX => ?_)
       refine aDrw (isGP p m [some [PV.v (Value.string w.name), PV.v (Value.int IntKind.u8 tyI.kind), PV.v (Value.string tyI.name), PV.sl Own.full [PV.ag [PV.v (Value.string sRed), PV.v (Value.string c.name)]], PV.v (Value.bool false), PV.v (Value.int IntKind.u8 0), PV.v (Value.int IntKind.u8 0), PV.v (Value.int IntKind.i32 0), PV.v (Value.string { data := #[] }), PV.sl Own.full [], PV.sl Own.full [], PV.v (Value.int IntKind.i64 0), PV.v (Value.int IntKind.i64 0), PV.v (Value.int IntKind.i64 0), PV.v (Value.int IntKind.i64 0)], some [PV.v (Value.int IntKind.u8 12), PV.v (Value.int IntKind.u8 0), PV.v (Value.int IntKind.i32 0), PV.v (Value.string c.name), PV.sl Own.full [pS sRed], PV.sl Own.full [e1.pv], PV.v (Value.int IntKind.i64 0), PV.v (Value.int IntKind.i64 0)], some [PV.v (Value.int IntKind.u8 12), PV.v (Value.int IntKind.u8 0), PV.v (Value.int IntKind.i32 0), PV.v (Value.string c.name), PV.sl Own.full [pS sGreen], PV.sl Own.full [e2.pv], PV.v (Value.int IntKind.i64 0), PV.v (Value.int IntKind.i64 0)], some [PV.v (Value.int IntKind.u8 13), PV.v (Value.int IntKind.u8 0), PV.v (Value.int IntKind.i32 0), PV.v (Value.string c.name), PV.sl Own.full [pS sGreen, pS sRed, pS sBlue], PV.sl Own.full [(whE c sGreen e2).pv, (vaE w).pv, k1.pv], PV.v (Value.int IntKind.i64 0), PV.v (Value.int IntKind.i64 0)], some [PV.v (Value.int IntKind.u8 kp.kind), PV.v (Value.int IntKind.u8 kp.op), PV.v (Value.int IntKind.i32 kp.n), PV.v (Value.string kp.name), PV.sl oo (kp.names.map pS), PV.sl oo (kp.kids.map Ex.pv), PV.v (Value.int IntKind.i64 kp.line), PV.v (Value.int IntKind.i64 kp.col)]]) (by kernel_rfl) isGP_of ?_
       refine wS (And.intro tfAbMk13 (And.intro h0 (And.intro h5 h10))) ?_
       refine callE (tyC_any _) ?_
       refine ⟨isGP_of, ?_⟩
       refine wS tfAbMk13 ?_
       refine callM (expr_any 3 (by omega) p _ (hok.ext _) s (hs.ok (by omega)) tyC (.inr (.inr rfl)) true _ _ q) ?_
       rintro v m' ⟨e3, i3, rfl, he3, rfl⟩
       refine ⟨isGP_of, ?_⟩
       simp -implicitDefEqProofs only [↓slp, slb, ↓reduceIte, reduceCtorEq, jA, jB, jC, jD, jE, jF, tfAbMk13, h11, h12, h15, h16, hT, hG, isGP_all]
       have join7 : ∀ (q1 q2 q3 : Qu) (hq1 : q1 = defQ c e3) (hq2' : q2 = defQ w kp) (hq3 : q3 = defQ z (mgE c w e2 k1)) (f : F), f 0 = .bp p.gp 0 → f 2 = .sl .no (outs.map Va.pv) → f 3 = pI d → f 5 = .ep [.sl .no (s.ready.map Va.pv), .sl .no (s.all.map Va.pv), .sl .no (s.lasts.map Va.pv)] → f 10 = .ep c.cs → f 11 = .bp m.nb 0 → f 12 = .ep z.cs → f 17 = .sl .full [q1.pv, q2.pv, q3.pv] → X f (gst p (m.ext [some [PV.v (Value.string w.name), PV.v (Value.int IntKind.u8 tyI.kind), PV.v (Value.string tyI.name), PV.sl Own.full [PV.ag [PV.v (Value.string sRed), PV.v (Value.string c.name)]], PV.v (Value.bool false), PV.v (Value.int IntKind.u8 0), PV.v (Value.int IntKind.u8 0), PV.v (Value.int IntKind.i32 0), PV.v (Value.string { data := #[] }), PV.sl Own.full [], PV.sl Own.full [], PV.v (Value.int IntKind.i64 0), PV.v (Value.int IntKind.i64 0), PV.v (Value.int IntKind.i64 0), PV.v (Value.int IntKind.i64 0)], some [PV.v (Value.int IntKind.u8 12), PV.v (Value.int IntKind.u8 0), PV.v (Value.int IntKind.i32 0), PV.v (Value.string c.name), PV.sl Own.full [pS sRed], PV.sl Own.full [e1.pv], PV.v (Value.int IntKind.i64 0), PV.v (Value.int IntKind.i64 0)], some [PV.v (Value.int IntKind.u8 12), PV.v (Value.int IntKind.u8 0), PV.v (Value.int IntKind.i32 0), PV.v (Value.string c.name), PV.sl Own.full [pS sGreen], PV.sl Own.full [e2.pv], PV.v (Value.int IntKind.i64 0), PV.v (Value.int IntKind.i64 0)], some [PV.v (Value.int IntKind.u8 13), PV.v (Value.int IntKind.u8 0), PV.v (Value.int IntKind.i32 0), PV.v (Value.string c.name), PV.sl Own.full [pS sGreen, pS sRed, pS sBlue], PV.sl Own.full [(whE c sGreen e2).pv, (vaE w).pv, k1.pv], PV.v (Value.int IntKind.i64 0), PV.v (Value.int IntKind.i64 0)], some [PV.v (Value.int IntKind.u8 kp.kind), PV.v (Value.int IntKind.u8 kp.op), PV.v (Value.int IntKind.i32 kp.n), PV.v (Value.string kp.name), PV.sl oo (kp.names.map pS), PV.sl oo (kp.kids.map Ex.pv), PV.v (Value.int IntKind.i64 kp.line), PV.v (Value.int IntKind.i64 kp.col)]]) i3 ((n + 1 + 1 + 1 : Nat) : Int) q) := by
        intro q1 q2 q3 hq1 hq2' hq3 f h0 h2 h3 h5 h10 h11 h12 h17
        apply hX; clear hX X
        (repeat revert X); refine wE (And.intro tfAbMk13 (And.intro h0 (And.intro h5 (And.intro h10 h12)))) ?_; repeat intro X hX
        refine callM (more_any s .full [c, z] (by have := hs.ready; simp only [List.length_cons, List.length_nil]; omega) _) ?_
        rintro v m' ⟨rfl, rfl⟩
        refine wS (And.intro tfAbMk13 (And.intro h2 h3)) ?_
        refine callM (E p _ (hok.ext _) (s.more [c, z]) (k + 2) (hs.more [c, z]) outs ho hty _ (n + 1 + 1 + 1) q (by omega) (by omega) hqt hq hq2) ?_
        rintro v m' ⟨l, vs, i7, n7, q7, rfl, hre, hl1, hl2, hcnt, rfl⟩
        refine wS tfAbMk13 ?_
        (repeat (first | refine aSeq fun X hX => ?_ | refine aReg ?_; simp -implicitDefEqProofs only [↓slp, slb, ↓reduceIte, jA, jB, jC, jE, jF, tfAbMk13, h10, h11, h12, hT, hG] | apply hX; clear hX X))
        have hm1 : 3 ≤ maxLen := by unfold maxLen; omega
        refine ⟨hm1, ?_⟩
        have hce : cE d q ≤ 2 ^ 30 := by omega
        have join8 : ∀ (f : F), f 17 = .sl .full [q1.pv, q2.pv, q3.pv] → f 18 = .sl .no (l.map Qu.pv) → f 19 = .sl .no (vs.map Va.pv) → f 20 = .sl (.tok m.nt) [c.pv, w.pv, z.pv] → X f (gst p ((m.fresh 15).ext [some [PV.v (Value.string w.name), PV.v (Value.int IntKind.u8 tyI.kind), PV.v (Value.string tyI.name), PV.sl Own.full [PV.ag [PV.v (Value.string sRed), PV.v (Value.string c.name)]], PV.v (Value.bool false), PV.v (Value.int IntKind.u8 0), PV.v (Value.int IntKind.u8 0), PV.v (Value.int IntKind.i32 0), PV.v (Value.string { data := #[] }), PV.sl Own.full [], PV.sl Own.full [], PV.v (Value.int IntKind.i64 0), PV.v (Value.int IntKind.i64 0), PV.v (Value.int IntKind.i64 0), PV.v (Value.int IntKind.i64 0)], some [PV.v (Value.int IntKind.u8 12), PV.v (Value.int IntKind.u8 0), PV.v (Value.int IntKind.i32 0), PV.v (Value.string c.name), PV.sl Own.full [pS sRed], PV.sl Own.full [e1.pv], PV.v (Value.int IntKind.i64 0), PV.v (Value.int IntKind.i64 0)], some [PV.v (Value.int IntKind.u8 12), PV.v (Value.int IntKind.u8 0), PV.v (Value.int IntKind.i32 0), PV.v (Value.string c.name), PV.sl Own.full [pS sGreen], PV.sl Own.full [e2.pv], PV.v (Value.int IntKind.i64 0), PV.v (Value.int IntKind.i64 0)], some [PV.v (Value.int IntKind.u8 13), PV.v (Value.int IntKind.u8 0), PV.v (Value.int IntKind.i32 0), PV.v (Value.string c.name), PV.sl Own.full [pS sGreen, pS sRed, pS sBlue], PV.sl Own.full [(whE c sGreen e2).pv, (vaE w).pv, k1.pv], PV.v (Value.int IntKind.i64 0), PV.v (Value.int IntKind.i64 0)], some [PV.v (Value.int IntKind.u8 kp.kind), PV.v (Value.int IntKind.u8 kp.op), PV.v (Value.int IntKind.i32 kp.n), PV.v (Value.string kp.name), PV.sl oo (kp.names.map pS), PV.sl oo (kp.kids.map Ex.pv), PV.v (Value.int IntKind.i64 kp.line), PV.v (Value.int IntKind.i64 kp.col)]]) i7 (n7 : Int) q7) := by
         intro f h17 h18 h19 h20
         apply hX; clear hX X
         have hzc : ∀ x : Qu, x.pv.cells.length = 16 := fun x => by rw [Qu.cells_pv]; rfl
         have hvc : ∀ x : Va, x.pv.cells.length = 15 := fun x => rfl
         have hql := qu_len l
         have hvl := va_len vs
         have hm2 : 3 + l.length ≤ maxLen := by unfold maxLen; omega
         have hm3 : 3 + vs.length ≤ maxLen := by unfold maxLen; omega
         have t1 : Toks m (m.fresh 15) := (Toks.refl m).use (o := .full) (s := 15) (s' := 15) Mine.full
         have g1 : Mine m (m.fresh 15) (.tok m.nt) 15 := Mine.new (o := .full) (Toks.refl m) 15
         have t2 : Toks m ((m.fresh 15).fresh 16) := t1.use (o := .full) (s := 16) (s' := 16) Mine.full
         have g2 : Mine m ((m.fresh 15).fresh 16) (.tok m.nt) 15 := g1.other (o := .full) (s := 16) (fun _ h => by cases h)
         have t3 := t2.use (o := .tok m.nt) (s := 15) g2
         have ha : ((m.fresh 15).fresh 16).alive m.nt 15 := g2.free
         (repeat (first | refine aSeq fun X hX => ?_ | refine aReg ?_; simp -implicitDefEqProofs only [↓slp, slb, ↓reduceIte, jA, jB, jF, tfAbMk13, h17, h18, h19, h20]))
         refine ⟨⟨⟨hzc _, hzc _, hzc _⟩, hql, hm2, by omega⟩, ⟨ha, hvl, hm3, by omega⟩, ?_⟩
         apply hX; clear hX X
         (repeat refine aRet ?_)
         refine wQ Tryz.results100 aEQ_t ?_
         refine leave_gst hok t3 rfl ⟨c, w, z, q1, q2, q3, l, vs, i7, n7, q7, rfl, ⟨e1, e2, e3, k1, kp, hc, hw, hz, he1, he2, he3, hk1, hkp, hq1, hq2', hq3⟩, hre, hl1, hl2, ?_, rfl⟩
         have := hcnt.n; have := hcnt.q0; have := hcnt.q1
         exact ⟨by omega, by omega, by omega⟩
        refine join8 _ ?_ ?_ ?_ ?_
        ·exact h17
        ·rfl
        ·rfl
        ·rw [hw]; rfl
       refine join7 (defQ c e3) (defQ w kp) (defQ z (mgE c w e2 k1)) rfl rfl rfl _ ?_ ?_ ?_ ?_ ?_ ?_ ?_ ?_
       ·exact h0
       ·exact h2
       ·exact h3
       ·exact h5
       ·exact h10
       ·exact h11
       ·exact h12
       ·rw [defQ_pv, defQ_pv, defQ_pv]; rfl
      cases c0 : (r == 0) with
      | true =>
       refine vE (And.intro tfAbMk13 (And.intro h13 (And.intro h16 (And.intro hT hG)))) ?_; repeat intro X hX
       refine join6 (whE c sRed e1) .full (.inl rfl) _ _ h0 h2 h3 h5 h10 h11 h12 h15 h16
      | false =>
       refine vE aEQ_t ?_; repeat intro X hX
       refine join6 kp .no (.inr ⟨k2, hk2, hkp⟩) _ _ h0 h2 h3 h5 h10 h11 h12 h15 h16
     refine aFltN 9 (isGP p m [some [PV.v (Value.string w.name), PV.v (Value.int IntKind.u8 tyI.kind), PV.v (Value.string tyI.name), PV.sl Own.full [PV.ag [PV.v (Value.string sRed), PV.v (Value.string c.name)]], PV.v (Value.bool false), PV.v (Value.int IntKind.u8 0), PV.v (Value.int IntKind.u8 0), PV.v (Value.int IntKind.i32 0), PV.v (Value.string { data := #[] }), PV.sl Own.full [], PV.sl Own.full [], PV.v (Value.int IntKind.i64 0), PV.v (Value.int IntKind.i64 0), PV.v (Value.int IntKind.i64 0), PV.v (Value.int IntKind.i64 0)], some [PV.v (Value.int IntKind.u8 12), PV.v (Value.int IntKind.u8 0), PV.v (Value.int IntKind.i32 0), PV.v (Value.string c.name), PV.sl Own.full [pS sRed], PV.sl Own.full [e1.pv], PV.v (Value.int IntKind.i64 0), PV.v (Value.int IntKind.i64 0)], some [PV.v (Value.int IntKind.u8 12), PV.v (Value.int IntKind.u8 0), PV.v (Value.int IntKind.i32 0), PV.v (Value.string c.name), PV.sl Own.full [pS sGreen], PV.sl Own.full [e2.pv], PV.v (Value.int IntKind.i64 0), PV.v (Value.int IntKind.i64 0)], some [PV.v (Value.int IntKind.u8 13), PV.v (Value.int IntKind.u8 0), PV.v (Value.int IntKind.i32 0), PV.v (Value.string c.name), PV.sl Own.full [pS sGreen, pS sRed, pS sBlue], PV.sl Own.full [(whE c sGreen e2).pv, (vaE w).pv, k1.pv], PV.v (Value.int IntKind.i64 0), PV.v (Value.int IntKind.i64 0)]]) (by simp only [List.length_cons, List.length_nil]; omega) (by kernel_rfl) isGP_of ?_
     simp -implicitDefEqProofs only [↓slp, slb, ↓reduceIte, jB, jF, tfAbMk13, h0, hT, hG, List.getElem_cons_succ, List.getElem_cons_zero, List.getLast_cons_cons, List.getLast_singleton, List.dropLast_singleton]
     refine ⟨?_, ?_⟩
     ·skip
      refine ⟨isGP_of, ?_⟩
      refine callE (tyI_any _) ?_
      refine ⟨isGP_of, ?_⟩
      refine wS tfAbMk13 ?_
      refine callM (constant_any p _ (by first | exact hok | exact hok.ext _) tyI (.inl rfl) _ _ q) ?_
      rintro v m' ⟨k2, i3, rfl, hk2, rfl⟩
      refine ⟨isGP_of, ?_⟩
      simp -implicitDefEqProofs only [↓slp, slb, ↓reduceIte, reduceCtorEq, jA, jB, jD, jE, jF, tfAbMk13, h11, h13, isGP_all, hT, hG]
      refine callMS (two_any 7 3 (vaE w) (whE c sRed e1) _) (by rw [vaE_pv, whE_pv]; rfl) ?_
      rintro v m' ⟨rfl, rfl⟩
      refine ⟨isGP_of, ?_⟩
      refine wS aEQ_t ?_
      refine callM (two_any 9 0 k2 (Ex.two 7 3 (vaE w) (whE c sRed e1)) _) ?_
      rintro v m' ⟨rfl, rfl⟩
      refine ⟨isGP_of, ?_⟩
      refine wS (And.intro tfAbMk13 (And.intro hT hG)) ?_
      refine ⟨isGP_of, ?_⟩
      refine join5 k2 hk2 _ rfl _ _ h0 h2 h3 h5 h10 h11 h12 h13 h15 rfl
     ·skip
      refine callE (tyI_any _) ?_
      refine ⟨isGP_of, ?_⟩
      refine wS (And.intro tfAbMk13 (And.intro hT hG)) ?_
      refine ⟨?_, ?_⟩
      ·skip
       refine ⟨isGP_of, ?_⟩
       refine callM (constant_any p _ (by first | exact hok | exact hok.ext _) tyI (.inl rfl) _ _ q) ?_
       rintro v m' ⟨k2, i3, rfl, hk2, rfl⟩
       refine ⟨isGP_of, ?_⟩
       simp -implicitDefEqProofs only [↓slp, slb, ↓reduceIte, reduceCtorEq, jA, jB, jD, jE, jF, tfAbMk13, h11, h13, isGP_all, hT, hG]
       refine callMS (two_any 7 3 (vaE w) (whE c sRed e1) _) (by rw [vaE_pv, whE_pv]; rfl) ?_
       rintro v m' ⟨rfl, rfl⟩
       refine ⟨isGP_of, ?_⟩
       refine wS aEQ_t ?_
       refine callM (two_any 9 0 k2 (Ex.two 7 3 (vaE w) (whE c sRed e1)) _) ?_
       rintro v m' ⟨rfl, rfl⟩
       refine ⟨isGP_of, ?_⟩
       refine wS (And.intro tfAbMk13 (And.intro hT hG)) ?_
       refine ⟨isGP_of, ?_⟩
       refine join5 k2 hk2 _ rfl _ _ h0 h2 h3 h5 h10 h11 h12 h13 h15 rfl
      ·skip
       refine callM (constant_any p _ (by first | exact hok | exact hok.ext _) tyI (.inl rfl) _ _ q) ?_
       rintro v m' ⟨k2, i3, rfl, hk2, rfl⟩
       refine ⟨isGP_of, ?_⟩
       simp -implicitDefEqProofs only [↓slp, slb, ↓reduceIte, reduceCtorEq, jA, jB, jD, jE, jF, tfAbMk13, h11, h13, isGP_all, hT, hG]
       refine ⟨?_, ?_⟩
       ·skip
        refine ⟨isGP_of, ?_⟩
        refine callMS (two_any 7 3 (vaE w) (whE c sRed e1) _) (by rw [vaE_pv, whE_pv]; rfl) ?_
        rintro v m' ⟨rfl, rfl⟩
        refine ⟨isGP_of, ?_⟩
        refine wS tfAbMk13 ?_
        refine callM (two_any 9 0 k2 (Ex.two 7 3 (vaE w) (whE c sRed e1)) _) ?_
        rintro v m' ⟨rfl, rfl⟩
        refine ⟨isGP_of, ?_⟩
        refine wS (And.intro tfAbMk13 (And.intro hT hG)) ?_
        refine ⟨isGP_of, ?_⟩
        refine join5 k2 hk2 _ rfl _ _ h0 h2 h3 h5 h10 h11 h12 h13 h15 rfl
       ·skip
        refine callMS (two_any 7 3 (vaE w) (whE c sRed e1) _) (by rw [vaE_pv, whE_pv]; rfl) ?_
        rintro v m' ⟨rfl, rfl⟩
        refine ⟨isGP_of, ?_⟩
        refine wS (And.intro tfAbMk13 (And.intro hT hG)) ?_
        refine ⟨?_, ?_⟩
        ·skip
         refine ⟨isGP_of, ?_⟩
         refine callM (two_any 9 0 k2 (Ex.two 7 3 (vaE w) (whE c sRed e1)) _) ?_
         rintro v m' ⟨rfl, rfl⟩
         refine ⟨isGP_of, ?_⟩
         refine wS (And.intro tfAbMk13 (And.intro hT hG)) ?_
         refine ⟨isGP_of, ?_⟩
         refine join5 k2 hk2 _ rfl _ _ h0 h2 h3 h5 h10 h11 h12 h13 h15 rfl
        ·skip
         refine callM (two_any 9 0 k2 (Ex.two 7 3 (vaE w) (whE c sRed e1)) _) ?_
         rintro v m' ⟨rfl, rfl⟩
         refine ⟨isGP_of, ?_⟩
         refine wS (And.intro tfAbMk13 (And.intro hT hG)) ?_
         refine ⟨isGP_of, isGP_of, ?_⟩
         refine join5 k2 hk2 _ rfl _ _ h0 h2 h3 h5 h10 h11 h12 h13 h15 rfl
    refine aFltN 12 (isGP p m [some [PV.v (Value.string w.name), PV.v (Value.int IntKind.u8 tyI.kind), PV.v (Value.string tyI.name), PV.sl Own.full [PV.ag [PV.v (Value.string sRed), PV.v (Value.string c.name)]], PV.v (Value.bool false), PV.v (Value.int IntKind.u8 0), PV.v (Value.int IntKind.u8 0), PV.v (Value.int IntKind.i32 0), PV.v (Value.string { data := #[] }), PV.sl Own.full [], PV.sl Own.full [], PV.v (Value.int IntKind.i64 0), PV.v (Value.int IntKind.i64 0), PV.v (Value.int IntKind.i64 0), PV.v (Value.int IntKind.i64 0)], some [PV.v (Value.int IntKind.u8 12), PV.v (Value.int IntKind.u8 0), PV.v (Value.int IntKind.i32 0), PV.v (Value.string c.name), PV.sl Own.full [pS sRed], PV.sl Own.full [e1.pv], PV.v (Value.int IntKind.i64 0), PV.v (Value.int IntKind.i64 0)], some [PV.v (Value.int IntKind.u8 12), PV.v (Value.int IntKind.u8 0), PV.v (Value.int IntKind.i32 0), PV.v (Value.string c.name), PV.sl Own.full [pS sGreen], PV.sl Own.full [e2.pv], PV.v (Value.int IntKind.i64 0), PV.v (Value.int IntKind.i64 0)]]) (by simp only [List.length_cons, List.length_nil]; omega) (by kernel_rfl) isGP_of ?_
    simp -implicitDefEqProofs only [↓slp, slb, ↓reduceIte, reduceCtorEq, jA, jB, jC, jD, jE, jF, tfAbMk13, h0, h10, h11, h14, isGP_all, hT, hG, List.getElem_cons_succ, List.getElem_cons_zero, List.getLast_cons_cons, List.getLast_singleton, List.dropLast_singleton]
    refine ⟨?_, ?_⟩
    ·skip
     refine ⟨isGP_of, ?_⟩
     refine callE (tyI_any _) ?_
     refine ⟨isGP_of, ?_⟩
     refine wS tfAbMk13 ?_
     refine callM (constant_any p _ (by first | exact hok | exact hok.ext _) tyI (.inl rfl) _ _ q) ?_
     rintro v m' ⟨k1, i3, rfl, hk1, rfl⟩
     refine ⟨isGP_of, ?_⟩
     refine wS (And.intro tfAbMk13 (And.intro hT hG)) ?_
     refine ⟨isGP_of, ?_⟩
     refine join4 k1 hk1 _ _ h0 h2 h3 h5 h10 h11 h12 h13 h14 rfl
    ·skip
     refine callE (tyI_any _) ?_
     refine ⟨isGP_of, ?_⟩
     refine wS (And.intro tfAbMk13 (And.intro hT hG)) ?_
     refine ⟨?_, ?_⟩
     ·skip
      refine ⟨isGP_of, ?_⟩
      refine callM (constant_any p _ (by first | exact hok | exact hok.ext _) tyI (.inl rfl) _ _ q) ?_
      rintro v m' ⟨k1, i3, rfl, hk1, rfl⟩
      refine ⟨isGP_of, ?_⟩
      refine wS (And.intro tfAbMk13 (And.intro hT hG)) ?_
      refine ⟨isGP_of, ?_⟩
      refine join4 k1 hk1 _ _ h0 h2 h3 h5 h10 h11 h12 h13 h14 rfl
     ·skip
      refine callM (constant_any p _ (by first | exact hok | exact hok.ext _) tyI (.inl rfl) _ _ q) ?_
      rintro v m' ⟨k1, i3, rfl, hk1, rfl⟩
      refine ⟨isGP_of, ?_⟩
      refine wS (And.intro tfAbMk13 (And.intro hT hG)) ?_
      refine ⟨isGP_of, isGP_of, ?_⟩
      refine join4 k1 hk1 _ _ h0 h2 h3 h5 h10 h11 h12 h13 h14 rfl
   refine aFltN 9 (fun _ => True) (by simp only [List.length_cons, List.length_nil]; omega) (by kernel_rfl) trivial ?_
   simp -implicitDefEqProofs only [↓slp, slb, ↓reduceIte, reduceCtorEq, jA, jB, jC, jE, jF, tfAbMk13, h0, h5, h10, hT, hG, List.getElem_cons_succ, List.getElem_cons_zero, List.getLast_cons_cons, List.getLast_singleton, List.dropLast_singleton]
   refine ⟨?_, ?_⟩
   ·skip
    refine callE (tyI_any _) ?_
    refine ⟨trivial, ?_⟩
    refine wS tfAbMk13 ?_
    refine callM (expr_any 2 (by omega) p _ (by first | exact hok | exact hok.ext _) s (hs.ok (by omega)) tyI (.inl rfl) false _ _ q) ?_
    rintro v m' ⟨e2, i3, rfl, he2, rfl⟩
    refine ⟨trivial, ?_⟩
    refine wS (And.intro tfAbMk13 (And.intro hT hG)) ?_
    refine join3 e2 he2 _ _ h0 h2 h3 h5 h10 h11 h12 h13 rfl
   ·skip
    refine callE (tyI_any _) ?_
    refine ⟨trivial, ?_⟩
    refine wS (And.intro tfAbMk13 (And.intro hT hG)) ?_
    refine ⟨?_, ?_⟩
    ·skip
     refine callM (expr_any 2 (by omega) p _ (by first | exact hok | exact hok.ext _) s (hs.ok (by omega)) tyI (.inl rfl) false _ _ q) ?_
     rintro v m' ⟨e2, i3, rfl, he2, rfl⟩
     refine ⟨trivial, ?_⟩
     refine wS (And.intro tfAbMk13 (And.intro hT hG)) ?_
     refine join3 e2 he2 _ _ h0 h2 h3 h5 h10 h11 h12 h13 rfl
    ·skip
     refine callM (expr_any 2 (by omega) p _ (by first | exact hok | exact hok.ext _) s (hs.ok (by omega)) tyI (.inl rfl) false _ _ q) ?_
     rintro v m' ⟨e2, i3, rfl, he2, rfl⟩
     refine ⟨trivial, ?_⟩
     refine wS (And.intro tfAbMk13 (And.intro hT hG)) ?_
     refine join3 e2 he2 _ _ h0 h2 h3 h5 h10 h11 h12 h13 rfl
  refine aFltN 9 (fun _ => True) (by simp only [List.length_cons, List.length_nil]; omega) (by kernel_rfl) trivial ?_
  simp -implicitDefEqProofs only [↓slp, slb, ↓reduceIte, reduceCtorEq, jA, jB, jC, jE, jF, tfAbMk13, h0, h5, h10, hT, hG, List.getElem_cons_succ, List.getElem_cons_zero, List.getLast_cons_cons, List.getLast_singleton, List.dropLast_singleton]
  refine ⟨?_, ?_⟩
  ·skip
   refine callE (tyI_any _) ?_
   refine ⟨trivial, ?_⟩
   refine wS tfAbMk13 ?_
   refine callM (expr_any 2 (by omega) p _ (by first | exact hok | exact hok.ext _) s (hs.ok (by omega)) tyI (.inl rfl) false _ _ q) ?_
   rintro v m' ⟨e1, i3, rfl, he1, rfl⟩
   refine ⟨trivial, ?_⟩
   refine wS (And.intro tfAbMk13 (And.intro hT hG)) ?_
   refine join2 _ rfl e1 he1 _ _ h0 h2 h3 h5 h10 h11 rfl rfl
  ·skip
   refine callE (tyI_any _) ?_
   refine ⟨trivial, ?_⟩
   refine wS (And.intro tfAbMk13 (And.intro hT hG)) ?_
   refine ⟨?_, ?_⟩
   ·skip
    refine callM (expr_any 2 (by omega) p _ (by first | exact hok | exact hok.ext _) s (hs.ok (by omega)) tyI (.inl rfl) false _ _ q) ?_
    rintro v m' ⟨e1, i3, rfl, he1, rfl⟩
    refine ⟨trivial, ?_⟩
    refine wS (And.intro tfAbMk13 (And.intro hT hG)) ?_
    refine join2 _ rfl e1 he1 _ _ h0 h2 h3 h5 h10 h11 rfl rfl
   ·skip
    refine callM (expr_any 2 (by omega) p _ (by first | exact hok | exact hok.ext _) s (hs.ok (by omega)) tyI (.inl rfl) false _ _ q) ?_
    rintro v m' ⟨e1, i3, rfl, he1, rfl⟩
    refine ⟨trivial, ?_⟩
    refine wS (And.intro tfAbMk13 (And.intro hT hG)) ?_
    refine join2 _ rfl e1 he1 _ _ h0 h2 h3 h5 h10 h11 rfl rfl
 refine aFltN 8 (fun _ => True) (by simp only [List.length_cons, List.length_nil]; omega) (by kernel_rfl) trivial ?_
 simp -implicitDefEqProofs only [↓slp, slb, ↓reduceIte, reduceCtorEq, jA, jB, jF, tfAbMk13, pS, hT, hG, List.getElem_cons_succ, List.getElem_cons_zero, List.getLast_cons_cons, List.getLast_singleton, List.dropLast_singleton]
 refine ⟨?_, ?_⟩
 ·skip
  refine callM (name_any p _ (by first | exact hok | exact hok.ext _) ⟨#[119]⟩ (by decide) _ (n + 1) q (by omega)) ?_
  rintro v m' ⟨rfl, rfl⟩
  refine ⟨trivial, ?_⟩
  refine wS @pS.eq_1 ?_
  refine callE (tyI_any _) ?_
  refine ⟨trivial, ?_⟩
  refine wS (And.intro tfAbMk13 (And.intro hT hG)) ?_
  refine join1 _ _ rfl rfl _ _ rfl rfl rfl rfl rfl rfl
 ·skip
  refine callM (name_any p _ (by first | exact hok | exact hok.ext _) ⟨#[119]⟩ (by decide) _ (n + 1) q (by omega)) ?_
  rintro v m' ⟨rfl, rfl⟩
  refine ⟨trivial, ?_⟩
  refine wS (And.intro tfAbMk13 (And.intro @pS.eq_1 (And.intro hT hG))) ?_
  refine ⟨?_, ?_⟩
  ·skip
   refine callE (tyI_any _) ?_
   refine ⟨trivial, ?_⟩
   refine wS (And.intro tfAbMk13 (And.intro @pS.eq_1 (And.intro hT hG))) ?_
   refine join1 _ _ rfl rfl _ _ rfl rfl rfl rfl rfl rfl
  ·skip
   refine callE (tyI_any _) ?_
   refine ⟨trivial, ?_⟩
   refine wS (And.intro tfAbMk13 (And.intro @pS.eq_1 (And.intro hT hG))) ?_
   refine join1 _ _ rfl rfl _ _ rfl rfl rfl rfl rfl rfl
end Go.Proofs.YthhhnfjcaicjnaaGreatDoor
