/-
 Texts that belong together: AbMk17, AbMk18, AbFr.
-/
-- halved
import Derived.Test.YtibhhoknipdlpaaMkG
/-
 The maker: blocks as deep as may be; a node.
-/
set_option linter.unusedVariables false
set_option linter.unusedSimpArgs false
namespace Go.Proofs.Ytibhhoknipdlpaa
open Nat renaming reduceEqDiff → jA, reduceAdd → jB, reduceMul → jC, reduceLT → jD, reduceLeDiff → jE, reduceBEq → jF, reduceBNe → jG
open Int renaming reduceLE → jH, reduceLT → jI, reduceToNat → jJ, reduceEq → jK
open Go
set_option linter.defProp false
def Yg := And.intro @slb (And.intro @td_3 (And.intro @zv_3 (And.intro @Try.underlying3 (And.intro @td_4 (And.intro @zv_4 (And.intro @Try.underlying4 (And.intro @td_5 (And.intro @zv_5 (And.intro @Try.underlying5 (And.intro @td_9 (And.intro @zv_9 (And.intro @Try.underlying9 (And.intro @td_21 (And.intro @zv_21 (And.intro @Try.underlying21 (And.intro @td_22 (And.intro @zv_22 (And.intro @tel_22 (And.intro @Try.underlying22 (And.intro @td_30 (And.intro @zv_30 (And.intro @tel_30 (And.intro @Try.underlying30 (And.intro @td_32 (And.intro @zv_32 (And.intro @tel_32 (And.intro @Try.underlying32 (And.intro @td_33 (And.intro @zv_33 (And.intro @tel_33 (And.intro @Try.underlying33 (And.intro @td_35 (And.intro @zv_35 (And.intro @tf_35 (And.intro @td_39 (And.intro @zv_39 (And.intro @tf_39 (And.intro @td_41 (And.intro @zv_41 (And.intro @tel_41 (And.intro @Try.underlying41 (And.intro @td_44 (And.intro @zv_44 (And.intro @tf_44 (And.intro @td_49 (And.intro @zv_49 (And.intro @tf_49 (And.intro @fl_49 (And.intro @td_50 (And.intro @zv_50 (And.intro @tel_50 (And.intro @Try.underlying50 (And.intro @td_52 (And.intro @zv_52 (And.intro @tf_52 (And.intro @td_63 (And.intro @zv_63 (And.intro @tf_63 (And.intro @fl_63 (And.intro @td_84 (And.intro @zv_84 (And.intro @tel_84 (And.intro @Try.underlying84 (And.intro @td_86 (And.intro @zv_86 (And.intro @tf_86 (And.intro @nk_92 (And.intro @td_92 (And.intro @zv_92 (And.intro @Try.underlying92 (And.intro @td_94 (And.intro @zv_94 (And.intro @tf_94 (And.intro @nk_96 (And.intro @td_96 (And.intro @zv_96 (And.intro @Try.underlying96 (And.intro @td_98 (And.intro @zv_98 (And.intro @tf_98 (And.intro @td_101 (And.intro @zv_101 (And.intro @tel_101 (And.intro @Try.underlying101 (And.intro @td_103 (And.intro @zv_103 (And.intro @tf_103 (And.intro @td_105 (And.intro @zv_105 (And.intro @tf_105 (And.intro @td_144 (And.intro @zv_144 (And.intro @tf_144 (And.intro @td_154 (And.intro @zv_154 (And.intro @tel_154 (And.intro @Try.underlying154 (And.intro @Ex.settle_pv (And.intro @Ex.pure_pv (And.intro @Ex.cells_pv (And.intro @Ex.cs.eq_1 (And.intro @On.pv.eq_1 (And.intro @Ty.pv.eq_1 (And.intro @Va.settle_pv (And.intro @Va.pure_pv (And.intro @Va.cells_pv (And.intro @Va.cs.eq_1 (And.intro @Sc.pv.eq_1 (And.intro @gst_nb (And.intro @gst_nt (And.intro @gst_fresh (And.intro @gst_use (And.intro @gst_free (And.intro @gst_alive (And.intro @gst_t (And.intro @gst_g (And.intro @gst_updt (And.intro @gst_updg (And.intro @gst_ext (And.intro @gst_ext2 (And.intro @gst_et (And.intro @gst_eg (And.intro @gst_own (And.intro @gst_own0 (And.intro @gst_ou (And.intro @gst_ou0 (And.intro @GP.tape.eq_1 @GP.gen.eq_1)))))))))))))))))))))))))))))))))))))))))))))))))))))))))))))))))))))))))))))))))))))))))))))))))))))))))))))))))))))))))))))))
-- EXX: Sc.pv, Ex.settle_pv, Ex.pure_pv, Ex.cells_pv, Ex.cs, gst_nb, gst_nt, gst_fresh, gst_use, gst_free, gst_alive, gst_t, gst_g, gst_updt, gst_updg, gst_ext, gst_ext2, gst_et, gst_eg, gst_own, gst_own0, gst_ou, gst_ou0, GP.tape, GP.gen
-- TYPES: 3 4 5 9 21 22 30 32 33 35 39 41 44 49 50 52 63 84 86 92 94 96 98 101 103 105 144 154

/-- Blocks, so deep. -/
def GBk : Nat → Int → RBT
 | 0, subs => GBlk (GEqs (fun _ _ _ _ _ => False) subs)
 | d + 1, subs => GBlk (GEqs (GBk d subs) subs)
theorem block_any : ∀ d : Nat, d < 1000 → BlockC d (GBk d)
 | 0, h => block_step 0 h _ (eqs_any 0 h (fun _ _ _ _ _ _ => False) (fun d' h => by omega) 20)
 | d + 1, h => block_step (d + 1) h _ (eqs_any (d + 1) h (GBk d) (fun d' hd => by
     obtain rfl : d = d' := by omega
     exact block_any d (by omega)) 20)

/-- A slice that was written to is settled, ahead of a region. -/
theorem gstep_gstL {p : GP} {m : M} {bs bs' : List (Option (List PV))} {i : Nat} {n q : Int} {f f' : F} (j : Nat) (xs : List PV) (sz : Nat) (hok : p.ok m) (hl : bs'.length = bs.length) {c1 : List PV} (hj : bs[j]? = some (some c1)) (hc1 : c1.map PV.settle = xs.flatMap PV.cells) (hx : ∀ x ∈ xs, x.cells.length = sz ∧ x.ok = true)
    (hj' : bs'[j]? = some none) (hk : ∀ k, k ≠ j → bs'[k]? = bs[k]? ∨ ∃ c0, bs[k]? = some (some c0) ∧ bs'[k]? = some (some (c0.map (PV.frz (m.nb + j) xs)))) (hf : ∀ t, f' t = f t ∨ f' t = (f t).frz (m.nb + j) xs ∨ f' t = .junk) :
    GStep f (gst p (m.ext bs) i n q) f' (gst p (m.ext bs') i n q) := by
 have hT := hok.tp
 have hG := hok.gp
 refine .inr ⟨m.nb + j, xs, sz, c1, ?_, .inr hc1, hx, hf, rfl, ?_, fun k c hc => ?_⟩
 ·rw [gst_own rfl hT hG, hj]; rfl
 ·unfold gst M.upd M.ext; simp [hl]
 ·have key : ∀ bs' : List (Option (List PV)), ∀ k, m.nb ≤ k → (gst p (m.ext bs') i n q).get k = (bs'[k - m.nb]?).join := fun bs' k hk => by
    have := gst_own (p := p) (m := m) (i := i) (n := n) (q := q) (bs := bs') (k := m.nb) (j := k - m.nb) rfl hT hG
    rwa [show m.nb + (k - m.nb) = k by omega] at this
  by_cases hkn : m.nb ≤ k
  ·rw [key _ k hkn] at hc
   by_cases hkj : k - m.nb = j
   ·rw [hkj, hj'] at hc; simp at hc
   ·refine ⟨by omega, ?_⟩
    rw [key _ k hkn]
    rcases hk _ hkj with h | ⟨c0, h1, h2⟩
    ·left; rw [← h]; exact hc
    ·right
     rw [h2] at hc
     exact ⟨c0, by rw [h1]; rfl, (Option.some.inj hc).symm⟩
  ·refine ⟨by omega, .inl ?_⟩
   rw [← hc]
   have old : ∀ bs' : List (Option (List PV)), (gst p (m.ext bs') i n q).get k = (gst p m i n q).get k := fun bs' => by
    have hm : (m.ext bs').get k = m.get k := by
     unfold M.get M.ext
     simp only []
     rw [List.getElem?_append_left (by unfold M.nb at hkn; omega)]
    have hT' : p.tp < m.nb + bs'.length := by omega
    have hG' : p.gp < m.nb + bs'.length := by omega
    rw [gst_get, gst_get, hm, ext_nb]
    simp only [hT', hG', hT, hG, and_true]
   rw [old, old]
theorem aRegFL {P : Program} {mu : List Nat} {Z : PV → M → Prop} {K : Exit → F → M → Prop} {f : F} {p : GP} {m : M} {bs bs' : List (Option (List PV))} {i : Nat} {n q : Int} {id : Nat} {l : List Oper} (j : Nat) (xs : List PV) (sz : Nat) (hok : p.ok m) (hl : bs'.length = bs.length) {c1 : List PV} (hj : bs[j]? = some (some c1)) (hc1 : c1.map PV.settle = xs.flatMap PV.cells) (hx : ∀ x ∈ xs, x.cells.length = sz ∧ x.ok = true)
    (hj' : bs'[j]? = some none) (hk : ∀ k, k ≠ j → bs'[k]? = bs[k]? ∨ ∃ c0, bs[k]? = some (some c0) ∧ bs'[k]? = some (some (c0.map (PV.frz (m.nb + j) xs))))
    (h : ∀ f', (∀ t, f' t = (f t).frz (m.nb + j) xs) → aOps P mu Z l.toArray l (K .normal) f' (gst p (m.ext bs') i n q)) : aCode P mu Z (.region id l.toArray false) K f (gst p (m.ext bs) i n q) :=
 aRegG (gstep_gstL j xs sz hok hl hj hc1 hx hj' hk (fun t => .inr (.inl rfl))) (h _ (fun t => rfl))
theorem frz_v (id : Nat) (xs : List PV) (x : Value) : (PV.v x).frz id xs = .v x := rfl
theorem frz_sl (id : Nat) (xs : List PV) (o : Own) (ys : List PV) : (PV.sl o ys).frz id xs = .sl o ys := rfl
theorem frz_bs {id l : Nat} {xs : List PV} (h : l = xs.length) : (PV.bs id 0 l).frz id xs = .sl .no xs := by simp [PV.frz, h]
/-- The states that differ in counts, and in the third of three own boxes. -/
def isG3 (p : GP) (m : M) (x y : Option (List PV)) (m2 : M) : Prop := ∃ c i n q, m2 = gst p (m.ext [x, y, some c]) i n q
theorem isG3_all {p : GP} {m : M} {x y : Option (List PV)} {Q : M → Prop} : (∀ m2, isG3 p m x y m2 → Q m2) = ∀ c i n q, Q (gst p (m.ext [x, y, some c]) i n q) :=
 propext ⟨fun h c i n q => h _ ⟨c, i, n, q, rfl⟩, fun h m2 ⟨c, i, n, q, e⟩ => e ▸ h c i n q⟩

def sNa : Str := ⟨#[97]⟩
def sBb : Str := ⟨#[98]⟩
def sX : Str := ⟨#[120]⟩
def sY : Str := ⟨#[121]⟩
def nIns : List Va := [mkVa sNa tyI, mkVa sBb tyB]
def nOuts (l : Bool) (e : Ex) : List Va := [⟨sX, tyI, [], l, e, 0, 0⟩, mkVa sY tyC]
/-- A node, made. -/
def GNode (RB : RBT) (k : Nat) (x : No) : Prop := ∃ l e b n', ((l = false ∧ e = zE) ∨ (l = true ∧ isConst tyI e)) ∧ n' ≤ 3173950 ∧ RB 0 n' ⟨nIns, [], []⟩ (nOuts l e) b ∧ x = ⟨nameS ⟨#[102]⟩ k, nIns, nOuts l e, b, 0, 0⟩
def NodeC (RB : Int → RBT) : Prop := ∀ (p : GP) (m : M) (hok : p.ok m) (k : Nat) (hk : k < 100) (i : Nat), ACalls Try.prog 54 [.bp p.gp 0, pI k] (gst p m i 0 14) (fun v m' => ∃ (x : No) (i' n' : Nat) (q' : Int), v = x.pv ∧ GNode (RB p.subs) k x ∧ m' = gst p m i' n' q')
set_option maxRecDepth 20000 in
set_option maxHeartbeats 8000000 in
theorem node_any : NodeC (GBk 3) := by
 intro p m hok k hk i
 have hG := hok.gp
 have hT := hok.tp
 have hsz := digS_size k
 have hs1 : (⟨#[102]⟩ : ByteArray).size = 1 := rfl
 refine ACalls.enter (mu := [4, 5, 21]) ok_mix Try.func54 rfl (by kernel_rfl) (by kernel_rfl) (by simp only [List.length_cons, List.length_nil, Try.ntmps54]; omega) ?_
 (repeat (first | refine aSeq fun X hX => ?_ | refine aReg ?_; simp -implicitDefEqProofs only [↓slp, ↓reduceIte, jA, jF, Yg, hT, hG] | apply hX; clear hX X))
 refine callE (digits_any k _ (by omega)) ?_
 simp -implicitDefEqProofs only [↓slp, ↓reduceIte, jA, jB, jE, jF, Yg, hT, hG, pS]
 (repeat ((apply And.intro; (focus omega))))
 (repeat (first | refine aSeq fun X hX => ?_ | refine aReg ?_; simp -implicitDefEqProofs only [↓slp, slb, jF] | apply hX; clear hX X))
 refine callE (tyI_any _) ?_
 simp -implicitDefEqProofs only [↓slp, ↓reduceIte, jB, jD, jE, jF, Yg, Ty.pv]
 refine callE (tyB_any _) ?_
 simp -implicitDefEqProofs only [↓slp, ↓reduceIte, reduceCtorEq, jA, jB, jC, jD, jE, jF, Yg, hT, hG, Ty.pv]
 apply hX; clear hX X
 (repeat (first | refine aSeq fun X hX => ?_ | refine aReg ?_; simp -implicitDefEqProofs only [↓slp, slb, jF]))
 refine callE (tyI_any _) ?_
 simp -implicitDefEqProofs only [↓slp, ↓reduceIte, jB, jD, jE, jF, Yg, Ty.pv]
 refine callE (tyC_any _) ?_
 simp -implicitDefEqProofs only [↓slp, ↓reduceIte, reduceCtorEq, jA, jB, jC, jD, jE, jF, Yg, hT, hG, Ty.pv]
 apply hX; clear hX X
 (repeat (first | refine aSeq fun X hX => ?_ | refine aReg ?_; simp -implicitDefEqProofs only [↓slp, ↓reduceIte, reduceCtorEq, jB, jF, Yg, hG]))
 refine callM (next_any p _ (hok.ext _) 3 (by omega) i 0 14) ?_
 rintro v m' ⟨r1, i1, rfl, ⟨hr2, hr3⟩, rfl⟩
 simp -implicitDefEqProofs only [↓slp, slb, ↓reduceIte, jF]
 apply hX; clear hX X
 have fin : ∀ (f : F) (lb : Bool) (e : Ex) (oo : Own) (i2 : Nat), ((lb = false ∧ e = zE) ∨ (lb = true ∧ isConst tyI e)) → f 0 = .bp p.gp 0 → f 4 = .bp m.nb 0 → f 5 = .bp (m.nb + 1) 0 → X f (gst p (m.ext [some [PV.v (Value.string { data := #[] }), PV.sl Own.full [], PV.sl Own.full [], PV.sl Own.full [], PV.sl Own.full [], PV.v (Value.int IntKind.i64 0), PV.v (Value.int IntKind.i64 0)], some [PV.v (Value.string ({ data := #[102] } ++ digS k)), PV.sl Own.full (nIns.map Va.pv), PV.bs (m.nb + 2) 0 2, PV.sl Own.full [], PV.sl Own.full [], PV.v (Value.int IntKind.i64 0), PV.v (Value.int IntKind.i64 0)], some [PV.v (Value.string sX), PV.v (Value.int IntKind.u8 tyI.kind), PV.v (Value.string tyI.name), PV.sl Own.full [], PV.v (Value.bool lb), PV.v (Value.int IntKind.u8 e.kind), PV.v (Value.int IntKind.u8 e.op), PV.v (Value.int IntKind.i32 e.n), PV.v (Value.string e.name), PV.sl oo (e.names.map pS), PV.sl oo (e.kids.map Ex.pv), PV.v (Value.int IntKind.i64 e.line), PV.v (Value.int IntKind.i64 e.col), PV.v (Value.int IntKind.i64 0), PV.v (Value.int IntKind.i64 0), PV.v (Value.string sY), PV.v (Value.int IntKind.u8 tyC.kind), PV.v (Value.string tyC.name), PV.sl Own.full [], PV.v (Value.bool false), PV.v (Value.int IntKind.u8 0), PV.v (Value.int IntKind.u8 0), PV.v (Value.int IntKind.i32 0), PV.v (Value.string { data := #[] }), PV.sl Own.full [], PV.sl Own.full [], PV.v (Value.int IntKind.i64 0), PV.v (Value.int IntKind.i64 0), PV.v (Value.int IntKind.i64 0), PV.v (Value.int IntKind.i64 0)]]) i2 0 14) := by
  intro f lb e oo i2 he h0 h4 h5
  apply hX; clear hX X
  (repeat refine aSeq fun X hX => ?_)
  refine aRegFL 2 ((nOuts lb e).map Va.pv) 15 hok (bs' := [some [PV.v (Value.string { data := #[] }), PV.sl Own.full [], PV.sl Own.full [], PV.sl Own.full [], PV.sl Own.full [], PV.v (Value.int IntKind.i64 0), PV.v (Value.int IntKind.i64 0)], some [PV.v (Value.string ({ data := #[102] } ++ digS k)), PV.sl Own.full (nIns.map Va.pv), PV.sl Own.no ((nOuts lb e).map Va.pv), PV.sl Own.full [], PV.sl Own.full [], PV.v (Value.int IntKind.i64 0), PV.v (Value.int IntKind.i64 0)], none]) rfl rfl ?_ ?_ rfl ?_ ?_
  ·simp only [List.map_cons, List.map_nil, PV.settle, List.flatMap_cons, List.flatMap_nil, nOuts, mkVa, Va.cells_pv, Va.cs, zE, Ex.kind, Ex.op, Ex.n, Ex.name, Ex.names, Ex.kids, Ex.line, Ex.col, List.append_nil, List.cons_append, List.nil_append]
  ·intro x hx
   obtain ⟨v, _, rfl⟩ := List.mem_map.1 hx
   exact ⟨rfl, by rfl⟩
  ·intro j hj
   match j, hj with
   | 0, _ => exact .inl rfl
   | 1, _ => exact .inr ⟨_, rfl, by simp only [List.map_cons, List.map_nil, frz_v, frz_sl, frz_bs (show 2 = ((nOuts lb e).map Va.pv).length from rfl), List.getElem?_cons_succ, List.getElem?_cons_zero]⟩
   | 2, h => exact absurd rfl h
   | j + 3, _ => exact .inl rfl
  intro f' hf'
  have g0 : f' 0 = .bp p.gp 0 := by rw [hf', h0, frz_ne (by omega)]
  have g4 : f' 4 = .bp m.nb 0 := by rw [hf', h4, frz_ne (by omega)]
  have g5 : f' 5 = .bp (m.nb + 1) 0 := by rw [hf', h5, frz_ne (by omega)]
  simp -implicitDefEqProofs only [↓slp, ↓reduceIte, reduceCtorEq, jB, jD, jE, jF, Yg, g5, hT, hG]
  apply hX; clear hX X
  (repeat (first | refine aSeq fun X hX => ?_ | refine aReg ?_; simp -implicitDefEqProofs only [↓slp, ↓reduceIte, reduceCtorEq, jA, jB, jD, jE, jF, Yg, g0, g5, hT, hG]))
  have hcb : cB 3 = 3173950 := rfl
  have hty : ∀ v ∈ nOuts lb e, isTy v.t := fun v hv => by
   simp only [nOuts, mkVa, List.mem_cons, List.not_mem_nil, or_false] at hv
   rcases hv with rfl | rfl
   ·exact .inl rfl
   ·exact .inr (.inr rfl)
  refine callMS (block_any 3 (by decide) p _ (hok.ext _) ⟨nIns, [], []⟩ 2 ⟨by decide, by decide, by decide⟩ (nOuts lb e) (by simp [nOuts]) hty i2 0 14 (by omega) (by omega) (by omega) (by omega)) rfl ?_
  rintro v m' ⟨b, i5, n5, q5, rfl, hb, hcnt, rfl⟩
  simp -implicitDefEqProofs only [↓slp, ↓reduceIte, reduceCtorEq, jA, jB, jE, jF, Yg, g5, hT, hG, Bk.pv]
  apply hX; clear hX X
  (repeat (first | refine aSeq fun X hX => ?_ | refine aRet ?_ | refine aReg ?_; simp -implicitDefEqProofs only [↓slp, ↓reduceIte, jA, jB, jE, jF, Yg, g4, g5, hT, hG] | apply hX; clear hX X))
  simp only [aPost, Try.results54, aRes_n, aRes_t, aRes_c, pack_one, pack_two]
  simp -implicitDefEqProofs only [↓reduceIte, jA, jB, jE, Yg, g4, hT, hG]
  refine leave_gst hok (.refl m) rfl ⟨⟨nameS ⟨#[102]⟩ k, nIns, nOuts lb e, b, 0, 0⟩, i5, n5, q5, rfl, ⟨lb, e, b, n5, he, by have := hcnt.n; omega, hb, rfl⟩, rfl⟩
 have hnb : m.nb = m.nb := rfl
 cases c1 : (r1 == 0) with
 | true =>
  (repeat (first | refine aSeq fun X hX => ?_ | (first | apply aReg | apply aIf); simp -implicitDefEqProofs only [↓slp, ↓reduceIte, reduceCtorEq, jA, jB, jC, jD, jE, jF, jH, jJ, Yg, hT, hG, List.flatMap_cons, List.flatMap_nil] | apply hX; clear hX X))
  refine aDrw (isG3 p m _ _) (by kernel_rfl) ⟨_, _, _, _, rfl⟩ ?_
  simp -implicitDefEqProofs only [↓slp, ↓reduceIte, reduceCtorEq, jA, jB, jD, jF, Yg, hT, hG, isG3_all]
  refine callE (tyI_any _) ?_
  refine ⟨⟨_, _, _, _, rfl⟩, ?_⟩
  simp -implicitDefEqProofs only [↓slp, ↓reduceIte, jA, jF, Yg]
  refine callM (constant_any p _ (hok.ext _) tyI (.inl rfl) i1 0 14) ?_
  rintro v m' ⟨e, i4, rfl, he, rfl⟩
  refine ⟨⟨_, _, _, _, rfl⟩, ?_⟩
  simp -implicitDefEqProofs only [↓slp, ↓reduceIte, reduceCtorEq, jA, jB, jC, jE, jF, jH, jJ, Yg, hT, hG]
  refine ⟨⟨_, _, _, _, rfl⟩, ?_⟩
  exact fin _ true e .no i4 (.inr ⟨rfl, he⟩) rfl rfl rfl
 | false =>
  (repeat (first | refine aSkip ?_ | refine aIf ?_; simp -implicitDefEqProofs only [slb, ↓reduceIte]))
  exact fin _ false zE .full i1 (.inl ⟨rfl, rfl⟩) rfl rfl rfl
end Go.Proofs.Ytibhhoknipdlpaa

/-
 The maker: a program.
-/
set_option linter.unusedVariables false
set_option linter.unusedSimpArgs false
namespace Go.Proofs.Ytibhhoknipdlpaa
open Nat renaming reduceEqDiff → jA, reduceAdd → jB, reduceMul → jC, reduceLT → jD, reduceLeDiff → jE, reduceBEq → jF, reduceBNe → jG
open Int renaming reduceLE → jH, reduceLT → jI, reduceToNat → jJ, reduceEq → jK
open Go
set_option linter.defProp false
def Yh := And.intro @slb (And.intro @td_3 (And.intro @zv_3 (And.intro @Try.underlying3 (And.intro @td_4 (And.intro @zv_4 (And.intro @Try.underlying4 (And.intro @td_5 (And.intro @zv_5 (And.intro @Try.underlying5 (And.intro @td_9 (And.intro @zv_9 (And.intro @Try.underlying9 (And.intro @td_21 (And.intro @zv_21 (And.intro @Try.underlying21 (And.intro @td_22 (And.intro @zv_22 (And.intro @tel_22 (And.intro @Try.underlying22 (And.intro @td_25 (And.intro @zv_25 (And.intro @tel_25 (And.intro @Try.underlying25 (And.intro @td_26 (And.intro @zv_26 (And.intro @tel_26 (And.intro @Try.underlying26 (And.intro @td_28 (And.intro @zv_28 (And.intro @tf_28 (And.intro @td_30 (And.intro @zv_30 (And.intro @tel_30 (And.intro @Try.underlying30 (And.intro @td_32 (And.intro @zv_32 (And.intro @tel_32 (And.intro @Try.underlying32 (And.intro @td_33 (And.intro @zv_33 (And.intro @tel_33 (And.intro @Try.underlying33 (And.intro @td_35 (And.intro @zv_35 (And.intro @tf_35 (And.intro @td_39 (And.intro @zv_39 (And.intro @tf_39 (And.intro @td_41 (And.intro @zv_41 (And.intro @tel_41 (And.intro @Try.underlying41 (And.intro @td_44 (And.intro @zv_44 (And.intro @tf_44 (And.intro @td_49 (And.intro @zv_49 (And.intro @tf_49 (And.intro @fl_49 (And.intro @td_50 (And.intro @zv_50 (And.intro @tel_50 (And.intro @Try.underlying50 (And.intro @td_52 (And.intro @zv_52 (And.intro @tf_52 (And.intro @td_68 (And.intro @zv_68 (And.intro @tf_68 (And.intro @nk_92 (And.intro @td_92 (And.intro @zv_92 (And.intro @Try.underlying92 (And.intro @td_94 (And.intro @zv_94 (And.intro @tf_94 (And.intro @nk_96 (And.intro @td_96 (And.intro @zv_96 (And.intro @Try.underlying96 (And.intro @td_98 (And.intro @zv_98 (And.intro @tf_98 (And.intro @td_144 (And.intro @zv_144 (And.intro @tf_144 (And.intro @Ex.settle_pv (And.intro @Ex.pure_pv (And.intro @Ex.cells_pv (And.intro @Ex.cs.eq_1 (And.intro @On.pv.eq_1 (And.intro @Ty.pv.eq_1 (And.intro @Va.settle_pv (And.intro @Va.pure_pv (And.intro @Va.cells_pv (And.intro @Va.cs.eq_1 (And.intro @No.settle_pv (And.intro @No.pure_pv (And.intro @No.cells_pv (And.intro @upd_nb @upd_nt))))))))))))))))))))))))))))))))))))))))))))))))))))))))))))))))))))))))))))))))))))))))))))))))))))
-- EXX: No.settle_pv, No.pure_pv, No.cells_pv, upd_nb, upd_nt
-- TYPES: 3 4 5 9 21 22 25 26 28 30 32 33 35 39 41 44 49 50 52 68 92 94 96 98 144

theorem get_updS {m : M} {id : Nat} {c : List PV} (h : id < m.nb) : (m.upd id c).get id = some c := by rw [M.get_upd, if_pos ⟨rfl, h⟩]
theorem upd_updS (m : M) (id : Nat) (c c' : List PV) : (m.upd id c).upd id c' = m.upd id c' := by
 unfold M.upd; simp only [List.set_set]
def tpC (l : List Int) (i : Nat) : List PV := [.sl .no (l.map pU), .v (.int .i64 (i : Int))]
theorem leave_upd {m : M} {id : Nat} {c c' : List PV} {v : PV} {R : PV → M → Prop} (hc : PV.pures c' = true) (hv : v.settle.pure = true) (hR : R v.settle (m.upd id c')) : ∃ v' m', Leave (m.upd id c) (m.upd id c') v v' m' ∧ R v' m' := by
 refine ⟨_, _, .upd v (m.upd id c') (by simp [M.upd, M.nb]) (by simp only [M.upd, M.nb, List.set_set, List.length_set]; rw [List.take_of_length_le (by simp)]) (by simp [M.upd, M.nt]) (by simp [M.upd, M.nt]) (fun k d hk => ?_) hv, hR⟩
 rw [M.get_upd] at hk
 split at hk
 ·exact .inr (by cases hk; exact hc)
 ·rename_i h
  exact .inl (by rw [M.get_upd, if_neg h]; exact hk)
set_option maxRecDepth 20000 in
set_option maxHeartbeats 1000000 in
theorem nextT_any (l : List Int) (hl : l.length ≤ 1000) (hel : ∀ x ∈ l, 0 ≤ x ∧ x ≤ 255) (m : M) (tp : Nat) (hT : tp < m.nb) (k : Int) (hk : 0 < k) (i : Nat) : ACalls Try.prog 53 [.bp tp 0, pI k] (m.upd tp (tpC l i)) (fun v m' => ∃ (r : Int) (i' : Nat), v = pI r ∧ (0 ≤ r ∧ r < k) ∧ m' = m.upd tp (tpC l i')) := by
 have hp : ∀ i, PV.pures (tpC l i) = true := fun i => rfl
 refine ACalls.enter (mu := []) ok_mix Try.func53 rfl (by kernel_rfl) (by kernel_rfl) (by simp only [List.length_cons, List.length_nil, Try.ntmps53]; omega) ?_
 cases c1 : decide ((i : Int) ≥ (l.length : Int)) with
 | true =>
  (repeat (first | refine aSeq fun X hX => ?_ | refine aRet ?_; try simp only [slx, ↓reduceIte, jA, reduceCtorEq] | (first | apply aReg | refine aDrE ?_ | apply aIf); simp -implicitDefEqProofs only [↓slp, ↓reduceIte, reduceCtorEq, jA, jB, Yh, hT, c1, get_updS, tpC] | apply hX; clear hX X))
  simp only [aPost, Try.results53, aRes_n, aRes_t, aRes_c, pack_one, pack_two]
  exact leave_upd (hp _) rfl ⟨0, i, rfl, ⟨Int.le_refl _, hk⟩, rfl⟩
 | false =>
  have hlt : i < l.length := by simp at c1; omega
  have hi : IntKind.i64.wrap ((i : Int) + 1) = ((i + 1 : Nat) : Int) := by rw [wrap64 (by omega)]; omega
  have hj : IntKind.i64.wrap (((i + 1 : Nat) : Int) - 1) = (i : Int) := by rw [wrap64 (by omega)]; omega
  have g0 := getD_map pU l i hlt
  have he := hel _ (List.getElem_mem hlt)
  have hw : IntKind.i64.wrap l[i] = l[i] := wrap64 (by omega)
  have hk0 : ¬ k = 0 := by omega
  (repeat (first | refine aSeq fun X hX => ?_ | refine aSkip ?_ | refine aRet ?_ | (first | apply aReg | refine aDrE ?_ | apply aIf); simp -implicitDefEqProofs only [↓slp, ↓reduceIte, reduceCtorEq, jA, jB, jE, Yh, hT, c1, hi, hj, g0, hw, hk0, get_updS, upd_updS, tpC] | apply hX; clear hX X | apply And.intro; focus omega))
  simp only [aPost, Try.results53, aRes_n, aRes_t, aRes_c, pack_one, pack_two]
  exact leave_upd (hp _) rfl ⟨_, i + 1, rfl, ⟨Int.tmod_nonneg _ he.1, Int.tmod_lt_of_pos _ hk⟩, rfl⟩

theorem gst_mk {m : M} {p : GP} {z c1 pb : Option (List PV)} {gens : List (Option (List PV))} {c2 : Option (List PV)} {i : Nat} {n q : Int} (htp : p.tp = m.nb + 1) (hgp : p.gp = m.nb + (gens.length + 1 + 1 + 1)) :
    gst p (m.ext (z :: c1 :: pb :: (gens ++ [c2]))) i n q = m.ext (z :: some (p.tape i) :: pb :: (gens ++ [some (p.gen n q)])) := by
 unfold gst
 rw [htp, hgp, ext_upd rfl, ext_upd rfl]
 simp only [List.set_cons_succ, List.set_cons_zero, set_concat_length]
/-- The states that differ in all own boxes but the third. -/
def isK (m : M) (c : List PV) (m2 : M) : Prop := ∃ ts x y r, m2 = (⟨m.boxes, ts⟩ : M).ext (x :: y :: some c :: r)
theorem isK_all {m : M} {c : List PV} {Q : M → Prop} : (∀ m2, isK m c m2 → Q m2) = ∀ ts x y r, Q ((⟨m.boxes, ts⟩ : M).ext (x :: y :: some c :: r)) :=
 propext ⟨fun h ts x y r => h _ ⟨ts, x, y, r, rfl⟩, fun h m2 ⟨ts, x, y, r, e⟩ => e ▸ h ts x y r⟩
theorem isK_of {m mm : M} {c : List PV} {x y : Option (List PV)} {r : List (Option (List PV))} (h : mm.boxes = m.boxes) : isK m c (mm.ext (x :: y :: some c :: r)) := ⟨mm.toks, x, y, r, by rw [← h]⟩
theorem isK_get {m : M} {c : List PV} {ts : List (Option Nat)} {x y : Option (List PV)} {r : List (Option (List PV))} : ((⟨m.boxes, ts⟩ : M).ext (x :: y :: some c :: r)).get (m.nb + 2) = some c := by
 have := ext_get (m := (⟨m.boxes, ts⟩ : M)) (bs := x :: y :: some c :: r) (k := m.nb) (i := 2) rfl
 rw [this]; rfl
theorem no_len (l : List No) : ∀ x ∈ l.map No.pv, x.cells.length = 7 := fun x hx => by
 obtain ⟨a, _, rfl⟩ := List.mem_map.1 hx
 rfl
theorem nextM_any (l : List Int) (hl : l.length ≤ 1000) (hel : ∀ x ∈ l, 0 ≤ x ∧ x ≤ 255) (m : M) (a : Nat) (ha : m.nb + 1 = a) (z pb : Option (List PV)) (gens : List (Option (List PV))) (k : Int) (hk : 0 < k) (i : Nat) : ACalls Try.prog 53 [.bp a 0, pI k] (m.ext (z :: some (tpC l i) :: pb :: gens)) (fun v m' => ∃ (r : Int) (i' : Nat), v = pI r ∧ (0 ≤ r ∧ r < k) ∧ m' = m.ext (z :: some (tpC l i') :: pb :: gens)) := by
 subst ha
 have e : ∀ i, (m.ext (z :: none :: pb :: gens)).upd (m.nb + 1) (tpC l i) = m.ext (z :: some (tpC l i) :: pb :: gens) := fun i => ext_upd rfl
 have h := nextT_any l hl hel (m.ext (z :: none :: pb :: gens)) (m.nb + 1) (by rw [ext_nb]; simp only [List.length_cons]; omega) k hk i
 simp only [e] at h
 exact h
theorem nodeM_any (p : GP) (m : M) (hl : p.l.length ≤ 1000) (hel : ∀ x ∈ p.l, 0 ≤ x ∧ x ≤ 255) (hsub : p.subs < 100) (z pb : Option (List PV)) (gens : List (Option (List PV))) (htp : p.tp = m.nb + 1) (hgp : p.gp = m.nb + (gens.length + 1 + 1 + 1)) (k : Nat) (hk : k < 100) (i : Nat) :
    ACalls Try.prog 54 [.bp p.gp 0, pI k] (m.ext (z :: some (p.tape i) :: pb :: (gens ++ [some (p.gen 0 14)]))) (fun v m' => ∃ (x : No) (i' n' : Nat) (q' : Int), v = x.pv ∧ GNode (GBk 3 p.subs) k x ∧ m' = m.ext (z :: some (p.tape i') :: pb :: (gens ++ [some (p.gen n' q')]))) := by
 have h := node_any p (m.ext (z :: none :: pb :: (gens ++ [none]))) ⟨by rw [ext_nb, htp]; simp only [List.length_cons]; omega, by rw [ext_nb, hgp]; simp only [List.length_cons, List.length_append, List.length_nil]; omega, by omega, hl, hel, hsub⟩ k hk i
 simp only [gst_mk htp hgp] at h
 exact h
def sCol : Str := ⟨#[99, 111, 108]⟩
/-- The cells of the type of colours. -/
def colC : List PV := [.v (.string sCol), .sl .no [pS sRed, pS sGreen, pS sBlue], .v (.int .i64 0), .v (.int .i64 0)]
def GNodes (l : List No) : Prop := ∀ k (h : k < l.length), GNode (GBk 3 (k : Int)) k l[k]
set_option maxRecDepth 20000 in
set_option maxHeartbeats 8000000 in
theorem make_any (l : List Int) (hl : l.length ≤ 1000) (hel : ∀ x ∈ l, 0 ≤ x ∧ x ≤ 255) (m : M) : ACalls Try.prog 9 [.sl .no (l.map pU)] m (fun v m' => ∃ ns : List No, v = .ag [.sl .no [.ag colC], .sl .no (ns.map No.pv)] ∧ (1 ≤ ns.length ∧ ns.length ≤ 3) ∧ GNodes ns ∧ m' = m) := by
 refine ACalls.enter (mu := [2, 4, 10, 30]) ok_mix Try.func9 rfl (by kernel_rfl) (by kernel_rfl) (by simp only [List.length_cons, List.length_nil, Try.ntmps9]; omega) ?_
 (repeat (first | refine aSeq fun X hX => ?_ | refine aReg ?_; simp -implicitDefEqProofs only [↓slp, ↓reduceIte, reduceCtorEq, jA, jB, jC, jE, jF, Yh] | apply hX; clear hX X | apply And.intro; focus omega))
 refine callM (nextM_any l hl hel m _ rfl _ _ _ 3 (by omega) 0) ?_
 rintro v m' ⟨r0, i0, rfl, ⟨hr0, hr1⟩, rfl⟩
 obtain ⟨nn, hnn, hwn⟩ : ∃ nn : Nat, (1 ≤ nn ∧ nn ≤ 3) ∧ IntKind.i64.wrap (1 + r0) = (nn : Int) := ⟨(1 + r0).toNat, by omega, by rw [wrap64 (by omega)]; omega⟩
 simp -implicitDefEqProofs only [↓slp, slb, ↓reduceIte, jF, hwn]
 (repeat (first | refine aSeq fun X hX => ?_ | refine aBlk ?_ | refine aReg ?_; simp -implicitDefEqProofs only [↓slp, slb, jF] | apply hX; clear hX X))
 obtain ⟨I, hI⟩ : ∃ I : F → M → Prop, ∀ f m', I f m' = (∃ (j : Nat) (ns : List No) (o2 : Own) (mm : M) (r : List (Option (List PV))) (i' : Nat), j ≤ nn ∧ f 2 = .bp m.nb 0 ∧ f 3 = .bp (m.nb + 1) 0 ∧ f 4 = .bp (m.nb + 2) 0 ∧ f 5 = pI nn ∧ f 6 = pI j ∧ ns.length = j ∧ GNodes ns ∧ Toks m mm ∧ Mine m mm o2 7 ∧ m' = mm.ext (some [PV.sl Own.full [], PV.sl Own.full []] :: some (tpC l i') :: some [PV.sl Own.full [PV.ag colC], PV.sl o2 (ns.map No.pv)] :: r)) := ⟨_, fun _ _ => rfl⟩
 refine aLoop I (fun f m => nn - numOf (f 6)) ?_ ?_
 ·rw [hI]; exact ⟨0, [], .full, m, [], i0, by omega, rfl, rfl, rfl, rfl, rfl, rfl, (fun _ h => by cases h), .refl _, .full, rfl⟩
 intro f m' hrel
 rw [hI] at hrel
 obtain ⟨j, ns, o2, mm, r, i1, hj, h2, h3, h4, h5, h6, hlen, hga, ht, g2, rfl⟩ := hrel
 have hnb := ht.nb
 (repeat (first | refine aSeq fun X hX => ?_ | refine aReg ?_; simp -implicitDefEqProofs only [↓slp, slb, ↓reduceIte, jA, jF, h5, h6, pI] | apply hX; clear hX X))
 refine aIf ?_; simp -implicitDefEqProofs only [slb, ↓reduceIte]; refine ⟨fun hb => ?_, fun hb => ?_⟩
 ·have hlt : j < nn := by simpa using hb
  have hi : IntKind.i64.wrap ((j : Int) + 1) = ((j + 1 : Nat) : Int) := by rw [wrap64 (by omega)]; omega
  have hmu : numOf (f 6) = j := by rw [h6]; rfl
  have hw1 : IntKind.i64.wrap ((nn : Int) - 1) = (nn : Int) - 1 := wrap64 (by omega)
  (repeat (first | refine aSeq fun X hX => ?_ | refine aSkip ?_ | refine aReg ?_; simp -implicitDefEqProofs only [↓slp, ↓reduceIte, jA, jB, jE, jF, Yh, h3, h5, h6, hw1, hnb, pI] | apply hX; clear hX X | apply And.intro; focus omega))
  have hf := g2.free
  have hnl := no_len ns
  have hmx : ns.length + 1 ≤ maxLen := by unfold maxLen; omega
  have ht1 := ht.use (s := 7) g2
  have g2' := Mine.new ht o2 7
  refine aDrwE (isK m [PV.sl Own.full [PV.ag colC], PV.sl o2 (ns.map No.pv)]) (hne := List.cons_ne_nil _ _) rfl (by kernel_rfl) (by kernel_rfl) (isK_of ht.boxes) ?_
  simp -implicitDefEqProofs only [↓slp, ↓reduceIte, reduceCtorEq, jA, jB, jF, Yh, h4, h6, hnb, pI, isK_all, isK_get, List.dropLast_cons_cons, List.dropLast_singleton, List.getLast_cons_cons, List.getLast_singleton]
  refine callM (nodeM_any ⟨l, m.nb + (r.length + 1 + 1 + 1), m.nb + 1, (j : Int), ((j : Int) == (nn : Int) - 1)⟩ mm hl hel (by show (j : Int) < 100; omega) _ _ r (by rw [hnb]) (by rw [hnb]) j (by omega) i1) ?_
  rintro v m' ⟨x, i2, n2, q2, rfl, hx, rfl⟩
  refine ⟨isK_of ht.boxes, ?_⟩
  simp -implicitDefEqProofs only [↓slp, ↓reduceIte, reduceCtorEq, jA, jB, jC, jE, jF, Yh, h4, hnb]
  have hx7 : x.cs.length = 7 := rfl
  refine ⟨⟨hx7, rfl⟩, ?_⟩
  (repeat ((apply And.intro; (focus ((repeat' apply And.intro) <;> first | omega | assumption | trivial)))))
  refine ⟨isK_of ht1.boxes, ?_⟩
  (repeat (first | refine aReg ?_; simp -implicitDefEqProofs only [↓slp, slb, ↓reduceIte, jA, jF, h6, pI, hi] | apply hX; clear hX X))
  rw [hI]
  refine ⟨⟨j + 1, ns ++ [x], .tok mm.nt, (o2.use mm).fresh 7, r ++ [some (GP.gen ⟨l, m.nb + (r.length + 1 + 1 + 1), m.nb + 1, (j : Int), ((j : Int) == (nn : Int) - 1)⟩ n2 q2)], i2, hlt, h2, h3, h4, h5, rfl, by simp [hlen], ?_, ht1, g2', ?_⟩, by omega⟩
  ·intro k hk
   by_cases hkk : k < ns.length
   ·rw [List.getElem_append_left hkk]; exact hga k hkk
   ·have he : k = ns.length := by simp at hk; omega
    subst he
    rw [List.getElem_append_right (Nat.le_refl _)]
    subst hlen
    simpa using hx
  ·rw [List.map_append, List.map_singleton]
   rfl
 ·have hlt : j = nn := by simp at hb; omega
  subst hlt
  (repeat (first | refine aSeq fun X hX => ?_ | (first | refine aExit ?_ | refine aRet ?_); try simp only [slx, ↓reduceIte, jA, reduceCtorEq] | refine aReg ?_; simp -implicitDefEqProofs only [↓slp, ↓reduceIte, jA, jB, jE, jF, Yh, h2, h4, hnb] | apply hX; clear hX X | clear hX X; apply hX; clear hX X))
  simp only [aPost, Try.results9, aRes_n, aRes_t, aRes_c, pack_one, pack_two]
  simp -implicitDefEqProofs only [↓reduceIte, jA, jB, jE, Yh, h2, hnb]
  exact leave_toks ht rfl ⟨ns, rfl, by omega, hga, rfl⟩
end Go.Proofs.Ytibhhoknipdlpaa

/-
 The names that the maker makes are unlike one another.
-/
set_option linter.unusedVariables false
set_option linter.unusedSimpArgs false
namespace Go.Proofs.Ytibhhoknipdlpaa
open Go

/-- A name of one letter and a number. -/
def isNm (s : Str) (k : Nat) : Prop := ∃ c : UInt8, s = nameS ⟨#[c]⟩ k
theorem isNm_of (c : UInt8) (k : Nat) : isNm (nameS ⟨#[c]⟩ k) k := ⟨c, rfl⟩
/-- Variables whose names are made between two counts, in their order. -/
def Inc : Nat → Nat → List Va → Prop
 | n, n', [] => n ≤ n'
 | n, n', v :: l => ∃ k, n < k ∧ isNm v.name k ∧ Inc k n' l
theorem Inc.le : ∀ {l : List Va} {n n' : Nat}, Inc n n' l → n ≤ n'
 | [], n, n', h => h
 | v :: l, n, n', ⟨k, h1, _, h2⟩ => by have := Inc.le h2; omega
theorem Inc.mono {m : Nat} : ∀ {l : List Va} {n n' : Nat}, Inc n n' l → m ≤ n → Inc m n' l
 | [], n, n', h, hm => Nat.le_trans hm h
 | v :: l, n, n', ⟨k, h1, h3, h2⟩, hm => ⟨k, by omega, h3, h2⟩
theorem Inc.app : ∀ {a b : List Va} {n n1 n' : Nat}, Inc n n1 a → Inc n1 n' b → Inc n n' (a ++ b)
 | [], b, n, n1, n', h, hb => hb.mono h
 | v :: a, b, n, n1, n', ⟨k, h1, h3, h2⟩, hb => ⟨k, h1, h3, h2.app hb⟩
theorem Inc.len : ∀ {l : List Va} {n n' : Nat}, Inc n n' l → l.length ≤ n' - n
 | [], n, n', h => Nat.zero_le _
 | v :: l, n, n', ⟨k, h1, h3, h2⟩ => by
  have := Inc.len h2
  have := Inc.le h2
  simp only [List.length_cons]
  omega
theorem Inc.nm : ∀ {l : List Va} {n n' : Nat}, Inc n n' l → ∀ v ∈ l, ∃ k, n < k ∧ k ≤ n' ∧ isNm v.name k
 | [], n, n', h, v, hv => by simp at hv
 | w :: l, n, n', ⟨k, h1, h3, h2⟩, v, hv => by
  rcases List.mem_cons.1 hv with rfl | hv
  ·exact ⟨k, h1, h2.le, h3⟩
  ·obtain ⟨j, j1, j2, j3⟩ := Inc.nm h2 v hv
   exact ⟨j, by omega, j2, j3⟩
theorem Inc.own : ∀ {l : List Va} {n : Nat}, GOwn n l → Inc n (n + l.length) l
 | [], n, h => Nat.le_refl _
 | v :: l, n, ⟨h1, h2⟩ => by
  obtain ⟨t, la, e, _, _, rfl⟩ := h1
  refine ⟨n + 1, by omega, isNm_of _ _, ?_⟩
  have := Inc.own h2
  rwa [show n + 1 + l.length = n + (l.length + 1) by omega] at this
theorem chn_le {R : Nat → Nat → Nat → Am → Prop} (hR : ∀ j n n' a, R j n n' a → n ≤ n') : ∀ {l : List Am} {j n n' : Nat}, Chn R j n n' l → n ≤ n'
 | [], j, n, n', h => by cases h; exact Nat.le_refl _
 | a :: l, j, n, n', ⟨n1, h1, h2⟩ => Nat.le_trans (hR _ _ _ _ h1) (chn_le hR h2)
section
variable {RB : RBT} (hRB : ∀ n n' s outs b, RB n n' s outs b → n ≤ n')
include hRB
theorem eqs_inc {subs : Int} {n n' : Nat} {s : Sc} {outs : List Va} {l : List Qu} {vs : List Va} (h : GEqs RB subs n n' s outs l vs) : Inc n n' vs := by
 induction h with
 | defs h => exact Nat.le_refl _
 | choice h =>
  obtain ⟨t, ns, e, ar, _, he, _, hc, rfl⟩ := h
  exact chn_le (fun j n n' a ⟨nm, l, b, _, _, hb, _⟩ => hRB _ _ _ _ _ hb) hc
 | auto h =>
  obtain ⟨nn, ar, _, _, hc, rfl⟩ := h
  exact chn_le (fun j n n' a ⟨l, u, b, w, _, _, _, hb, _, _⟩ => hRB _ _ _ _ _ hb) hc
 | reset h =>
  obtain ⟨e, b, _, hb, rfl⟩ := h
  exact hRB _ _ _ _ _ hb
 | call h _ ih =>
  obtain ⟨k, a, b, hs, e, _, rfl, rfl, _⟩ := h
  exact ⟨_, Nat.lt_succ_self _, isNm_of _ _, _, Nat.lt_succ_self _, isNm_of _ _, ih⟩
 | samp h _ ih =>
  obtain ⟨e1, e2, e3, k1, kp, rfl, rfl, rfl, _⟩ := h
  exact ⟨_, Nat.lt_succ_self _, isNm_of _ _, _, Nat.lt_succ_self _, isNm_of _ _, _, Nat.lt_succ_self _, isNm_of _ _, ih⟩
theorem todo_inc {subs : Int} {n n' : Nat} {s : Sc} {outs : List Va} {l : List Qu} {vs : List Va} (h : GTodo (GEqs RB subs) n n' s outs l vs) : Inc n n' vs := by
 induction h with
 | nil => exact Nat.le_refl _
 | step _ _ h _ ih => exact (eqs_inc hRB h).app ih
theorem blk_inc {subs : Int} {n n' : Nat} {s : Sc} {outs : List Va} {b : Bk} (h : GBlk (GEqs RB subs) n n' s outs b) : Inc n n' b.vars := by
 obtain ⟨own, l, vs, _, ho, h, rfl⟩ := h
 exact (Inc.own ho).app (todo_inc hRB h)
end
theorem bk_le : ∀ (d : Nat) (subs : Int) (n n' : Nat) (s : Sc) (outs : List Va) (b : Bk), GBk d subs n n' s outs b → n ≤ n'
 | 0, subs, n, n', s, outs, b, h => (blk_inc (RB := fun _ _ _ _ _ => False) (fun _ _ _ _ _ h => h.elim) h).le
 | d + 1, subs, n, n', s, outs, b, h => (blk_inc (fun n n' s outs b h => bk_le d subs n n' s outs b h) h).le
end Go.Proofs.Ytibhhoknipdlpaa
