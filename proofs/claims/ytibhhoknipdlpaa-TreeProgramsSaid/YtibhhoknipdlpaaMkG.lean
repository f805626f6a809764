/-
 Texts that belong together: AbMk16.
-/
-- halved
import Derived.Test.YtibhhoknipdlpaaMkF
/-
 The maker: a block.
-/
set_option linter.unusedVariables false
set_option linter.unusedSimpArgs false
namespace Go.Proofs.Ytibhhoknipdlpaa
open Nat renaming reduceEqDiff → jA, reduceAdd → jB, reduceMul → jC, reduceLT → jD, reduceLeDiff → jE, reduceBEq → jF, reduceBNe → jG
open Int renaming reduceLE → jH, reduceLT → jI, reduceToNat → jJ, reduceEq → jK
open Go

-- EXX: Sc.pv, Ex.settle_pv, Ex.pure_pv, Ex.cells_pv, Ex.cs, gst_nb, gst_nt, gst_fresh, gst_use, gst_free, gst_alive, gst_t, gst_g, gst_updt, gst_updg, gst_ext, gst_ext2, gst_et, gst_eg, gst_own, gst_own0, gst_ou, gst_ou0, GP.tape, GP.gen
-- TYPES: 3 4 5 9 21 22 30 32 33 35 41 44 49 50 52 63 84 86 92 94 96 98 101 103 105 144 154

/-- A variable of a block's own. -/
def GVar (k : Nat) (v : Va) : Prop := ∃ t l e, isTy t ∧ ((l = false ∧ e = zE) ∨ (l = true ∧ isConst t e)) ∧ v = ⟨nameS ⟨#[118]⟩ k, t, [], l, e, 0, 0⟩
def GOwn : Nat → List Va → Prop
 | _, [] => True
 | n, v :: l => GVar (n + 1) v ∧ GOwn (n + 1) l
theorem GOwn_snoc {v : Va} : ∀ {l : List Va} {n : Nat}, GOwn n l → GVar (n + l.length + 1) v → GOwn n (l ++ [v])
 | [], n, _, hv => ⟨hv, trivial⟩
 | w :: l, n, ⟨h1, h2⟩, hv => ⟨h1, GOwn_snoc h2 (by rwa [show n + 1 + l.length + 1 = n + (w :: l).length + 1 by simp; omega])⟩
theorem GOwn_ty : ∀ {l : List Va} {n : Nat}, GOwn n l → ∀ v ∈ l, isTy v.t
 | w :: l, n, ⟨h1, h2⟩, v, hv => by
  rcases List.mem_cons.1 hv with rfl | hv
  ·obtain ⟨t, l, e, ht, _, rfl⟩ := h1; exact ht
  ·exact GOwn_ty h2 v hv
/-- What has a last value, once. -/
def addLasts (l : List Va) : List Va → List Va
 | [] => l
 | v :: r => addLasts (if v.last && !(hasV l v.name) then l ++ [v] else l) r
theorem addLasts_take {t : List Va} : ∀ {l : List Va} {k : Nat} (h : k < t.length), addLasts l (t.take (k + 1)) = (if t[k].last && !(hasV (addLasts l (t.take k)) t[k].name) then addLasts l (t.take k) ++ [t[k]] else addLasts l (t.take k)) := by
 induction t with
 | nil => intro l k h; simp at h
 | cons a t ih =>
  intro l k h
  cases k with
  | zero => simp [addLasts]
  | succ k =>
   simp only [List.take_succ_cons, addLasts, List.getElem_cons_succ]
   exact ih (by simpa using h)
theorem addLasts_len (l : List Va) : ∀ t : List Va, (addLasts l t).length ≤ l.length + t.length := by
 intro t
 induction t generalizing l with
 | nil => simp [addLasts]
 | cons a t ih =>
  unfold addLasts
  refine Nat.le_trans (ih _) ?_
  split <;> simp <;> omega
def lenP : PV → Nat
 | .sl _ xs => xs.length
 | _ => 0
/-- Equations for all that is to be defined, some at a time. -/
inductive GTodo (RE : RET) : Nat → Nat → Sc → List Va → List Qu → List Va → Prop
 | nil {n s} : GTodo RE n n s [] [] []
 | step {n n1 n' s a r l vs l' vs'} : 1 ≤ a.length → a.length ≤ 3 → RE n n1 s a l vs → GTodo RE n1 n' (s.more a) r l' vs' → GTodo RE n n' s (a ++ r) (l ++ l') (vs ++ vs')
/-- A block, made. -/
def GBlk (RE : RET) (n n' : Nat) (s : Sc) (outs : List Va) (b : Bk) : Prop := ∃ own l vs, own.length ≤ 3 ∧ GOwn n own ∧ GTodo RE (n + own.length) n' ⟨s.ready, s.ready ++ own ++ outs, addLasts s.lasts (own ++ outs)⟩ (own ++ outs) l vs ∧ b = ⟨own ++ vs, l⟩

set_option maxRecDepth 20000 in
set_option maxHeartbeats 8000000 in
theorem block_step (d : Nat) (hd : d < 1000) (RE : Int → RET) (E : EqsC d 20 RE) : BlockC d (fun u => GBlk (RE u)) := by
 intro p m hok s k hs outs ho hty i n q hk hn hq hq2
 have hG := hok.gp
 have hT := hok.tp
 have hcB : cB d = 10 + 6 * cE d 20 := by cases d <;> simp [cB, cE, cP] <;> omega
 refine ACalls.enter (mu := [8, 9, 12, 14, 108, 151]) ok_mix Try.func103 rfl (by kernel_rfl) (by kernel_rfl) (by simp only [List.length_cons, List.length_nil, Try.ntmps103]; omega) ?_
 (repeat (first | refine aSeq fun X hX => ?_ | refine aReg ?_; simp -implicitDefEqProofs only [↓slp, ↓reduceIte, reduceCtorEq, jB, jF, Yf, hT, hG] | apply hX; clear hX X))
 refine callM (next_any p _ (hok.ext _) 4 (by omega) i n q) ?_
 rintro v m' ⟨r0, i0, rfl, ⟨hr0, hr1⟩, rfl⟩
 obtain ⟨nv, rfl⟩ : ∃ nv : Nat, r0 = nv := ⟨r0.toNat, (Int.toNat_of_nonneg hr0).symm⟩
 simp -implicitDefEqProofs only [↓slp, slb, ↓reduceIte, jF]
 (repeat (first | refine aSeq fun X hX => ?_ | refine aBlk ?_ | refine aReg ?_; simp -implicitDefEqProofs only [↓slp, slb, jF] | apply hX; clear hX X))
 obtain ⟨I, hI⟩ : ∃ I : F → M → Prop, ∀ f m', I f m' = (∃ (j : Nat) (own : List Va) (o2 : Own) (mm : M) (r : List (Option (List PV))) (i' : Nat), j ≤ nv ∧ f 0 = .bp p.gp 0 ∧ f 2 = .sl .no (outs.map Va.pv) ∧ f 3 = pI d ∧ f 5 = .ep [.sl .no (s.ready.map Va.pv), .sl .no (s.all.map Va.pv), .sl .no (s.lasts.map Va.pv)] ∧ f 8 = .bp m.nb 0 ∧ f 9 = .bp (m.nb + 1) 0 ∧ f 10 = pI nv ∧ f 11 = pI j ∧ own.length = j ∧ GOwn n own ∧ Toks m mm ∧ Mine m mm o2 15 ∧ m' = gst p (mm.ext (some [PV.sl Own.full [], PV.sl Own.full []] :: some [PV.sl o2 (own.map Va.pv), PV.sl .full []] :: r)) i' ((n + j : Nat) : Int) q) := ⟨_, fun _ _ => rfl⟩
 refine aLoop I (fun f m => nv - numOf (f 11)) ?_ ?_
 ·rw [hI]; exact ⟨0, [], .full, m, [], i0, by omega, rfl, rfl, rfl, rfl, rfl, rfl, rfl, rfl, rfl, trivial, .refl _, .full, rfl⟩
 intro f m' hrel
 rw [hI] at hrel
 obtain ⟨j, own, o2, mm, r, i1, hj, h0, h2, h3, h5, h8, h9, h10, h11, hlen, hown, ht, g2, rfl⟩ := hrel
 have hnb := ht.nb
 have hG' : p.gp < mm.nb := by rw [ht.nb]; exact hG
 have hT' : p.tp < mm.nb := by rw [ht.nb]; exact hT
 (repeat (first | refine aSeq fun X hX => ?_ | refine aReg ?_; simp -implicitDefEqProofs only [↓slp, slb, ↓reduceIte, jA, jF, h10, h11, pI] | apply hX; clear hX X))
 refine aIf ?_; simp -implicitDefEqProofs only [slb, ↓reduceIte]; refine ⟨fun hb => ?_, fun hb => ?_⟩
 ·have hlt : j < nv := by simpa using hb
  have hi : IntKind.i64.wrap ((j : Int) + 1) = ((j + 1 : Nat) : Int) := by rw [wrap64 (by omega)]; omega
  have hmu : numOf (f 11) = j := by rw [h11]; rfl
  (repeat (first | refine aSeq fun X hX => ?_ | refine aSkip ?_ | refine aReg ?_; simp -implicitDefEqProofs only [↓slp, slb, ↓reduceIte, reduceCtorEq, jF, h0] | apply hX; clear hX X))
  refine callM (name_any p _ ((hok.toks ht).ext _) ⟨#[118]⟩ (by decide) i1 (n + j) q (by omega)) ?_
  rintro v m' ⟨rfl, rfl⟩
  simp -implicitDefEqProofs only [↓slp, slb, ↓reduceIte, reduceCtorEq, jF, h0]
  refine callM (typ_any p _ ((hok.toks ht).ext _) i1 _ q) ?_
  rintro v m' ⟨t, i2, rfl, hty1, rfl⟩
  simp -implicitDefEqProofs only [↓slp, ↓reduceIte, jA, jB, jD, jE, jF, Yf, h11, hnb, hT, hG, pI, List.getElem?_concat_length, set_concat_length, Ty.pv]
  apply hX; clear hX X
  (repeat (first | refine aSeq fun X hX => ?_ | refine aReg ?_; simp -implicitDefEqProofs only [↓slp, ↓reduceIte, reduceCtorEq, jB, jF, Yf, h0, hnb, hG]))
  refine callM (next_any p _ ((hok.toks ht).ext _) 3 (by omega) _ _ q) ?_
  rintro v m' ⟨r1, i3, rfl, ⟨hr2, hr3⟩, rfl⟩
  simp -implicitDefEqProofs only [↓slp, slb, ↓reduceIte, jF, h11, pI]
  apply hX; clear hX X
  have fin : ∀ (f : F) (lb : Bool) (e : Ex) (oo : Own) (i4 : Nat), ((lb = false ∧ e = zE) ∨ (lb = true ∧ isConst t e)) → f 0 = .bp p.gp 0 → f 2 = .sl .no (outs.map Va.pv) → f 3 = pI d → f 5 = .ep [.sl .no (s.ready.map Va.pv), .sl .no (s.all.map Va.pv), .sl .no (s.lasts.map Va.pv)] → f 8 = .bp m.nb 0 → f 9 = .bp (m.nb + 1) 0 → f 10 = pI nv → f 11 = pI j → f 12 = .bp (m.nb + (r.length + 1 + 1)) 0 → X f (gst p (mm.ext (some [PV.sl Own.full [], PV.sl Own.full []] :: some [PV.sl o2 (own.map Va.pv), PV.sl .full []] :: (r ++ [some [PV.v (Value.string (nameS ⟨#[118]⟩ (n + j + 1))), PV.v (Value.int IntKind.u8 t.kind), PV.v (Value.string t.name), PV.sl Own.full [], PV.v (Value.bool lb), PV.v (Value.int IntKind.u8 e.kind), PV.v (Value.int IntKind.u8 e.op), PV.v (Value.int IntKind.i32 e.n), PV.v (Value.string e.name), PV.sl oo (e.names.map pS), PV.sl oo (e.kids.map Ex.pv), PV.v (Value.int IntKind.i64 e.line), PV.v (Value.int IntKind.i64 e.col), PV.v (Value.int IntKind.i64 0), PV.v (Value.int IntKind.i64 0)]]))) i4 ((n + j + 1 : Nat) : Int) q) := by
   intro f lb e oo i4 he h0 h2 h3 h5 h8 h9 h10 h11 h12
   apply hX; clear hX X
   have hmx : own.length + 1 ≤ maxLen := by unfold maxLen; omega
   have hf := g2.free
   have hvl := va_len own
   have ht1 := ht.use (s := 15) g2
   have g2' := Mine.new ht o2 15
   (repeat (first | refine aReg ?_; simp -implicitDefEqProofs only [↓slp, ↓reduceIte, reduceCtorEq, jA, jB, jE, jF, Yf, h9, h11, h12, hi, hnb, hT, hG, pI, List.getElem?_concat_length] | apply hX; clear hX X | apply And.intro; focus (first | omega | (repeat' apply And.intro) <;> first | omega | assumption)))
   rw [hI]
   refine ⟨⟨j + 1, own ++ [⟨nameS ⟨#[118]⟩ (n + j + 1), t, [], lb, e, 0, 0⟩], .tok mm.nt, (o2.use mm).fresh 15, r ++ [some [PV.v (Value.string (nameS ⟨#[118]⟩ (n + j + 1))), PV.v (Value.int IntKind.u8 t.kind), PV.v (Value.string t.name), PV.sl Own.full [], PV.v (Value.bool lb), PV.v (Value.int IntKind.u8 e.kind), PV.v (Value.int IntKind.u8 e.op), PV.v (Value.int IntKind.i32 e.n), PV.v (Value.string e.name), PV.sl oo (e.names.map pS), PV.sl oo (e.kids.map Ex.pv), PV.v (Value.int IntKind.i64 e.line), PV.v (Value.int IntKind.i64 e.col), PV.v (Value.int IntKind.i64 0), PV.v (Value.int IntKind.i64 0)]], i4, hlt, h0, h2, h3, h5, h8, h9, h10, rfl, by simp [hlen], GOwn_snoc hown ⟨t, lb, e, hty1, he, by rw [hlen]⟩, ht1, g2', ?_⟩, by omega⟩
   rw [List.map_append, List.map_singleton]
   rfl
  cases c1 : (r1 == 0) with
  | true =>
   (repeat (first | refine aSeq fun X hX => ?_ | (first | apply aReg | apply aIf); simp -implicitDefEqProofs only [↓slp, ↓reduceIte, reduceCtorEq, jA, jB, jE, jF, Yf, h0, h11, hnb, hT, hG, pI, List.getElem?_concat_length, set_concat_length] | apply hX; clear hX X))
   refine callM (constant_any p _ ((hok.toks ht).ext _) t hty1 i3 _ q) ?_
   rintro v m' ⟨e, i4, rfl, he, rfl⟩
   simp -implicitDefEqProofs only [↓slp, ↓reduceIte, reduceCtorEq, jA, jB, jE, jF, Yf, hnb, hT, hG, List.getElem?_concat_length, set_concat_length]
   exact fin _ true e .no i4 (.inr ⟨rfl, he⟩) h0 h2 h3 h5 h8 h9 h10 h11 rfl
  | false =>
   (repeat (first | refine aSkip ?_ | refine aIf ?_; simp -implicitDefEqProofs only [slb, ↓reduceIte, h11, pI]))
   exact fin _ false zE .full i3 (.inl ⟨rfl, rfl⟩) h0 h2 h3 h5 h8 h9 h10 h11 rfl
 ·have hlt : j = nv := by simp at hb; omega
  subst hlt
  have hvl := va_len own
  have hol : ∀ x ∈ outs.map Va.pv, x.cells.length = 15 := va_len outs
  have hrl : ∀ x ∈ s.ready.map Va.pv, x.cells.length = 15 := va_len s.ready
  have hll : ∀ x ∈ s.lasts.map Va.pv, x.cells.length = 15 := va_len s.lasts
  have hr1 := hs.ready
  have hr2 := hs.lasts
  have hm1 : own.length + outs.length ≤ maxLen := by unfold maxLen; omega
  have hm2 : own.length ≤ maxLen := by unfold maxLen; omega
  have hm3 : s.ready.length ≤ maxLen := by unfold maxLen; omega
  have hm4 : s.ready.length + own.length ≤ maxLen := by unfold maxLen; omega
  have hm5 : s.ready.length + own.length + outs.length ≤ maxLen := by unfold maxLen; omega
  have hm6 : s.lasts.length ≤ maxLen := by unfold maxLen; omega
  have hv1 : own.length ≤ 3 := by omega
  have hol3 := hlen
  have tk1 : Toks m (mm.fresh 15) := ht.use (o := .full) (s := 15) (s' := 15) Mine.full
  have gT1 : Mine m (mm.fresh 15) (.tok mm.nt) 15 := Mine.new (o := .full) ht 15
  have gB1 : Mine m (mm.fresh 15) o2 15 := g2.other (o := .full) (s := 15) (fun _ h => by cases h)
  have a1 : (mm.fresh 15).alive mm.nt 15 := gT1.free
  generalize hM2 : ((mm.fresh 15).kill mm.nt).fresh 15 = m2 at *
  have tk2 : Toks m m2 := hM2 ▸ tk1.use (o := .tok mm.nt) (s := 15) gT1
  have gT2 : Mine m m2 (.tok (mm.fresh 15).nt) 15 := hM2 ▸ Mine.new tk1 (.tok mm.nt) 15
  have gB2 : Mine m m2 o2 15 := hM2 ▸ gB1.other (o := .tok mm.nt) (s := 15) g2.ne_new
  have tk3 : Toks m (m2.fresh 15) := tk2.use (o := .full) (s := 15) (s' := 15) Mine.full
  have gA3 : Mine m (m2.fresh 15) (.tok m2.nt) 15 := Mine.new (o := .full) tk2 15
  have gB3 : Mine m (m2.fresh 15) o2 15 := gB2.other (o := .full) (s := 15) (fun _ h => by cases h)
  have a3 : (m2.fresh 15).alive m2.nt 15 := gA3.free
  generalize hM4 : ((m2.fresh 15).kill m2.nt).fresh 15 = m4 at *
  have tk4 : Toks m m4 := hM4 ▸ tk3.use (o := .tok m2.nt) (s := 15) gA3
  have gA4 : Mine m m4 (.tok (m2.fresh 15).nt) 15 := hM4 ▸ Mine.new tk3 (.tok m2.nt) 15
  have gB4 : Mine m m4 o2 15 := hM4 ▸ gB3.other (o := .tok m2.nt) (s := 15) gB2.ne_new
  have a4 : m4.alive (m2.fresh 15).nt 15 := gA4.free
  generalize hM5 : (m4.kill (m2.fresh 15).nt).fresh 15 = m5 at *
  have tk5 : Toks m m5 := hM5 ▸ tk4.use (o := .tok (m2.fresh 15).nt) (s := 15) gA4
  have gA5 : Mine m m5 (.tok m4.nt) 15 := hM5 ▸ Mine.new tk4 (.tok (m2.fresh 15).nt) 15
  have gB5 : Mine m m5 o2 15 := hM5 ▸ gB4.other (o := .tok (m2.fresh 15).nt) (s := 15) gB3.ne_new
  have tk6 : Toks m (m5.fresh 15) := tk5.use (o := .full) (s := 15) (s' := 15) Mine.full
  have gL6 : Mine m (m5.fresh 15) (.tok m5.nt) 15 := Mine.new (o := .full) tk5 15
  have gB6 : Mine m (m5.fresh 15) o2 15 := gB5.other (o := .full) (s := 15) (fun _ h => by cases h)
  have nb2 := tk2.nb
  have nb4 := tk4.nb
  have nb5 := tk5.nb
  have hrow : ∀ x ∈ s.ready.map Va.pv ++ own.map Va.pv, x.cells.length = 15 := fun x hx => (List.mem_append.1 hx).elim (hrl x) (hvl x)
  (repeat (first | refine aSeq fun X hX => ?_ | refine aBlk ?_ | refine aExit ?_; try simp only [slx, ↓reduceIte, jA, reduceCtorEq] | refine aReg ?_; simp -implicitDefEqProofs only [↓slp, ↓reduceIte, reduceCtorEq, jA, jB, jD, jE, jF, Yf, h2, h5, h9, hM2, hM4, hM5, nb2, nb4, nb5, List.length_append, hnb, hT, hG, List.getElem?_concat_length, set_concat_length] | apply hX; clear hX X | clear hX X; apply hX; clear hX X | apply And.intro; focus ((repeat' apply And.intro) <;> first | omega | assumption)))
  generalize Own.tok (mm.fresh 15).nt = oT at *
  generalize Own.tok m4.nt = oA at *
  have hmap : own.map Va.pv ++ outs.map Va.pv = (own ++ outs).map Va.pv := by rw [List.map_append]
  have hmap3 : s.ready.map Va.pv ++ own.map Va.pv ++ outs.map Va.pv = (s.ready ++ own ++ outs).map Va.pv := by rw [List.map_append, List.map_append]
  have hTl : (own ++ outs).length ≤ 6 := by rw [List.length_append]; omega
  have hTty : ∀ v ∈ own ++ outs, isTy v.t := fun v hv => (List.mem_append.1 hv).elim (GOwn_ty hown v) (hty v)
  obtain ⟨T, hTe⟩ : ∃ T, own ++ outs = T := ⟨_, rfl⟩
  rw [hmap, hmap3, hTe]
  rw [hTe] at hTl hTty
  obtain ⟨I2, hI2⟩ : ∃ I2 : F → M → Prop, ∀ f m', I2 f m' = (∃ (jj : Nat) (oL : Own) (mm2 : M), jj ≤ T.length ∧ f 0 = .bp p.gp 0 ∧ f 3 = pI d ∧ f 8 = .bp m.nb 0 ∧ f 9 = .bp (m.nb + 1) 0 ∧ f 13 = .sl oT (T.map Va.pv) ∧ f 14 = .bp (m.nb + (r.length + 1 + 1)) 0 ∧ f 15 = pI jj ∧ Toks m mm2 ∧ Mine m mm2 oL 15 ∧ Mine m mm2 o2 15 ∧ (∀ t, oL = .tok t → o2 ≠ .tok t) ∧ m' = gst p (mm2.ext (some [PV.sl Own.full [], PV.sl Own.full []] :: some [PV.sl o2 (own.map Va.pv), PV.sl .full []] :: (r ++ [some [PV.sl Own.no (s.ready.map Va.pv), PV.sl oA ((s.ready ++ own ++ outs).map Va.pv), PV.sl oL ((addLasts s.lasts (T.take jj)).map Va.pv)]]))) i1 ((n + j : Nat) : Int) q) := ⟨_, fun _ _ => rfl⟩
  refine aLoop I2 (fun f m => T.length - numOf (f 15)) ?_ ?_
  ·rw [hI2]; exact ⟨0, _, m5.fresh 15, by omega, h0, h3, h8, h9, rfl, rfl, rfl, tk6, gL6, gB6, gB5.ne_new, rfl⟩
  intro f2 m' hrel
  rw [hI2] at hrel
  clear h0 h2 h3 h5 h8 h9 h10 h11 hb tk1 gT1 gB1 a1 tk2 gT2 gB2 tk3 gA3 gB3 a3 tk4 gA4 gB4 a4 tk5 gA5 gB5 tk6 gL6 gB6 nb2 nb4 nb5
  obtain ⟨jj, oL, mm2, hjj, h0, h3, h8, h9, h13, h14, h15, ht2, gL, gB, hne, rfl⟩ := hrel
  have hnb2 := ht2.nb
  have hG2 : p.gp < mm2.nb := by rw [ht2.nb]; exact hG
  have hT2 : p.tp < mm2.nb := by rw [ht2.nb]; exact hT
  have hTv := va_len T
  (repeat (first | refine aSeq fun X hX => ?_ | refine aReg ?_; simp -implicitDefEqProofs only [↓slp, ↓reduceIte, jA, jF, Yf, h13, h15, pI] | apply hX; clear hX X | intro hlen; unfold maxLen at hlen))
  refine aIf ?_; simp -implicitDefEqProofs only [slb, ↓reduceIte]; refine ⟨fun hb => ?_, fun hb => ?_⟩
  ·have hlt : jj < T.length := by simpa using hb
   have hi : IntKind.i64.wrap ((jj : Int) + 1) = ((jj + 1 : Nat) : Int) := by rw [wrap64 (by omega)]; omega
   have g0 := getD_map Va.pv T jj hlt
   have hmu : numOf (f2 15) = jj := by rw [h15]; rfl
   have hadd := addLasts_take (l := s.lasts) hlt
   have hale := addLasts_len s.lasts (T.take jj)
   rw [List.length_take] at hale
   obtain ⟨ls, hls⟩ : ∃ ls, addLasts s.lasts (T.take jj) = ls := ⟨_, rfl⟩
   rw [hls] at hadd hale ⊢
   cases c1 : T[jj].last with
   | false =>
    (repeat (first | refine aSeq fun X hX => ?_ | refine aSkip ?_ | (first | apply aReg | refine aDrE ?_ | apply aIf); simp -implicitDefEqProofs only [↓slp, ↓reduceIte, reduceCtorEq, jA, jB, jE, jF, Yf, h13, h15, g0, c1, hi, pI] | apply hX; clear hX X | apply And.intro; focus omega))
    rw [hI2]
    rw [c1] at hadd
    exact ⟨⟨jj + 1, oL, mm2, hlt, h0, h3, h8, h9, h13, h14, rfl, ht2, gL, gB, hne, by rw [hadd]; rfl⟩, by omega⟩
   | true =>
    cases c2 : hasV ls T[jj].name with
    | true =>
     (repeat (first | refine aSeq fun X hX => ?_ | refine aSkip ?_ | refine aDrE ?_; simp -implicitDefEqProofs only [↓slp, ↓reduceIte, reduceCtorEq, jA, jB, jE, jF, Yf, h13, h14, h15, g0, c1, hnb2, hT, hG, pI, List.getElem?_concat_length] | apply hX; clear hX X | apply And.intro; focus omega))
     refine callM (has_any oL ls _ _) ?_
     rintro v m' ⟨rfl, rfl⟩
     rw [c2]
     refine ⟨rfl, ?_⟩
     simp -implicitDefEqProofs only [↓slp, slb, ↓reduceIte, jA, jF, h15, pB, pI]
     apply hX; clear hX X
     (repeat (first | refine aSkip ?_ | (first | apply aReg | apply aIf); simp -implicitDefEqProofs only [↓slp, slb, ↓reduceIte, jA, jF, h15, hi, pI] | apply hX; clear hX X))
     rw [hI2]
     rw [c1, c2] at hadd
     exact ⟨⟨jj + 1, oL, mm2, hlt, h0, h3, h8, h9, h13, h14, rfl, ht2, gL, gB, hne, by rw [hadd]; rfl⟩, by omega⟩
    | false =>
     (repeat (first | refine aSeq fun X hX => ?_ | refine aSkip ?_ | refine aDrE ?_; simp -implicitDefEqProofs only [↓slp, ↓reduceIte, reduceCtorEq, jA, jB, jE, jF, Yf, h13, h14, h15, g0, c1, hnb2, hT, hG, pI, List.getElem?_concat_length] | apply hX; clear hX X | apply And.intro; focus omega))
     refine callM (has_any oL ls _ _) ?_
     rintro v m' ⟨rfl, rfl⟩
     rw [c2]
     refine ⟨rfl, ?_⟩
     simp -implicitDefEqProofs only [↓slp, slb, ↓reduceIte, jA, jF, h15, pB, pI]
     apply hX; clear hX X
     refine aIf ?_; simp -implicitDefEqProofs only [slb, ↓reduceIte, reduceCtorEq]
     have hlv := va_len ls
     have hml : ls.length + 1 ≤ maxLen := by unfold maxLen; omega
     have hf := gL.free
     have ht3 := ht2.use (s := 15) gL
     have gL3 := Mine.new ht2 oL 15
     have gB3 : Mine m ((oL.use mm2).fresh 15) o2 15 := gB.other hne
     have hT15 : ∀ x : Va, x.pv.cells.length = 15 := fun x => rfl
     (repeat (first | refine aSeq fun X hX => ?_ | apply aBlk | refine aSkip ?_ | (first | refine aExit ?_ | refine aRet ?_); try simp only [slx, ↓reduceIte, jA, reduceCtorEq] | (apply hX; clear hX X) | (clear hX X; apply hX; clear hX X)))
     refine aDrw (fun _ => True) (by kernel_rfl) trivial ?_; simp -implicitDefEqProofs only [↓slp, ↓reduceIte, reduceCtorEq, jA, jB, jE, jF, Yf, h13, h14, h15, g0, hnb2, hT, hG, pI, List.getElem?_concat_length, set_concat_length]
     (repeat ((apply And.intro; (focus (first | omega | (repeat' apply And.intro) <;> first | omega | assumption | trivial)))))
     apply hX; clear hX X
     (repeat (refine aReg ?_; simp -implicitDefEqProofs only [↓slp, slb, ↓reduceIte, jA, jF, h15, hi, pI]))
     rw [hI2]
     rw [c1, c2] at hadd
     exact ⟨⟨jj + 1, .tok mm2.nt, (oL.use mm2).fresh 15, hlt, h0, h3, h8, h9, h13, h14, rfl, ht3, gL3, gB3, gB.ne_new, by rw [hadd]; simp only [Bool.not_false, Bool.and_self, if_true, List.map_append, List.map_singleton]; rfl⟩, by omega⟩
  ·have hlt : jj = T.length := by simp at hb; omega
   subst hlt
   rw [List.take_length]
   (repeat (first | refine aSeq fun X hX => ?_ | refine aBlk ?_ | refine aExit ?_; try simp only [slx, ↓reduceIte, jA, reduceCtorEq] | clear hX X; apply hX; clear hX X))
   have hale := addLasts_len s.lasts T
   have hE4 : ∀ q' : Int, q' ≤ 20 → cE d q' ≤ cE d 20 := fun q' h => by unfold cE; have : q'.toNat ≤ (20 : Int).toNat := Int.toNat_le_toNat h; omega
   obtain ⟨c, hc⟩ : ∃ c, cE d 20 = c := ⟨_, rfl⟩
   rw [hc] at hE4 hcB
   obtain ⟨sc0, hsc0⟩ : ∃ sc0 : Sc, sc0 = ⟨s.ready, s.ready ++ own ++ outs, addLasts s.lasts T⟩ := ⟨_, rfl⟩
   obtain ⟨I3, hI3⟩ : ∃ I3 : F → M → Prop, ∀ f m', I3 f m' = (∃ (todo : List Va) (u : Sc) (l : List Qu) (vs : List Va) (oT oA oB oC ov oe : Own) (mm3 : M) (i' n' : Nat) (q' : Int), todo.length ≤ T.length ∧ (∀ v ∈ todo, isTy v.t) ∧ f 0 = .bp p.gp 0 ∧ f 3 = pI d ∧ f 8 = .bp m.nb 0 ∧ f 9 = .bp (m.nb + 1) 0 ∧ f 13 = .sl oT (todo.map Va.pv) ∧ f 14 = .bp (m.nb + (r.length + 1 + 1)) 0 ∧
    u.ready.length + todo.length ≤ k + 6 ∧ u.all.length ≤ k + 6 ∧ u.lasts.length ≤ k + 6 ∧ l.length + todo.length * (3 + c) ≤ T.length * (3 + c) ∧ vs.length + todo.length * c ≤ T.length * c + 3 ∧ Cnt ((T.length - todo.length) * c) (n + j) q n' q' ∧
    (∀ l' vs' n'', GTodo (RE p.subs) n' n'' u todo l' vs' → ∃ vs0, vs ++ vs' = own ++ vs0 ∧ GTodo (RE p.subs) (n + j) n'' sc0 T (l ++ l') vs0) ∧
    Toks m mm3 ∧ Mine m mm3 ov 15 ∧ Mine m mm3 oe 16 ∧ (∀ t, ov = .tok t → oe ≠ .tok t) ∧ m' = gst p (mm3.ext (some [PV.sl Own.full [], PV.sl Own.full []] :: some [PV.sl ov (vs.map Va.pv), PV.sl oe (l.map Qu.pv)] :: (r ++ [some [PV.sl oA (u.ready.map Va.pv), PV.sl oB (u.all.map Va.pv), PV.sl oC (u.lasts.map Va.pv)]]))) i' (n' : Int) q') := ⟨_, fun _ _ => rfl⟩
   refine aLoop I3 (fun f m => lenP (f 13)) ?_ ?_
   ·rw [hI3]
    refine ⟨T, sc0, [], own, oT, .no, oA, oL, o2, .full, mm2, i1, n + j, q, Nat.le_refl _, hTty, h0, h3, h8, h9, h13, h14, ?_, ?_, ?_, ?_, ?_, ?_, ?_, ht2, gB, .full, (fun _ _ h => by cases h), ?_⟩
    ·rw [hsc0]; simp only []; omega
    ·rw [hsc0]; simp only [List.length_append]; have := hs.ready; rw [← hTe, List.length_append] at hTl; omega
    ·rw [hsc0]; simp only []; omega
    ·simp
    ·omega
    ·rw [Nat.sub_self, Nat.zero_mul]; exact Cnt.refl 0 _ _
    ·intro l' vs' n'' h; exact ⟨vs', rfl, h⟩
    ·rw [hsc0]; rfl
   intro f3 m' hrel
   rw [hI3] at hrel
   clear h0 h3 h8 h9 h13 h14 h15 hb ht2 gL gB hne hnb2 hG2 hT2 hTv
   obtain ⟨todo, u, l, vs, oT, oA, oB, oC, ov, oe, mm3, i3, n3, q3, htl, httl, h0, h3, h8, h9, h13, h14, hu1, hu2, hu3, hl1, hl2, hcnt, hco, ht3, gv, ge, hne, rfl⟩ := hrel
   have hnb3 := ht3.nb
   have hG3 : p.gp < mm3.nb := by rw [ht3.nb]; exact hG
   have hT3 : p.tp < mm3.nb := by rw [ht3.nb]; exact hT
   have hmu : lenP (f3 13) = todo.length := by rw [h13]; simp [lenP]
   (repeat (first | refine aSeq fun X hX => ?_ | refine aReg ?_; simp -implicitDefEqProofs only [↓slp, ↓reduceIte, jF, Yf, h13] | apply hX; clear hX X | intro hlen; unfold maxLen at hlen))
   refine aIf ?_; simp -implicitDefEqProofs only [slb, ↓reduceIte]; refine ⟨fun hb => ?_, fun hb => ?_⟩
   ·have hlt : 0 < todo.length := by simpa using hb
    (repeat (first | refine aSeq fun X hX => ?_ | refine aSkip ?_ | refine aReg ?_; simp -implicitDefEqProofs only [↓slp, ↓reduceIte, reduceCtorEq, jB, jF, Yf, h0, hnb3, hG] | apply hX; clear hX X))
    refine callM (next_any p _ ((hok.toks ht3).ext _) 3 (by omega) _ _ q3) ?_
    rintro v m' ⟨r1, i4, rfl, ⟨hr2, hr3⟩, rfl⟩
    obtain ⟨k1, hk1⟩ : ∃ k1 : Nat, r1 = k1 := ⟨r1.toNat, (Int.toNat_of_nonneg hr2).symm⟩
    subst hk1
    have hw1 : IntKind.i64.wrap (1 + (k1 : Int)) = ((k1 + 1 : Nat) : Int) := by rw [wrap64 (by omega)]; omega
    simp -implicitDefEqProofs only [↓slp, slb, ↓reduceIte, jF, h13, hw1, pI]
    apply hX; clear hX X
    (repeat (first | refine aSeq fun X hX => ?_ | (first | apply aReg | apply aIf); simp -implicitDefEqProofs only [↓slp, ↓reduceIte, jA, jF, Yf, h13] | apply hX; clear hX X | intro hlen; unfold maxLen at hlen))
    have fin3 : ∀ (f : F) (kk : Nat), 1 ≤ kk → kk ≤ 3 → kk ≤ todo.length → f 0 = .bp p.gp 0 → f 3 = pI d → f 8 = .bp m.nb 0 → f 9 = .bp (m.nb + 1) 0 → f 13 = .sl oT (todo.map Va.pv) → f 14 = .bp (m.nb + (r.length + 1 + 1)) 0 → f 16 = pI kk → X f (gst p (mm3.ext (some [PV.sl Own.full [], PV.sl Own.full []] :: some [PV.sl ov (vs.map Va.pv), PV.sl oe (l.map Qu.pv)] :: (r ++ [some [PV.sl oA (u.ready.map Va.pv), PV.sl oB (u.all.map Va.pv), PV.sl oC (u.lasts.map Va.pv)]]))) i4 (n3 : Int) q3) := by
     intro f kk hk1 hk3 hkt h0 h3 h8 h9 h13 h14 h16
     apply hX; clear hX X
     have htv := va_len todo
     have hkt' : (kk : Int) ≤ (todo.length : Int) := by omega
     have hk0 : (0 : Int) ≤ (kk : Int) := by omega
     have gtk : List.take kk (todo.map Va.pv) = (todo.take kk).map Va.pv := (List.map_take ..).symm
     have gdk : List.drop kk (todo.map Va.pv) = (todo.drop kk).map Va.pv := (List.map_drop ..).symm
     have htkl : (todo.take kk).length = kk := by rw [List.length_take]; omega
     have hdkl : (todo.drop kk).length = todo.length - kk := List.length_drop ..
     have hc1 := hcnt.n
     have hc2 := hcnt.q0
     have hc3 := hcnt.q1
     have hq3 : q3 ≤ 20 := by omega
     have hce := hE4 q3 hq3
     have hTc : (T.length - todo.length) * c + c ≤ 6 * c := by
      have : (T.length - todo.length + 1) * c ≤ 6 * c := Nat.mul_le_mul_right _ (by omega)
      rwa [Nat.succ_mul] at this
     (repeat refine aSeq fun X hX => ?_)
     refine aDrw (isG p (mm3.ext (some [PV.sl Own.full [], PV.sl Own.full []] :: some [PV.sl ov (vs.map Va.pv), PV.sl oe (l.map Qu.pv)] :: (r ++ [some [PV.sl oA (u.ready.map Va.pv), PV.sl oB (u.all.map Va.pv), PV.sl oC (u.lasts.map Va.pv)]])))) (by kernel_rfl) ⟨_, _, _, rfl⟩ ?_
     simp -implicitDefEqProofs only [↓slp, ↓reduceIte, jA, jB, jE, jF, jH, Yf, h0, h3, h13, h14, h16, gtk, hkt', hk0, hnb3, isG_all, hT, hG, pI, List.getElem?_concat_length]
     refine ⟨⟨_, rfl, htv⟩, ?_⟩
     refine callMS (E p _ ((hok.toks ht3).ext _) u (k + 6) ⟨by omega, hu2, hu3⟩ (todo.take kk) (by omega) (fun v hv => httl v (List.mem_of_mem_take hv)) i4 n3 q3 (by omega) (by omega) hq3 hq3 (by omega)) rfl ?_
     rintro v m' ⟨le, ve, i5, n5, q5, rfl, hre, hle, hve, hcnt5, rfl⟩
     refine ⟨⟨_, _, _, rfl⟩, ?_⟩
     simp -implicitDefEqProofs only [↓slp, slb, ↓reduceIte, jA, jB, jF]
     apply hX; clear hX X
     have hql := qu_len l
     have hqe := qu_len le
     have hvv := va_len vs
     have hve2 := va_len ve
     have hc6 : T.length * (3 + c) ≤ 6 * (3 + c) := Nat.mul_le_mul_right _ hTl
     have hc7 : T.length * c ≤ 6 * c := Nat.mul_le_mul_right _ hTl
     have hmx1 : l.length + le.length ≤ maxLen := by unfold maxLen; omega
     have hmx2 : vs.length + ve.length ≤ maxLen := by unfold maxLen; omega
     have hf1 := ge.free
     have t1 := ht3.use (s := 16) ge
     have gE1 := Mine.new ht3 oe 16
     have gV1 : Mine m ((oe.use mm3).fresh 16) ov 15 := gv.other (fun t h1 h2 => hne t h2 h1)
     have hf2 := gV1.free
     generalize hM1 : (oe.use mm3).fresh 16 = mm4 at *
     have t2 := t1.use (s := 15) gV1
     have gV2 := Mine.new t1 ov 15
     have gE2 : Mine m ((ov.use mm4).fresh 15) (.tok mm3.nt) 16 := gE1.other (fun t h1 h2 => by rw [h1] at gv; exact gv.ne_new t h2 rfl)
     generalize hM2 : (ov.use mm4).fresh 15 = mm5 at *
     have hnb4 := t1.nb
     have hnb5 := t2.nb
     have hG5 : p.gp < mm5.nb := by rw [t2.nb]; exact hG
     have hT5 : p.tp < mm5.nb := by rw [t2.nb]; exact hT
     (repeat (first | refine aSeq fun X hX => ?_ | refine aReg ?_; simp -implicitDefEqProofs only [↓slp, ↓reduceIte, reduceCtorEq, jA, jB, jE, jF, Yf, h9, hnb3, hnb4, hnb5, hM1, hM2, hT, hG] | apply hX; clear hX X | apply And.intro; focus ((repeat' apply And.intro) <;> first | omega | assumption)))
     refine aDrw (fun _ => True) (by kernel_rfl) trivial ?_; simp -implicitDefEqProofs only [↓slp, ↓reduceIte, jA, jB, jE, jF, jH, Yf, h13, h14, h16, gtk, hkt', hk0, hnb5, hT, hG, pI, List.getElem?_concat_length]
     refine ⟨⟨_, rfl, htv⟩, ?_⟩
     refine callMS (more_any u .no (todo.take kk) (by omega) _) rfl ?_
     rintro v m' ⟨rfl, rfl⟩
     refine ⟨trivial, ?_⟩
     simp -implicitDefEqProofs only [↓slp, ↓reduceIte, jA, jB, jE, Yf, h14, hnb5, hT, hG, List.getElem?_concat_length, set_concat_length]
     (repeat (first | (intro hlen; unfold maxLen at hlen) | (apply And.intro; (focus (first | omega | assumption | trivial | (repeat' apply And.intro) <;> first | omega | assumption | trivial)))))
     apply hX; clear hX X
     (repeat (refine aReg ?_; simp -implicitDefEqProofs only [↓slp, ↓reduceIte, jA, jF, Yf, h13, h16, hkt', hk0, pI]))
     refine ⟨⟨by omega, _, rfl, htv⟩, ?_⟩
     have gtl : List.take todo.length (todo.map Va.pv) = todo.map Va.pv := by rw [← List.length_map (f := Va.pv), List.take_length]
     rw [gtl, gdk, hI3]
     have hm1 : (todo.length - kk) * (3 + c) + (3 + c) ≤ todo.length * (3 + c) := by
      rw [← Nat.succ_mul]; exact Nat.mul_le_mul_right _ (by omega)
     have hm2 : (todo.length - kk) * c + c ≤ todo.length * c := by
      rw [← Nat.succ_mul]; exact Nat.mul_le_mul_right _ (by omega)
     have hm3 : (T.length - todo.length) * c + c ≤ (T.length - (todo.length - kk)) * c := by
      rw [← Nat.succ_mul]; exact Nat.mul_le_mul_right _ (by omega)
     have hmr := (u.more (todo.take kk)).ready
     refine ⟨⟨todo.drop kk, u.more (todo.take kk), l ++ le, vs ++ ve, oT, .no, .no, .no, .tok mm4.nt, .tok mm3.nt, mm5, i5, n5, q5, by omega, fun v hv => httl v (List.mem_of_mem_drop hv), h0, h3, h8, h9, rfl, h14, ?_, ?_, ?_, ?_, ?_, ?_, ?_, t2, gV2, gE2, ?_, ?_⟩, ?_⟩
     ·simp only [Sc.more, List.length_append]; omega
     ·exact hu2
     ·exact hu3
     ·rw [List.length_append, hdkl]; omega
     ·rw [List.length_append, hdkl]; omega
     ·rw [hdkl]; exact (hcnt.trans hcnt5).le (by omega)
     ·intro l' vs' n'' h
      have hst := GTodo.step (a := todo.take kk) (r := todo.drop kk) (by omega) (by omega) hre h
      rw [List.take_append_drop] at hst
      obtain ⟨vs0, e1, e2⟩ := hco _ _ _ hst
      exact ⟨vs0, by rw [List.append_assoc]; exact e1, by rw [List.append_assoc]; exact e2⟩
     ·intro t h1 h2
      exact gE1.ne_new t h1 h2
     ·rw [List.map_append, List.map_append]
     ·rw [hmu]; show (List.map Va.pv (todo.drop kk)).length < _; rw [List.length_map, hdkl]; omega
    refine ⟨fun c1 => ?_, fun c1 => ?_⟩
    ·have hgt := of_decide_eq_true c1
     (repeat (first | refine aReg ?_; simp -implicitDefEqProofs only [↓slp, ↓reduceIte, jA, jF, Yf, h13] | intro hlen; unfold maxLen at hlen))
     exact fin3 _ todo.length hlt (by omega) (Nat.le_refl _) h0 h3 h8 h9 h13 h14 rfl
    ·have hgt := of_decide_eq_false c1
     (repeat refine aSkip ?_)
     exact fin3 _ (k1 + 1) (by omega) (by omega) (by omega) h0 h3 h8 h9 h13 h14 rfl
   ·have hlt : todo = [] := List.eq_nil_of_length_eq_zero (by have := of_decide_eq_false hb; omega)
    subst hlt
    (repeat (first | refine aSeq fun X hX => ?_ | (first | refine aExit ?_ | refine aRet ?_); try simp only [slx, ↓reduceIte, jA, reduceCtorEq] | refine aReg ?_; simp -implicitDefEqProofs only [↓slp, ↓reduceIte, jA, jB, jE, jF, Yf, h8, h9, hnb3, hT, hG] | apply hX; clear hX X | clear hX X; apply hX; clear hX X))
    simp only [aPost, Try.results103, aRes_n, aRes_t, aRes_c, pack_one, pack_two]
    simp -implicitDefEqProofs only [↓reduceIte, jA, jB, jE, Yf, h8, hnb3, hT, hG]
    obtain ⟨vs0, hv0, hg0⟩ := hco [] [] _ .nil
    rw [List.append_nil] at hv0 hg0
    have hTc : (T.length - ([] : List Va).length) * c ≤ 6 * c := Nat.mul_le_mul_right _ (by simp only [List.length_nil]; omega)
    refine leave_gst hok ht3 rfl ⟨⟨vs, l⟩, i3, n3, q3, rfl, ⟨own, l, vs0, hv1, hown, by rw [hol3, hTe]; rw [hsc0] at hg0; exact hg0, by rw [hv0]⟩, ?_, rfl⟩
    have := hcnt.n; have := hcnt.q0; have := hcnt.q1
    exact ⟨by omega, by omega, by omega⟩
end Go.Proofs.Ytibhhoknipdlpaa
