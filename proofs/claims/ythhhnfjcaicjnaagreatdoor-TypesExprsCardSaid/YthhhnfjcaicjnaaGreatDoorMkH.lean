/-
 Texts that belong together: AbMk16, AbMk17, AbMk18, AbFr.
-/
-- halved
import Derived.Test.YthhhnfjcaicjnaaGreatDoorAbMac
import Derived.Test.YthhhnfjcaicjnaaGreatDoorMkF
set_option linter.unusedSectionVars false
set_option linter.unusedVariables false
set_option linter.unusedSimpArgs false
namespace Go.Proofs.YthhhnfjcaicjnaaGreatDoor
open Nat renaming reduceEqDiff → jA, reduceAdd → jB, reduceMul → jC, reduceLT → jD, reduceLeDiff → jE, reduceBEq → jF, reduceBNe → jG
open Int renaming reduceLE → jH, reduceLT → jI, reduceToNat → jJ, reduceEq → jK
open Go
set_option linter.defProp false
def tfAbMk16 := tfAbMk13

def GVar (k : Nat) (v : Va) : Prop := ∃ t l e, isTy t ∧ ((l = false ∧ e = zE) ∨ (l = true ∧ isConst t e)) ∧ v = ⟨nameS ⟨#[118]⟩ k, t, [], l, e, 0, 0⟩
def GOwn : Nat → List Va → Prop
 | _, [] => True
 | n, v :: l => GVar (n + 1) v ∧ GOwn (n + 1) l
theorem GOwn_snoc {v : Va} : ∀ {l : List Va} {n : Nat}, GOwn n l → GVar (n + l.length + 1) v → GOwn n (l ++ [v])
 | [], n, _, hv => ⟨hv, trivial⟩
 | w :: l, n, ⟨h1, h2⟩, hv => ⟨h1, GOwn_snoc h2 (by rwa [show n + 1 + l.length + 1 = n + (w :: l).length + 1 by simp; omega])⟩
theorem GOwn_ty : ∀ {l : List Va} {n : Nat}, GOwn n l → ∀ v ∈ l, isTy v.t
 | w :: l, n, ⟨h1, h2⟩, v, hv => by
  rcases List.mem_cons.1 hv with rfl | hv
  ·obtain ⟨t, l, e, ht, _, rfl⟩ := h1; exact ht
  ·exact GOwn_ty h2 v hv
def addLasts (l : List Va) : List Va → List Va
 | [] => l
 | v :: r => addLasts (if v.last && !(hasV l v.name) then l ++ [v] else l) r
theorem addLasts_take {t : List Va} : ∀ {l : List Va} {k : Nat} (h : k < t.length), addLasts l (t.take (k + 1)) = (if t[k].last && !(hasV (addLasts l (t.take k)) t[k].name) then addLasts l (t.take k) ++ [t[k]] else addLasts l (t.take k)) := by
 induction t with
 | nil => intro l k h; simp at h
 | cons a t ih =>
  intro l k h
  cases k with
  | zero => simp [addLasts]
  | succ k =>
   simp only [List.take_succ_cons, addLasts, List.getElem_cons_succ]
   exact ih (by simpa using h)
theorem addLasts_len (l : List Va) : ∀ t : List Va, (addLasts l t).length ≤ l.length + t.length := by
 intro t
 induction t generalizing l with
 | nil => simp [addLasts]
 | cons a t ih =>
  unfold addLasts
  refine Nat.le_trans (ih _) ?_
  split <;> simp <;> omega
def lenP : PV → Nat
 | .sl _ xs => xs.length
 | _ => 0
inductive GTodo (RE : RET) : Nat → Nat → Sc → List Va → List Qu → List Va → Prop
 | nil {n s} : GTodo RE n n s [] [] []
 | step {n n1 n' s a r l vs l' vs'} : 1 ≤ a.length → a.length ≤ 3 → RE n n1 s a l vs → GTodo RE n1 n' (s.more a) r l' vs' → GTodo RE n n' s (a ++ r) (l ++ l') (vs ++ vs')
def GBlk (RE : RET) (n n' : Nat) (s : Sc) (outs : List Va) (b : Bk) : Prop := ∃ own l vs, own.length ≤ 3 ∧ GOwn n own ∧ GTodo RE (n + own.length) n' ⟨s.ready, s.ready ++ own ++ outs, addLasts s.lasts (own ++ outs)⟩ (own ++ outs) l vs ∧ b = ⟨own ++ vs, l⟩

set_option maxRecDepth 20000 in
set_option maxHeartbeats 8000000 in
theorem block_step (d : Nat) (hd : d < 1000) (RE : Int → RET) (E : EqsC d 20 RE) : BlockC d (fun u => GBlk (RE u)) := by
 intro p m hok s k hs outs ho hty i n q hk hn hq hq2
 have hG := hok.gp
 have hT := hok.tp
 have hcB : cB d = 10 + 6 * cE d 20 := by cases d <;> simp [cB, cE, cP] <;> omega
 refine eN [8, 9, 12, 14, 108, 151] Tryz.func42 ?_
 (repeat revert X); refine wE (And.intro tfAbMk16 (And.intro hT hG)) ?_; repeat intro X hX
 refine callM (next_any p _ (hok.ext _) 4 (by omega) i n q) ?_
 rintro v m' ⟨r0, i0, rfl, ⟨hr0, hr1⟩, rfl⟩
 obtain ⟨nv, rfl⟩ : ∃ nv : Nat, r0 = nv := ⟨r0.toNat, (Int.toNat_of_nonneg hr0).symm⟩
 refine wS aEQ_t ?_
 (repeat revert X); refine wE aEQ_t ?_; repeat intro X hX
 obtain ⟨I, hI⟩ : ∃ I : F → M → Prop, ∀ f m', I f m' = (∃ (j : Nat) (own : List Va) (o2 : Own) (mm : M) (r : List (Option (List PV))) (i' : Nat), j ≤ nv ∧ f 0 = .bp p.gp 0 ∧ f 2 = .sl .no (outs.map Va.pv) ∧ f 3 = pI d ∧ f 5 = .ep [.sl .no (s.ready.map Va.pv), .sl .no (s.all.map Va.pv), .sl .no (s.lasts.map Va.pv)] ∧ f 8 = .bp m.nb 0 ∧ f 9 = .bp (m.nb + 1) 0 ∧ f 10 = pI nv ∧ f 11 = pI j ∧ own.length = j ∧ GOwn n own ∧ Toks m mm ∧ Mine m mm o2 15 ∧ m' = gst p (mm.ext (some [PV.sl Own.full [], PV.sl Own.full []] :: some [PV.sl o2 (own.map Va.pv), PV.sl .full []] :: r)) i' ((n + j : Nat) : Int) q) := ⟨_, fun _ _ => rfl⟩
 refine aLoop I (fun f m => nv - numOf (f 11)) ?_ ?_
 ·rw [hI]; exact ⟨0, [], .full, m, [], i0, by omega, rfl, rfl, rfl, rfl, rfl, rfl, rfl, rfl, rfl, trivial, .refl _, .full, rfl⟩
 intro f m' hrel
 rw [hI] at hrel
 obtain ⟨j, own, o2, mm, r, i1, hj, h0, h2, h3, h5, h8, h9, h10, h11, hlen, hown, ht, g2, rfl⟩ := hrel
 have hnb := ht.nb
 have hG' : p.gp < mm.nb := by rw [ht.nb]; exact hG
 have hT' : p.tp < mm.nb := by rw [ht.nb]; exact hT
 (repeat revert X); refine wW (And.intro h10 (And.intro h11 @pI.eq_1)) ?_; repeat intro X hX
 refine aIf ?_; simp -implicitDefEqProofs only [slb, ↓reduceIte]; refine ⟨fun hb => ?_, fun hb => ?_⟩
 ·have hlt : j < nv := by simpa using hb
  have hi : IntKind.i64.wrap ((j : Int) + 1) = ((j + 1 : Nat) : Int) := by rw [wrap64 (by omega)]; omega
  have hmu : numOf (f 11) = j := by rw [h11]; rfl
  (repeat revert X); refine wE h0 ?_; repeat intro X hX
  refine callM (name_any p _ ((hok.toks ht).ext _) ⟨#[118]⟩ (by decide) i1 (n + j) q (by omega)) ?_
  rintro v m' ⟨rfl, rfl⟩
  refine wS h0 ?_
  refine callM (typ_any p _ ((hok.toks ht).ext _) i1 _ q) ?_
  rintro v m' ⟨t, i2, rfl, hty1, rfl⟩
  simp -implicitDefEqProofs only [↓slp, slb, ↓reduceIte, jA, jB, jD, jE, jF, tfAbMk16, h11, hnb, hT, hG, pI, List.getElem?_concat_length, set_concat_length, Ty.pv]
  apply hX; clear hX X
  (repeat revert X); refine wE (And.intro tfAbMk16 (And.intro h0 (And.intro hnb hG))) ?_; repeat intro X hX
  refine callM (next_any p _ ((hok.toks ht).ext _) 3 (by omega) _ _ q) ?_
  rintro v m' ⟨r1, i3, rfl, ⟨hr2, hr3⟩, rfl⟩
  refine wS (And.intro h11 @pI.eq_1) ?_
  apply hX; clear hX X
  have fin : ∀ (f : F) (lb : Bool) (e : Ex) (oo : Own) (i4 : Nat), ((lb = false ∧ e = zE) ∨ (lb = true ∧ isConst t e)) → f 0 = .bp p.gp 0 → f 2 = .sl .no (outs.map Va.pv) → f 3 = pI d → f 5 = .ep [.sl .no (s.ready.map Va.pv), .sl .no (s.all.map Va.pv), .sl .no (s.lasts.map Va.pv)] → f 8 = .bp m.nb 0 → f 9 = .bp (m.nb + 1) 0 → f 10 = pI nv → f 11 = pI j → f 12 = .bp (m.nb + (r.length + 1 + 1)) 0 → X f (gst p (mm.ext (some [PV.sl Own.full [], PV.sl Own.full []] :: some [PV.sl o2 (own.map Va.pv), PV.sl .full []] :: (r ++ [some [PV.v (Value.string (nameS ⟨#[118]⟩ (n + j + 1))), PV.v (Value.int IntKind.u8 t.kind), PV.v (Value.string t.name), PV.sl Own.full [], PV.v (Value.bool lb), PV.v (Value.int IntKind.u8 e.kind), PV.v (Value.int IntKind.u8 e.op), PV.v (Value.int IntKind.i32 e.n), PV.v (Value.string e.name), PV.sl oo (e.names.map pS), PV.sl oo (e.kids.map Ex.pv), PV.v (Value.int IntKind.i64 e.line), PV.v (Value.int IntKind.i64 e.col), PV.v (Value.int IntKind.i64 0), PV.v (Value.int IntKind.i64 0)]]))) i4 ((n + j + 1 : Nat) : Int) q) := by
   intro f lb e oo i4 he h0 h2 h3 h5 h8 h9 h10 h11 h12
   apply hX; clear hX X
   have hmx : own.length + 1 ≤ maxLen := by unfold maxLen; omega
   have hf := g2.free
   have hvl := va_len own
   have ht1 := ht.use (s := 15) g2
   have g2' := Mine.new ht o2 15
   (repeat (first | refine aReg ?_; simp -implicitDefEqProofs only [↓slp, slb, ↓reduceIte, reduceCtorEq, jA, jB, jE, jF, tfAbMk16, h9, h11, h12, hi, hnb, hT, hG, pI, List.getElem?_concat_length] | apply hX; clear hX X | apply And.intro; focus (first | omega | (repeat' apply And.intro) <;> first | omega | assumption)))
   rw [hI]
   refine ⟨⟨j + 1, own ++ [⟨nameS ⟨#[118]⟩ (n + j + 1), t, [], lb, e, 0, 0⟩], .tok mm.nt, (o2.use mm).fresh 15, r ++ [some [PV.v (Value.string (nameS ⟨#[118]⟩ (n + j + 1))), PV.v (Value.int IntKind.u8 t.kind), PV.v (Value.string t.name), PV.sl Own.full [], PV.v (Value.bool lb), PV.v (Value.int IntKind.u8 e.kind), PV.v (Value.int IntKind.u8 e.op), PV.v (Value.int IntKind.i32 e.n), PV.v (Value.string e.name), PV.sl oo (e.names.map pS), PV.sl oo (e.kids.map Ex.pv), PV.v (Value.int IntKind.i64 e.line), PV.v (Value.int IntKind.i64 e.col), PV.v (Value.int IntKind.i64 0), PV.v (Value.int IntKind.i64 0)]], i4, hlt, h0, h2, h3, h5, h8, h9, h10, rfl, by simp [hlen], GOwn_snoc hown ⟨t, lb, e, hty1, he, by rw [hlen]⟩, ht1, g2', ?_⟩, by omega⟩
   rw [List.map_append, List.map_singleton]
   rfl
  cases c1 : (r1 == 0) with
  | true =>
   (repeat (first | refine aSeq fun X hX => ?_ | (first | apply aReg | apply aIf); simp -implicitDefEqProofs only [↓slp, slb, ↓reduceIte, reduceCtorEq, jA, jB, jE, jF, tfAbMk16, h0, h11, hnb, hT, hG, pI, List.getElem?_concat_length, set_concat_length] | apply hX; clear hX X))
   refine callM (constant_any p _ ((hok.toks ht).ext _) t hty1 i3 _ q) ?_
   rintro v m' ⟨e, i4, rfl, he, rfl⟩
   simp -implicitDefEqProofs only [↓slp, slb, ↓reduceIte, reduceCtorEq, jA, jB, jE, jF, tfAbMk16, hnb, hT, hG, List.getElem?_concat_length, set_concat_length]
   exact fin _ true e .no i4 (.inr ⟨rfl, he⟩) h0 h2 h3 h5 h8 h9 h10 h11 rfl
  | false =>
   refine vE (And.intro h11 @pI.eq_1) ?_; repeat intro X hX
   exact fin _ false zE .full i3 (.inl ⟨rfl, rfl⟩) h0 h2 h3 h5 h8 h9 h10 h11 rfl
 ·have hlt : j = nv := by simp at hb; omega
  subst hlt
  have hvl := va_len own
  have hol : ∀ x ∈ outs.map Va.pv, x.cells.length = 15 := va_len outs
  have hrl : ∀ x ∈ s.ready.map Va.pv, x.cells.length = 15 := va_len s.ready
  have hll : ∀ x ∈ s.lasts.map Va.pv, x.cells.length = 15 := va_len s.lasts
  have hr1 := hs.ready
  have hr2 := hs.lasts
  have hm1 : own.length + outs.length ≤ maxLen := by unfold maxLen; omega
  have hm2 : own.length ≤ maxLen := by unfold maxLen; omega
  have hm3 : s.ready.length ≤ maxLen := by unfold maxLen; omega
  have hm4 : s.ready.length + own.length ≤ maxLen := by unfold maxLen; omega
  have hm5 : s.ready.length + own.length + outs.length ≤ maxLen := by unfold maxLen; omega
  have hm6 : s.lasts.length ≤ maxLen := by unfold maxLen; omega
  have hv1 : own.length ≤ 3 := by omega
  have hol3 := hlen
  have tk1 : Toks m (mm.fresh 15) := ht.use (o := .full) (s := 15) (s' := 15) Mine.full
  have gT1 : Mine m (mm.fresh 15) (.tok mm.nt) 15 := Mine.new (o := .full) ht 15
  have gB1 : Mine m (mm.fresh 15) o2 15 := g2.other (o := .full) (s := 15) (fun _ h => by cases h)
  have a1 : (mm.fresh 15).alive mm.nt 15 := gT1.free
  generalize hM2 : ((mm.fresh 15).kill mm.nt).fresh 15 = m2 at *
  have tk2 : Toks m m2 := hM2 ▸ tk1.use (o := .tok mm.nt) (s := 15) gT1
  have gT2 : Mine m m2 (.tok (mm.fresh 15).nt) 15 := hM2 ▸ Mine.new tk1 (.tok mm.nt) 15
  have gB2 : Mine m m2 o2 15 := hM2 ▸ gB1.other (o := .tok mm.nt) (s := 15) g2.ne_new
  have tk3 : Toks m (m2.fresh 15) := tk2.use (o := .full) (s := 15) (s' := 15) Mine.full
  have gA3 : Mine m (m2.fresh 15) (.tok m2.nt) 15 := Mine.new (o := .full) tk2 15
  have gB3 : Mine m (m2.fresh 15) o2 15 := gB2.other (o := .full) (s := 15) (fun _ h => by cases h)
  have a3 : (m2.fresh 15).alive m2.nt 15 := gA3.free
  generalize hM4 : ((m2.fresh 15).kill m2.nt).fresh 15 = m4 at *
  have tk4 : Toks m m4 := hM4 ▸ tk3.use (o := .tok m2.nt) (s := 15) gA3
  have gA4 : Mine m m4 (.tok (m2.fresh 15).nt) 15 := hM4 ▸ Mine.new tk3 (.tok m2.nt) 15
  have gB4 : Mine m m4 o2 15 := hM4 ▸ gB3.other (o := .tok m2.nt) (s := 15) gB2.ne_new
  have a4 : m4.alive (m2.fresh 15).nt 15 := gA4.free
  generalize hM5 : (m4.kill (m2.fresh 15).nt).fresh 15 = m5 at *
  have tk5 : Toks m m5 := hM5 ▸ tk4.use (o := .tok (m2.fresh 15).nt) (s := 15) gA4
  have gA5 : Mine m m5 (.tok m4.nt) 15 := hM5 ▸ Mine.new tk4 (.tok (m2.fresh 15).nt) 15
  have gB5 : Mine m m5 o2 15 := hM5 ▸ gB4.other (o := .tok (m2.fresh 15).nt) (s := 15) gB3.ne_new
  have tk6 : Toks m (m5.fresh 15) := tk5.use (o := .full) (s := 15) (s' := 15) Mine.full
  have gL6 : Mine m (m5.fresh 15) (.tok m5.nt) 15 := Mine.new (o := .full) tk5 15
  have gB6 : Mine m (m5.fresh 15) o2 15 := gB5.other (o := .full) (s := 15) (fun _ h => by cases h)
  have nb2 := tk2.nb
  have nb4 := tk4.nb
  have nb5 := tk5.nb
  have hrow : ∀ x ∈ s.ready.map Va.pv ++ own.map Va.pv, x.cells.length = 15 := fun x hx => (List.mem_append.1 hx).elim (hrl x) (hvl x)
  (repeat (first | refine aSeq fun X hX => ?_ | refine aBlk ?_ | refine aExit ?_; try simp only [slx, ↓reduceIte, jA, reduceCtorEq] | refine aReg ?_; simp -implicitDefEqProofs only [↓slp, slb, ↓reduceIte, reduceCtorEq, jA, jB, jD, jE, jF, tfAbMk16, h2, h5, h9, hM2, hM4, hM5, nb2, nb4, nb5, List.length_append, hnb, hT, hG, List.getElem?_concat_length, set_concat_length] | apply hX; clear hX X | clear hX X; apply hX; clear hX X | apply And.intro; focus ((repeat' apply And.intro) <;> first | omega | assumption)))
  generalize Own.tok (mm.fresh 15).nt = oT at *
  generalize Own.tok m4.nt = oA at *
  have hmap : own.map Va.pv ++ outs.map Va.pv = (own ++ outs).map Va.pv := by rw [List.map_append]
  have hmap3 : s.ready.map Va.pv ++ own.map Va.pv ++ outs.map Va.pv = (s.ready ++ own ++ outs).map Va.pv := by rw [List.map_append, List.map_append]
  have hTl : (own ++ outs).length ≤ 6 := by rw [List.length_append]; omega
  have hTty : ∀ v ∈ own ++ outs, isTy v.t := fun v hv => (List.mem_append.1 hv).elim (GOwn_ty hown v) (hty v)
  obtain ⟨T, hTe⟩ : ∃ T, own ++ outs = T := ⟨_, rfl⟩
  rw [hmap, hmap3, hTe]
  rw [hTe] at hTl hTty
  obtain ⟨I2, hI2⟩ : ∃ I2 : F → M → Prop, ∀ f m', I2 f m' = (∃ (jj : Nat) (oL : Own) (mm2 : M), jj ≤ T.length ∧ f 0 = .bp p.gp 0 ∧ f 3 = pI d ∧ f 8 = .bp m.nb 0 ∧ f 9 = .bp (m.nb + 1) 0 ∧ f 13 = .sl oT (T.map Va.pv) ∧ f 14 = .bp (m.nb + (r.length + 1 + 1)) 0 ∧ f 15 = pI jj ∧ Toks m mm2 ∧ Mine m mm2 oL 15 ∧ Mine m mm2 o2 15 ∧ (∀ t, oL = .tok t → o2 ≠ .tok t) ∧ m' = gst p (mm2.ext (some [PV.sl Own.full [], PV.sl Own.full []] :: some [PV.sl o2 (own.map Va.pv), PV.sl .full []] :: (r ++ [some [PV.sl Own.no (s.ready.map Va.pv), PV.sl oA ((s.ready ++ own ++ outs).map Va.pv), PV.sl oL ((addLasts s.lasts (T.take jj)).map Va.pv)]]))) i1 ((n + j : Nat) : Int) q) := ⟨_, fun _ _ => rfl⟩
  refine aLoop I2 (fun f m => T.length - numOf (f 15)) ?_ ?_
  ·rw [hI2]; exact ⟨0, _, m5.fresh 15, by omega, h0, h3, h8, h9, rfl, rfl, rfl, tk6, gL6, gB6, gB5.ne_new, rfl⟩
  intro f2 m' hrel
  rw [hI2] at hrel
  clear h0 h2 h3 h5 h8 h9 h10 h11 hb tk1 gT1 gB1 a1 tk2 gT2 gB2 tk3 gA3 gB3 a3 tk4 gA4 gB4 a4 tk5 gA5 gB5 tk6 gL6 gB6 nb2 nb4 nb5
  obtain ⟨jj, oL, mm2, hjj, h0, h3, h8, h9, h13, h14, h15, ht2, gL, gB, hne, rfl⟩ := hrel
  have hnb2 := ht2.nb
  have hG2 : p.gp < mm2.nb := by rw [ht2.nb]; exact hG
  have hT2 : p.tp < mm2.nb := by rw [ht2.nb]; exact hT
  have hTv := va_len T
  (repeat revert X); refine wW (And.intro tfAbMk16 (And.intro h13 (And.intro h15 @pI.eq_1))) ?_; repeat intro X hX
  refine aIf ?_; simp -implicitDefEqProofs only [slb, ↓reduceIte]; refine ⟨fun hb => ?_, fun hb => ?_⟩
  ·have hlt : jj < T.length := by simpa using hb
   have hi : IntKind.i64.wrap ((jj : Int) + 1) = ((jj + 1 : Nat) : Int) := by rw [wrap64 (by omega)]; omega
   have g0 := getD_map Va.pv T jj hlt
   have hmu : numOf (f2 15) = jj := by rw [h15]; rfl
   have hadd := addLasts_take (l := s.lasts) hlt
   have hale := addLasts_len s.lasts (T.take jj)
   rw [List.length_take] at hale
   obtain ⟨ls, hls⟩ : ∃ ls, addLasts s.lasts (T.take jj) = ls := ⟨_, rfl⟩
   rw [hls] at hadd hale ⊢
   cases c1 : T[jj].last with
   | false =>
    (repeat (first | refine aSeq fun X hX => ?_ | refine aSkip ?_ | (first | apply aReg | refine aDrE ?_ | apply aIf); simp -implicitDefEqProofs only [↓slp, slb, ↓reduceIte, reduceCtorEq, jA, jB, jE, jF, tfAbMk16, h13, h15, g0, c1, hi, pI] | apply hX; clear hX X | apply And.intro; focus omega))
    rw [hI2]
    rw [c1] at hadd
    exact ⟨⟨jj + 1, oL, mm2, hlt, h0, h3, h8, h9, h13, h14, rfl, ht2, gL, gB, hne, by rw [hadd]; rfl⟩, by omega⟩
   | true =>
    cases c2 : hasV ls T[jj].name with
    | true =>
     (repeat (first | refine aSeq fun X hX => ?_ | refine aSkip ?_ | refine aDrE ?_; simp -implicitDefEqProofs only [↓slp, slb, ↓reduceIte, reduceCtorEq, jA, jB, jE, jF, tfAbMk16, h13, h14, h15, g0, c1, hnb2, hT, hG, pI, List.getElem?_concat_length] | apply hX; clear hX X | apply And.intro; focus omega))
     refine callM (has_any oL ls _ _) ?_
     rintro v m' ⟨rfl, rfl⟩
     rw [c2]
     refine ⟨rfl, ?_⟩
     refine wS (And.intro h15 (And.intro @pB.eq_1 @pI.eq_1)) ?_
     apply hX; clear hX X
     (repeat (first | refine aSkip ?_ | (first | apply aReg | apply aIf); simp -implicitDefEqProofs only [↓slp, slb, ↓reduceIte, jA, jF, h15, hi, pI] | apply hX; clear hX X))
     rw [hI2]
     rw [c1, c2] at hadd
     exact ⟨⟨jj + 1, oL, mm2, hlt, h0, h3, h8, h9, h13, h14, rfl, ht2, gL, gB, hne, by rw [hadd]; rfl⟩, by omega⟩
    | false =>
     (repeat (first | refine aSeq fun X hX => ?_ | refine aSkip ?_ | refine aDrE ?_; simp -implicitDefEqProofs only [↓slp, slb, ↓reduceIte, reduceCtorEq, jA, jB, jE, jF, tfAbMk16, h13, h14, h15, g0, c1, hnb2, hT, hG, pI, List.getElem?_concat_length] | apply hX; clear hX X | apply And.intro; focus omega))
     refine callM (has_any oL ls _ _) ?_
     rintro v m' ⟨rfl, rfl⟩
     rw [c2]
     refine ⟨rfl, ?_⟩
     refine wS (And.intro h15 (And.intro @pB.eq_1 @pI.eq_1)) ?_
     apply hX; clear hX X
     refine aIf ?_; simp -implicitDefEqProofs only [slb, ↓reduceIte, reduceCtorEq]
     have hlv := va_len ls
     have hml : ls.length + 1 ≤ maxLen := by unfold maxLen; omega
     have hf := gL.free
     have ht3 := ht2.use (s := 15) gL
     have gL3 := Mine.new ht2 oL 15
     have gB3 : Mine m ((oL.use mm2).fresh 15) o2 15 := gB.other hne
     have hT15 : ∀ x : Va, x.pv.cells.length = 15 := fun x => rfl
     (repeat (first | refine aSeq fun X hX => ?_ | apply aBlk | refine aSkip ?_ | (first | refine aExit ?_ | refine aRet ?_); try simp only [slx, ↓reduceIte, jA, reduceCtorEq] | (apply hX; clear hX X) | (clear hX X; apply hX; clear hX X)))
     refine aDrw (fun _ => True) (by kernel_rfl) trivial ?_; simp -implicitDefEqProofs only [↓slp, slb, ↓reduceIte, reduceCtorEq, jA, jB, jE, jF, tfAbMk16, h13, h14, h15, g0, hnb2, hT, hG, pI, List.getElem?_concat_length, set_concat_length]
     (repeat ((apply And.intro; (focus (first | omega | (repeat' apply And.intro) <;> first | omega | assumption | trivial)))))
     apply hX; clear hX X
     (repeat (refine aReg ?_; simp -implicitDefEqProofs only [↓slp, slb, ↓reduceIte, jA, jF, h15, hi, pI]))
     rw [hI2]
     rw [c1, c2] at hadd
     exact ⟨⟨jj + 1, .tok mm2.nt, (oL.use mm2).fresh 15, hlt, h0, h3, h8, h9, h13, h14, rfl, ht3, gL3, gB3, gB.ne_new, by rw [hadd]; simp only [Bool.not_false, Bool.and_self, if_true, List.map_append, List.map_singleton]; rfl⟩, by omega⟩
  ·have hlt : jj = T.length := by simp at hb; omega
   subst hlt
   rw [List.take_length]
   (repeat revert X); refine wE aEQ_t ?_; repeat intro X hX
   have hale := addLasts_len s.lasts T
   have hE4 : ∀ q' : Int, q' ≤ 20 → cE d q' ≤ cE d 20 := fun q' h => by unfold cE; have : q'.toNat ≤ (20 : Int).toNat := Int.toNat_le_toNat h; omega
   obtain ⟨c, hc⟩ : ∃ c, cE d 20 = c := ⟨_, rfl⟩
   rw [hc] at hE4 hcB
   obtain ⟨sc0, hsc0⟩ : ∃ sc0 : Sc, sc0 = ⟨s.ready, s.ready ++ own ++ outs, addLasts s.lasts T⟩ := ⟨_, rfl⟩
   obtain ⟨I3, hI3⟩ : ∃ I3 : F → M → Prop, ∀ f m', I3 f m' = (∃ (todo : List Va) (u : Sc) (l : List Qu) (vs : List Va) (oT oA oB oC ov oe : Own) (mm3 : M) (i' n' : Nat) (q' : Int), todo.length ≤ T.length ∧ (∀ v ∈ todo, isTy v.t) ∧ f 0 = .bp p.gp 0 ∧ f 3 = pI d ∧ f 8 = .bp m.nb 0 ∧ f 9 = .bp (m.nb + 1) 0 ∧ f 13 = .sl oT (todo.map Va.pv) ∧ f 14 = .bp (m.nb + (r.length + 1 + 1)) 0 ∧
    u.ready.length + todo.length ≤ k + 6 ∧ u.all.length ≤ k + 6 ∧ u.lasts.length ≤ k + 6 ∧ l.length + todo.length * (3 + c) ≤ T.length * (3 + c) ∧ vs.length + todo.length * c ≤ T.length * c + 3 ∧ Cnt ((T.length - todo.length) * c) (n + j) q n' q' ∧
    (∀ l' vs' n'', GTodo (RE p.subs) n' n'' u todo l' vs' → ∃ vs0, vs ++ vs' = own ++ vs0 ∧ GTodo (RE p.subs) (n + j) n'' sc0 T (l ++ l') vs0) ∧
    Toks m mm3 ∧ Mine m mm3 ov 15 ∧ Mine m mm3 oe 16 ∧ (∀ t, ov = .tok t → oe ≠ .tok t) ∧ m' = gst p (mm3.ext (some [PV.sl Own.full [], PV.sl Own.full []] :: some [PV.sl ov (vs.map Va.pv), PV.sl oe (l.map Qu.pv)] :: (r ++ [some [PV.sl oA (u.ready.map Va.pv), PV.sl oB (u.all.map Va.pv), PV.sl oC (u.lasts.map Va.pv)]]))) i' (n' : Int) q') := ⟨_, fun _ _ => rfl⟩
   refine aLoop I3 (fun f m => lenP (f 13)) ?_ ?_
   ·rw [hI3]
    refine ⟨T, sc0, [], own, oT, .no, oA, oL, o2, .full, mm2, i1, n + j, q, Nat.le_refl _, hTty, h0, h3, h8, h9, h13, h14, ?_, ?_, ?_, ?_, ?_, ?_, ?_, ht2, gB, .full, (fun _ _ h => by cases h), ?_⟩
    ·rw [hsc0]; simp only []; omega
    ·rw [hsc0]; simp only [List.length_append]; have := hs.ready; rw [← hTe, List.length_append] at hTl; omega
    ·rw [hsc0]; simp only []; omega
    ·simp
    ·omega
    ·rw [Nat.sub_self, Nat.zero_mul]; exact Cnt.refl 0 _ _
    ·intro l' vs' n'' h; exact ⟨vs', rfl, h⟩
    ·rw [hsc0]; rfl
   intro f3 m' hrel
   rw [hI3] at hrel
   clear h0 h3 h8 h9 h13 h14 h15 hb ht2 gL gB hne hnb2 hG2 hT2 hTv
   obtain ⟨todo, u, l, vs, oT, oA, oB, oC, ov, oe, mm3, i3, n3, q3, htl, httl, h0, h3, h8, h9, h13, h14, hu1, hu2, hu3, hl1, hl2, hcnt, hco, ht3, gv, ge, hne, rfl⟩ := hrel
   have hnb3 := ht3.nb
   have hG3 : p.gp < mm3.nb := by rw [ht3.nb]; exact hG
   have hT3 : p.tp < mm3.nb := by rw [ht3.nb]; exact hT
   have hmu : lenP (f3 13) = todo.length := by rw [h13]; simp [lenP]
   (repeat revert X); refine wW (And.intro tfAbMk16 h13) ?_; repeat intro X hX
   refine aIf ?_; simp -implicitDefEqProofs only [slb, ↓reduceIte]; refine ⟨fun hb => ?_, fun hb => ?_⟩
   ·have hlt : 0 < todo.length := by simpa using hb
    (repeat revert X); refine wE (And.intro tfAbMk16 (And.intro h0 (And.intro hnb3 hG))) ?_; repeat intro X hX
    refine callM (next_any p _ ((hok.toks ht3).ext _) 3 (by omega) _ _ q3) ?_
    rintro v m' ⟨r1, i4, rfl, ⟨hr2, hr3⟩, rfl⟩
    obtain ⟨k1, hk1⟩ : ∃ k1 : Nat, r1 = k1 := ⟨r1.toNat, (Int.toNat_of_nonneg hr2).symm⟩
    subst hk1
    have hw1 : IntKind.i64.wrap (1 + (k1 : Int)) = ((k1 + 1 : Nat) : Int) := by rw [wrap64 (by omega)]; omega
    refine wS (And.intro h13 (And.intro hw1 @pI.eq_1)) ?_
    apply hX; clear hX X
    (repeat revert X); refine wE (And.intro tfAbMk16 h13) ?_; repeat intro X hX
    have fin3 : ∀ (f : F) (kk : Nat), 1 ≤ kk → kk ≤ 3 → kk ≤ todo.length → f 0 = .bp p.gp 0 → f 3 = pI d → f 8 = .bp m.nb 0 → f 9 = .bp (m.nb + 1) 0 → f 13 = .sl oT (todo.map Va.pv) → f 14 = .bp (m.nb + (r.length + 1 + 1)) 0 → f 16 = pI kk → X f (gst p (mm3.ext (some [PV.sl Own.full [], PV.sl Own.full []] :: some [PV.sl ov (vs.map Va.pv), PV.sl oe (l.map Qu.pv)] :: (r ++ [some [PV.sl oA (u.ready.map Va.pv), PV.sl oB (u.all.map Va.pv), PV.sl oC (u.lasts.map Va.pv)]]))) i4 (n3 : Int) q3) := by
     intro f kk hk1 hk3 hkt h0 h3 h8 h9 h13 h14 h16
     apply hX; clear hX X
     have htv := va_len todo
     have hkt' : (kk : Int) ≤ (todo.length : Int) := by omega
     have hk0 : (0 : Int) ≤ (kk : Int) := by omega
     have gtk : List.take kk (todo.map Va.pv) = (todo.take kk).map Va.pv := (List.map_take ..).symm
     have gdk : List.drop kk (todo.map Va.pv) = (todo.drop kk).map Va.pv := (List.map_drop ..).symm
     have htkl : (todo.take kk).length = kk := by rw [List.length_take]; omega
     have hdkl : (todo.drop kk).length = todo.length - kk := List.length_drop ..
     have hc1 := hcnt.n
     have hc2 := hcnt.q0
     have hc3 := hcnt.q1
     have hq3 : q3 ≤ 20 := by omega
     have hce := hE4 q3 hq3
     have hTc : (T.length - todo.length) * c + c ≤ 6 * c := by
      have : (T.length - todo.length + 1) * c ≤ 6 * c := Nat.mul_le_mul_right _ (by omega)
      rwa [Nat.succ_mul] at this
     (repeat refine aSeq fun X hX => ?_)
     refine aDrw (isG p (mm3.ext (some [PV.sl Own.full [], PV.sl Own.full []] :: some [PV.sl ov (vs.map Va.pv), PV.sl oe (l.map Qu.pv)] :: (r ++ [some [PV.sl oA (u.ready.map Va.pv), PV.sl oB (u.all.map Va.pv), PV.sl oC (u.lasts.map Va.pv)]])))) (by kernel_rfl) ⟨_, _, _, rfl⟩ ?_
     simp -implicitDefEqProofs only [↓slp, slb, ↓reduceIte, jA, jB, jE, jF, jH, tfAbMk16, h0, h3, h13, h14, h16, gtk, hkt', hk0, hnb3, isG_all, hT, hG, pI, List.getElem?_concat_length]
     refine ⟨⟨_, rfl, htv⟩, ?_⟩
     refine callMS (E p _ ((hok.toks ht3).ext _) u (k + 6) ⟨by omega, hu2, hu3⟩ (todo.take kk) (by omega) (fun v hv => httl v (List.mem_of_mem_take hv)) i4 n3 q3 (by omega) (by omega) hq3 hq3 (by omega)) rfl ?_
     rintro v m' ⟨le, ve, i5, n5, q5, rfl, hre, hle, hve, hcnt5, rfl⟩
     refine ⟨⟨_, _, _, rfl⟩, ?_⟩
     refine wS aEQ_t ?_
     apply hX; clear hX X
     have hql := qu_len l
     have hqe := qu_len le
     have hvv := va_len vs
     have hve2 := va_len ve
     have hc6 : T.length * (3 + c) ≤ 6 * (3 + c) := Nat.mul_le_mul_right _ hTl
     have hc7 : T.length * c ≤ 6 * c := Nat.mul_le_mul_right _ hTl
     have hmx1 : l.length + le.length ≤ maxLen := by unfold maxLen; omega
     have hmx2 : vs.length + ve.length ≤ maxLen := by unfold maxLen; omega
     have hf1 := ge.free
     have t1 := ht3.use (s := 16) ge
     have gE1 := Mine.new ht3 oe 16
     have gV1 : Mine m ((oe.use mm3).fresh 16) ov 15 := gv.other (fun t h1 h2 => hne t h2 h1)
     have hf2 := gV1.free
     generalize hM1 : (oe.use mm3).fresh 16 = mm4 at *
     have t2 := t1.use (s := 15) gV1
     have gV2 := Mine.new t1 ov 15
     have gE2 : Mine m ((ov.use mm4).fresh 15) (.tok mm3.nt) 16 := gE1.other (fun t h1 h2 => by rw [h1] at gv; exact gv.ne_new t h2 rfl)
     generalize hM2 : (ov.use mm4).fresh 15 = mm5 at *
     have hnb4 := t1.nb
     have hnb5 := t2.nb
     have hG5 : p.gp < mm5.nb := by rw [t2.nb]; exact hG
     have hT5 : p.tp < mm5.nb := by rw [t2.nb]; exact hT
     (repeat (first | refine aSeq fun X hX => ?_ | refine aReg ?_; simp -implicitDefEqProofs only [↓slp, slb, ↓reduceIte, reduceCtorEq, jA, jB, jE, jF, tfAbMk16, h9, hnb3, hnb4, hnb5, hM1, hM2, hT, hG] | apply hX; clear hX X | apply And.intro; focus ((repeat' apply And.intro) <;> first | omega | assumption)))
     refine aDrw (fun _ => True) (by kernel_rfl) trivial ?_; simp -implicitDefEqProofs only [↓slp, slb, ↓reduceIte, jA, jB, jE, jF, jH, tfAbMk16, h13, h14, h16, gtk, hkt', hk0, hnb5, hT, hG, pI, List.getElem?_concat_length]
     refine ⟨⟨_, rfl, htv⟩, ?_⟩
     refine callMS (more_any u .no (todo.take kk) (by omega) _) rfl ?_
     rintro v m' ⟨rfl, rfl⟩
     refine ⟨trivial, ?_⟩
     simp -implicitDefEqProofs only [↓slp, slb, ↓reduceIte, jA, jB, jE, tfAbMk16, h14, hnb5, hT, hG, List.getElem?_concat_length, set_concat_length]
     (repeat (first | (intro hlen; unfold maxLen at hlen) | (apply And.intro; (focus (first | omega | assumption | trivial | (repeat' apply And.intro) <;> first | omega | assumption | trivial)))))
     apply hX; clear hX X
     (repeat (refine aReg ?_; simp -implicitDefEqProofs only [↓slp, slb, ↓reduceIte, jA, jF, tfAbMk16, h13, h16, hkt', hk0, pI]))
     refine ⟨⟨by omega, _, rfl, htv⟩, ?_⟩
     have gtl : List.take todo.length (todo.map Va.pv) = todo.map Va.pv := by rw [← List.length_map (f := Va.pv), List.take_length]
     rw [gtl, gdk, hI3]
     have hm1 : (todo.length - kk) * (3 + c) + (3 + c) ≤ todo.length * (3 + c) := by
      rw [← Nat.succ_mul]; exact Nat.mul_le_mul_right _ (by omega)
     have hm2 : (todo.length - kk) * c + c ≤ todo.length * c := by
      rw [← Nat.succ_mul]; exact Nat.mul_le_mul_right _ (by omega)
     have hm3 : (T.length - todo.length) * c + c ≤ (T.length - (todo.length - kk)) * c := by
      rw [← Nat.succ_mul]; exact Nat.mul_le_mul_right _ (by omega)
     have hmr := (u.more (todo.take kk)).ready
     refine ⟨⟨todo.drop kk, u.more (todo.take kk), l ++ le, vs ++ ve, oT, .no, .no, .no, .tok mm4.nt, .tok mm3.nt, mm5, i5, n5, q5, by omega, fun v hv => httl v (List.mem_of_mem_drop hv), h0, h3, h8, h9, rfl, h14, ?_, ?_, ?_, ?_, ?_, ?_, ?_, t2, gV2, gE2, ?_, ?_⟩, ?_⟩
     ·simp only [Sc.more, List.length_append]; omega
     ·exact hu2
     ·exact hu3
     ·rw [List.length_append, hdkl]; omega
     ·rw [List.length_append, hdkl]; omega
     ·rw [hdkl]; exact (hcnt.trans hcnt5).le (by omega)
     ·intro l' vs' n'' h
      have hst := GTodo.step (a := todo.take kk) (r := todo.drop kk) (by omega) (by omega) hre h
      rw [List.take_append_drop] at hst
      obtain ⟨vs0, e1, e2⟩ := hco _ _ _ hst
      exact ⟨vs0, by rw [List.append_assoc]; exact e1, by rw [List.append_assoc]; exact e2⟩
     ·intro t h1 h2
      exact gE1.ne_new t h1 h2
     ·rw [List.map_append, List.map_append]
     ·rw [hmu]; show (List.map Va.pv (todo.drop kk)).length < _; rw [List.length_map, hdkl]; omega
    refine ⟨fun c1 => ?_, fun c1 => ?_⟩
    ·have hgt := of_decide_eq_true c1
     refine vE (And.intro tfAbMk16 h13) ?_; repeat intro X hX
     exact fin3 _ todo.length hlt (by omega) (Nat.le_refl _) h0 h3 h8 h9 h13 h14 rfl
    ·have hgt := of_decide_eq_false c1
     (repeat refine aSkip ?_)
     exact fin3 _ (k1 + 1) (by omega) (by omega) (by omega) h0 h3 h8 h9 h13 h14 rfl
   ·have hlt : todo = [] := List.eq_nil_of_length_eq_zero (by have := of_decide_eq_false hb; omega)
    subst hlt
    (repeat revert X); refine wE (And.intro tfAbMk16 (And.intro h8 (And.intro h9 (And.intro hnb3 (And.intro hT hG))))) ?_; repeat intro X hX
    refine wQ Tryz.results42 (And.intro tfAbMk16 (And.intro h8 (And.intro hnb3 (And.intro hT hG)))) ?_
    obtain ⟨vs0, hv0, hg0⟩ := hco [] [] _ .nil
    rw [List.append_nil] at hv0 hg0
    have hTc : (T.length - ([] : List Va).length) * c ≤ 6 * c := Nat.mul_le_mul_right _ (by simp only [List.length_nil]; omega)
    refine leave_gst hok ht3 rfl ⟨⟨vs, l⟩, i3, n3, q3, rfl, ⟨own, l, vs0, hv1, hown, by rw [hol3, hTe]; rw [hsc0] at hg0; exact hg0, by rw [hv0]⟩, ?_, rfl⟩
    have := hcnt.n; have := hcnt.q0; have := hcnt.q1
    exact ⟨by omega, by omega, by omega⟩

def tfAbMk17 := And.intro @td_3 (And.intro @zv_3 (And.intro @Tryz.underlying3 (And.intro @td_4 (And.intro @zv_4 (And.intro @Tryz.underlying4 (And.intro @td_5 (And.intro @zv_5 (And.intro @Tryz.underlying5 (And.intro @td_9 (And.intro @zv_9 (And.intro @Tryz.underlying9 (And.intro @td_21 (And.intro @zv_21 (And.intro @Tryz.underlying21 (And.intro @td_22 (And.intro @zv_22 (And.intro @tel_22 (And.intro @Tryz.underlying22 (And.intro @td_44 (And.intro @zv_44 (And.intro @tel_44 (And.intro @Tryz.underlying44 (And.intro @td_35 (And.intro @zv_35 (And.intro @tel_35 (And.intro @Tryz.underlying35 (And.intro @td_36 (And.intro @zv_36 (And.intro @tel_36 (And.intro @Tryz.underlying36 (And.intro @td_38 (And.intro @zv_38 (And.intro @tf_38 (And.intro @td_42 (And.intro @zv_42 (And.intro @tf_42 (And.intro @td_43 (And.intro @zv_43 (And.intro @tel_43 (And.intro @Tryz.underlying43 (And.intro @td_46 (And.intro @zv_46 (And.intro @tf_46 (And.intro @td_51 (And.intro @zv_51 (And.intro @tf_51 (And.intro @fl_51 (And.intro @td_104 (And.intro @zv_104 (And.intro @tel_104 (And.intro @Tryz.underlying104 (And.intro @td_106 (And.intro @zv_106 (And.intro @tf_106 (And.intro @td_113 (And.intro @zv_113 (And.intro @tf_113 (And.intro @fl_113 (And.intro @td_47 (And.intro @zv_47 (And.intro @tel_47 (And.intro @Tryz.underlying47 (And.intro @td_49 (And.intro @zv_49 (And.intro @tf_49 (And.intro @nk_71 (And.intro @td_71 (And.intro @zv_71 (And.intro @Tryz.underlying71 (And.intro @td_73 (And.intro @zv_73 (And.intro @tf_73 (And.intro @nk_75 (And.intro @td_75 (And.intro @zv_75 (And.intro @Tryz.underlying75 (And.intro @td_77 (And.intro @zv_77 (And.intro @tf_77 (And.intro @td_108 (And.intro @zv_108 (And.intro @tel_108 (And.intro @Tryz.underlying108 (And.intro @td_110 (And.intro @zv_110 (And.intro @tf_110 (And.intro @td_160 (And.intro @zv_160 (And.intro @tf_160 (And.intro @td_118 (And.intro @zv_118 (And.intro @tf_118 (And.intro @td_161 (And.intro @zv_161 (And.intro @tel_161 (And.intro @Tryz.underlying161 (And.intro @Ex.settle_pv (And.intro @Ex.pure_pv (And.intro @Ex.cells_pv (And.intro @Ex.cs.eq_1 (And.intro @On.pv.eq_1 (And.intro @Ty.pv.eq_1 (And.intro @Va.settle_pv (And.intro @Va.pure_pv (And.intro @Va.cells_pv (And.intro @Va.cs.eq_1 (And.intro @Sc.pv.eq_1 (And.intro @gst_nb (And.intro @gst_nt (And.intro @gst_fresh (And.intro @gst_use (And.intro @gst_free (And.intro @gst_alive (And.intro @gst_t (And.intro @gst_g (And.intro @gst_updt (And.intro @gst_updg (And.intro @gst_ext (And.intro @gst_ext2 (And.intro @gst_et (And.intro @gst_eg (And.intro @gst_own (And.intro @gst_own0 (And.intro @gst_ou (And.intro @gst_ou0 (And.intro @GP.tape.eq_1 @GP.gen.eq_1))))))))))))))))))))))))))))))))))))))))))))))))))))))))))))))))))))))))))))))))))))))))))))))))))))))))))))))))))))))))))))))

def GBk : Nat → Int → RBT
 | 0, subs => GBlk (GEqs (fun _ _ _ _ _ => False) subs)
 | d + 1, subs => GBlk (GEqs (GBk d subs) subs)
theorem block_any : ∀ d : Nat, d < 1000 → BlockC d (GBk d)
 | 0, h => block_step 0 h _ (eqs_any 0 h (fun _ _ _ _ _ _ => False) (fun d' h => by omega) 20)
 | d + 1, h => block_step (d + 1) h _ (eqs_any (d + 1) h (GBk d) (fun d' hd => by
     obtain rfl : d = d' := by omega
     exact block_any d (by omega)) 20)

theorem gstep_gstL {p : GP} {m : M} {bs bs' : List (Option (List PV))} {i : Nat} {n q : Int} {f f' : F} (j : Nat) (xs : List PV) (sz : Nat) (hok : p.ok m) (hl : bs'.length = bs.length) {c1 : List PV} (hj : bs[j]? = some (some c1)) (hc1 : c1.map PV.settle = xs.flatMap PV.cells) (hx : ∀ x ∈ xs, x.cells.length = sz ∧ x.ok = true)
    (hj' : bs'[j]? = some none) (hk : ∀ k, k ≠ j → bs'[k]? = bs[k]? ∨ ∃ c0, bs[k]? = some (some c0) ∧ bs'[k]? = some (some (c0.map (PV.frz (m.nb + j) xs)))) (hf : ∀ t, f' t = f t ∨ f' t = (f t).frz (m.nb + j) xs ∨ f' t = .junk) :
    GStep f (gst p (m.ext bs) i n q) f' (gst p (m.ext bs') i n q) := by
 have hT := hok.tp
 have hG := hok.gp
 refine .inr ⟨m.nb + j, xs, sz, c1, ?_, .inr (.inl hc1), hx, hf, rfl, ?_, fun k c hc => ?_⟩
 ·rw [gst_own rfl hT hG, hj]; rfl
 ·unfold gst M.upd M.ext; simp [hl]
 ·have key : ∀ bs' : List (Option (List PV)), ∀ k, m.nb ≤ k → (gst p (m.ext bs') i n q).get k = (bs'[k - m.nb]?).join := fun bs' k hk => by
    have := gst_own (p := p) (m := m) (i := i) (n := n) (q := q) (bs := bs') (k := m.nb) (j := k - m.nb) rfl hT hG
    rwa [show m.nb + (k - m.nb) = k by omega] at this
  by_cases hkn : m.nb ≤ k
  ·rw [key _ k hkn] at hc
   by_cases hkj : k - m.nb = j
   ·rw [hkj, hj'] at hc; simp at hc
   ·refine ⟨by omega, ?_⟩
    rw [key _ k hkn]
    rcases hk _ hkj with h | ⟨c0, h1, h2⟩
    ·left; rw [← h]; exact hc
    ·right
     rw [h2] at hc
     exact ⟨c0, by rw [h1]; rfl, (Option.some.inj hc).symm⟩
  ·refine ⟨by omega, .inl ?_⟩
   rw [← hc]
   have old : ∀ bs' : List (Option (List PV)), (gst p (m.ext bs') i n q).get k = (gst p m i n q).get k := fun bs' => by
    have hm : (m.ext bs').get k = m.get k := by
     unfold M.get M.ext
     simp only []
     rw [List.getElem?_append_left (by unfold M.nb at hkn; omega)]
    have hT' : p.tp < m.nb + bs'.length := by omega
    have hG' : p.gp < m.nb + bs'.length := by omega
    rw [gst_get, gst_get, hm, ext_nb]
    simp only [hT', hG', hT, hG, and_true]
   rw [old, old]
theorem aRegFL {P : Program} {mu : List Nat} {Z : PV → M → Prop} {K : Exit → F → M → Prop} {f : F} {p : GP} {m : M} {bs bs' : List (Option (List PV))} {i : Nat} {n q : Int} {id : Nat} {l : List Oper} (j : Nat) (xs : List PV) (sz : Nat) (hok : p.ok m) (hl : bs'.length = bs.length) {c1 : List PV} (hj : bs[j]? = some (some c1)) (hc1 : c1.map PV.settle = xs.flatMap PV.cells) (hx : ∀ x ∈ xs, x.cells.length = sz ∧ x.ok = true)
    (hj' : bs'[j]? = some none) (hk : ∀ k, k ≠ j → bs'[k]? = bs[k]? ∨ ∃ c0, bs[k]? = some (some c0) ∧ bs'[k]? = some (some (c0.map (PV.frz (m.nb + j) xs))))
    (h : ∀ f', (∀ t, f' t = (f t).frz (m.nb + j) xs) → aOps P mu Z l.toArray l (K .normal) f' (gst p (m.ext bs') i n q)) : aCode P mu Z (.region id l.toArray false) K f (gst p (m.ext bs) i n q) :=
 aRegG (gstep_gstL j xs sz hok hl hj hc1 hx hj' hk (fun t => .inr (.inl rfl))) (h _ (fun t => rfl))
theorem frz_v (id : Nat) (xs : List PV) (x : Value) : (PV.v x).frz id xs = .v x := rfl
theorem frz_sl (id : Nat) (xs : List PV) (o : Own) (ys : List PV) : (PV.sl o ys).frz id xs = .sl o ys := rfl
theorem frz_bs {id l : Nat} {xs : List PV} (h : l = xs.length) : (PV.bs id 0 l).frz id xs = .sl .no xs := by simp [PV.frz, h]
def isG3 (p : GP) (m : M) (x y : Option (List PV)) (m2 : M) : Prop := ∃ c i n q, m2 = gst p (m.ext [x, y, some c]) i n q
theorem isG3_all {p : GP} {m : M} {x y : Option (List PV)} {Q : M → Prop} : (∀ m2, isG3 p m x y m2 → Q m2) = ∀ c i n q, Q (gst p (m.ext [x, y, some c]) i n q) :=
 propext ⟨fun h c i n q => h _ ⟨c, i, n, q, rfl⟩, fun h m2 ⟨c, i, n, q, e⟩ => e ▸ h c i n q⟩

def sNa : Str := ⟨#[97]⟩
def sBb : Str := ⟨#[98]⟩
def sX : Str := ⟨#[120]⟩
def sY : Str := ⟨#[121]⟩
def nIns : List Va := [mkVa sNa tyI, mkVa sBb tyB]
def nOuts (l : Bool) (e : Ex) : List Va := [⟨sX, tyI, [], l, e, 0, 0⟩, mkVa sY tyC]
def GNode (RB : RBT) (k : Nat) (x : No) : Prop := ∃ l e b n', ((l = false ∧ e = zE) ∨ (l = true ∧ isConst tyI e)) ∧ n' ≤ 3173950 ∧ RB 0 n' ⟨nIns, [], []⟩ (nOuts l e) b ∧ x = ⟨nameS ⟨#[102]⟩ k, nIns, nOuts l e, b, 0, 0⟩
def NodeC (RB : Int → RBT) : Prop := ∀ (p : GP) (m : M) (hok : p.ok m) (k : Nat) (hk : k < 100) (i : Nat), ACalls Tryz.prog 19 [.bp p.gp 0, pI k] (gst p m i 0 14) (fun v m' => ∃ (x : No) (i' n' : Nat) (q' : Int), v = x.pv ∧ GNode (RB p.subs) k x ∧ m' = gst p m i' n' q')
set_option maxRecDepth 20000 in
set_option maxHeartbeats 8000000 in
theorem node_any : NodeC (GBk 3) := by
 intro p m hok k hk i
 have hG := hok.gp
 have hT := hok.tp
 have hsz := digS_size k
 have hs1 : (⟨#[102]⟩ : ByteArray).size = 1 := rfl
 refine eN [4, 5, 21] Tryz.func19 ?_
 (repeat revert X); refine wE (And.intro tfAbMk17 (And.intro hT hG)) ?_; repeat intro X hX
 refine callE (digits_any k _ (by omega)) ?_
 refine wS (And.intro tfAbMk17 (And.intro hT (And.intro hG @pS.eq_1))) ?_
 (repeat ((apply And.intro; (focus omega))))
 (repeat revert X); refine wE aEQ_t ?_; repeat intro X hX
 refine callE (tyI_any _) ?_
 refine wS (And.intro tfAbMk17 @Ty.pv.eq_1) ?_
 refine callE (tyB_any _) ?_
 refine wS (And.intro tfAbMk17 (And.intro hT (And.intro hG @Ty.pv.eq_1))) ?_
 apply hX; clear hX X
 (repeat revert X); refine wE aEQ_t ?_; repeat intro X hX
 refine callE (tyI_any _) ?_
 refine wS (And.intro tfAbMk17 @Ty.pv.eq_1) ?_
 refine callE (tyC_any _) ?_
 refine wS (And.intro tfAbMk17 (And.intro hT (And.intro hG @Ty.pv.eq_1))) ?_
 apply hX; clear hX X
 (repeat revert X); refine wE (And.intro tfAbMk17 hG) ?_; repeat intro X hX
 refine callM (next_any p _ (hok.ext _) 3 (by omega) i 0 14) ?_
 rintro v m' ⟨r1, i1, rfl, ⟨hr2, hr3⟩, rfl⟩
 refine wS aEQ_t ?_
 apply hX; clear hX X
 have fin : ∀ (f : F) (lb : Bool) (e : Ex) (oo : Own) (i2 : Nat), ((lb = false ∧ e = zE) ∨ (lb = true ∧ isConst tyI e)) → f 0 = .bp p.gp 0 → f 4 = .bp m.nb 0 → f 5 = .bp (m.nb + 1) 0 → X f (gst p (m.ext [some [PV.v (Value.string { data := #[] }), PV.sl Own.full [], PV.sl Own.full [], PV.sl Own.full [], PV.sl Own.full [], PV.v (Value.int IntKind.i64 0), PV.v (Value.int IntKind.i64 0)], some [PV.v (Value.string ({ data := #[102] } ++ digS k)), PV.sl Own.full (nIns.map Va.pv), PV.bs (m.nb + 2) 0 2, PV.sl Own.full [], PV.sl Own.full [], PV.v (Value.int IntKind.i64 0), PV.v (Value.int IntKind.i64 0)], some [PV.v (Value.string sX), PV.v (Value.int IntKind.u8 tyI.kind), PV.v (Value.string tyI.name), PV.sl Own.full [], PV.v (Value.bool lb), PV.v (Value.int IntKind.u8 e.kind), PV.v (Value.int IntKind.u8 e.op), PV.v (Value.int IntKind.i32 e.n), PV.v (Value.string e.name), PV.sl oo (e.names.map pS), PV.sl oo (e.kids.map Ex.pv), PV.v (Value.int IntKind.i64 e.line), PV.v (Value.int IntKind.i64 e.col), PV.v (Value.int IntKind.i64 0), PV.v (Value.int IntKind.i64 0), PV.v (Value.string sY), PV.v (Value.int IntKind.u8 tyC.kind), PV.v (Value.string tyC.name), PV.sl Own.full [], PV.v (Value.bool false), PV.v (Value.int IntKind.u8 0), PV.v (Value.int IntKind.u8 0), PV.v (Value.int IntKind.i32 0), PV.v (Value.string { data := #[] }), PV.sl Own.full [], PV.sl Own.full [], PV.v (Value.int IntKind.i64 0), PV.v (Value.int IntKind.i64 0), PV.v (Value.int IntKind.i64 0), PV.v (Value.int IntKind.i64 0)]]) i2 0 14) := by
  intro f lb e oo i2 he h0 h4 h5
  apply hX; clear hX X
  (repeat refine aSeq fun X hX => ?_)
  refine aRegFL 2 ((nOuts lb e).map Va.pv) 15 hok (bs' := [some [PV.v (Value.string { data := #[] }), PV.sl Own.full [], PV.sl Own.full [], PV.sl Own.full [], PV.sl Own.full [], PV.v (Value.int IntKind.i64 0), PV.v (Value.int IntKind.i64 0)], some [PV.v (Value.string ({ data := #[102] } ++ digS k)), PV.sl Own.full (nIns.map Va.pv), PV.sl Own.no ((nOuts lb e).map Va.pv), PV.sl Own.full [], PV.sl Own.full [], PV.v (Value.int IntKind.i64 0), PV.v (Value.int IntKind.i64 0)], none]) rfl rfl ?_ ?_ rfl ?_ ?_
  ·simp only [List.map_cons, List.map_nil, PV.settle, List.flatMap_cons, List.flatMap_nil, nOuts, mkVa, Va.cells_pv, Va.cs, zE, Ex.kind, Ex.op, Ex.n, Ex.name, Ex.names, Ex.kids, Ex.line, Ex.col, List.append_nil, List.cons_append, List.nil_append]
  ·intro x hx
   obtain ⟨v, _, rfl⟩ := List.mem_map.1 hx
   exact ⟨rfl, by rfl⟩
  ·intro j hj
   match j, hj with
   | 0, _ => exact .inl rfl
   | 1, _ => exact .inr ⟨_, rfl, by simp only [List.map_cons, List.map_nil, frz_v, frz_sl, frz_bs (show 2 = ((nOuts lb e).map Va.pv).length from rfl), List.getElem?_cons_succ, List.getElem?_cons_zero]⟩
   | 2, h => exact absurd rfl h
   | j + 3, _ => exact .inl rfl
  intro f' hf'
  have g0 : f' 0 = .bp p.gp 0 := by rw [hf', h0, frz_ne (by omega)]
  have g4 : f' 4 = .bp m.nb 0 := by rw [hf', h4, frz_ne (by omega)]
  have g5 : f' 5 = .bp (m.nb + 1) 0 := by rw [hf', h5, frz_ne (by omega)]
  refine wS (And.intro tfAbMk17 (And.intro g5 (And.intro hT hG))) ?_
  apply hX; clear hX X
  (repeat revert X); refine wE (And.intro tfAbMk17 (And.intro g0 (And.intro g5 (And.intro hT hG)))) ?_; repeat intro X hX
  have hcb : cB 3 = 3173950 := rfl
  have hty : ∀ v ∈ nOuts lb e, isTy v.t := fun v hv => by
   simp only [nOuts, mkVa, List.mem_cons, List.not_mem_nil, or_false] at hv
   rcases hv with rfl | rfl
   ·exact .inl rfl
   ·exact .inr (.inr rfl)
  refine callMS (block_any 3 (by decide) p _ (hok.ext _) ⟨nIns, [], []⟩ 2 ⟨by decide, by decide, by decide⟩ (nOuts lb e) (by simp [nOuts]) hty i2 0 14 (by omega) (by omega) (by omega) (by omega)) rfl ?_
  rintro v m' ⟨b, i5, n5, q5, rfl, hb, hcnt, rfl⟩
  refine wS (And.intro tfAbMk17 (And.intro g5 (And.intro hT (And.intro hG @Bk.pv.eq_1)))) ?_
  apply hX; clear hX X
  (repeat revert X); refine wE (And.intro tfAbMk17 (And.intro g4 (And.intro g5 (And.intro hT hG)))) ?_; repeat intro X hX
  refine wQ Tryz.results19 (And.intro tfAbMk17 (And.intro g4 (And.intro hT hG))) ?_
  refine leave_gst hok (.refl m) rfl ⟨⟨nameS ⟨#[102]⟩ k, nIns, nOuts lb e, b, 0, 0⟩, i5, n5, q5, rfl, ⟨lb, e, b, n5, he, by have := hcnt.n; omega, hb, rfl⟩, rfl⟩
 have hnb : m.nb = m.nb := rfl
 cases c1 : (r1 == 0) with
 | true =>
  (repeat (first | refine aSeq fun X hX => ?_ | (first | apply aReg | apply aIf); simp -implicitDefEqProofs only [↓slp, slb, ↓reduceIte, reduceCtorEq, jA, jB, jC, jD, jE, jF, jH, jJ, tfAbMk17, hT, hG, List.flatMap_cons, List.flatMap_nil] | apply hX; clear hX X))
  refine aDrw (isG3 p m _ _) (by kernel_rfl) ⟨_, _, _, _, rfl⟩ ?_
  simp -implicitDefEqProofs only [↓slp, slb, ↓reduceIte, reduceCtorEq, jA, jB, jD, jF, tfAbMk17, hT, hG, isG3_all]
  refine callE (tyI_any _) ?_
  refine ⟨⟨_, _, _, _, rfl⟩, ?_⟩
  refine wS tfAbMk17 ?_
  refine callM (constant_any p _ (hok.ext _) tyI (.inl rfl) i1 0 14) ?_
  rintro v m' ⟨e, i4, rfl, he, rfl⟩
  refine ⟨⟨_, _, _, _, rfl⟩, ?_⟩
  refine wS (And.intro tfAbMk17 (And.intro hT hG)) ?_
  refine ⟨⟨_, _, _, _, rfl⟩, ?_⟩
  exact fin _ true e .no i4 (.inr ⟨rfl, he⟩) rfl rfl rfl
 | false =>
  refine vE aEQ_t ?_; repeat intro X hX
  exact fin _ false zE .full i1 (.inl ⟨rfl, rfl⟩) rfl rfl rfl

def tfAbMk18 := And.intro @td_3 (And.intro @zv_3 (And.intro @Tryz.underlying3 (And.intro @td_4 (And.intro @zv_4 (And.intro @Tryz.underlying4 (And.intro @td_5 (And.intro @zv_5 (And.intro @Tryz.underlying5 (And.intro @td_9 (And.intro @zv_9 (And.intro @Tryz.underlying9 (And.intro @td_21 (And.intro @zv_21 (And.intro @Tryz.underlying21 (And.intro @td_22 (And.intro @zv_22 (And.intro @tel_22 (And.intro @Tryz.underlying22 (And.intro @td_25 (And.intro @zv_25 (And.intro @tel_25 (And.intro @Tryz.underlying25 (And.intro @td_26 (And.intro @zv_26 (And.intro @tel_26 (And.intro @Tryz.underlying26 (And.intro @td_28 (And.intro @zv_28 (And.intro @tf_28 (And.intro @td_44 (And.intro @zv_44 (And.intro @tel_44 (And.intro @Tryz.underlying44 (And.intro @td_35 (And.intro @zv_35 (And.intro @tel_35 (And.intro @Tryz.underlying35 (And.intro @td_36 (And.intro @zv_36 (And.intro @tel_36 (And.intro @Tryz.underlying36 (And.intro @td_38 (And.intro @zv_38 (And.intro @tf_38 (And.intro @td_42 (And.intro @zv_42 (And.intro @tf_42 (And.intro @td_43 (And.intro @zv_43 (And.intro @tel_43 (And.intro @Tryz.underlying43 (And.intro @td_46 (And.intro @zv_46 (And.intro @tf_46 (And.intro @td_51 (And.intro @zv_51 (And.intro @tf_51 (And.intro @fl_51 (And.intro @td_104 (And.intro @zv_104 (And.intro @tel_104 (And.intro @Tryz.underlying104 (And.intro @td_106 (And.intro @zv_106 (And.intro @tf_106 (And.intro @td_64 (And.intro @zv_64 (And.intro @tf_64 (And.intro @nk_71 (And.intro @td_71 (And.intro @zv_71 (And.intro @Tryz.underlying71 (And.intro @td_73 (And.intro @zv_73 (And.intro @tf_73 (And.intro @nk_75 (And.intro @td_75 (And.intro @zv_75 (And.intro @Tryz.underlying75 (And.intro @td_77 (And.intro @zv_77 (And.intro @tf_77 (And.intro @td_118 (And.intro @zv_118 (And.intro @tf_118 (And.intro @Ex.settle_pv (And.intro @Ex.pure_pv (And.intro @Ex.cells_pv (And.intro @Ex.cs.eq_1 (And.intro @On.pv.eq_1 (And.intro @Ty.pv.eq_1 (And.intro @Va.settle_pv (And.intro @Va.pure_pv (And.intro @Va.cells_pv (And.intro @Va.cs.eq_1 (And.intro @No.settle_pv (And.intro @No.pure_pv (And.intro @No.cells_pv (And.intro @upd_nb @upd_nt)))))))))))))))))))))))))))))))))))))))))))))))))))))))))))))))))))))))))))))))))))))))))))))))))))

theorem get_updS {m : M} {id : Nat} {c : List PV} (h : id < m.nb) : (m.upd id c).get id = some c := by rw [M.get_upd, if_pos ⟨rfl, h⟩]
theorem upd_updS (m : M) (id : Nat) (c c' : List PV) : (m.upd id c).upd id c' = m.upd id c' := by
 unfold M.upd; simp only [List.set_set]
def tpC (l : List Int) (i : Nat) : List PV := [.sl .no (l.map pU), .v (.int .i64 (i : Int))]
theorem leave_upd {m : M} {id : Nat} {c c' : List PV} {v : PV} {R : PV → M → Prop} (hc : PV.pures c' = true) (hv : v.settle.pure = true) (hR : R v.settle (m.upd id c')) : ∃ v' m', Leave (m.upd id c) (m.upd id c') v v' m' ∧ R v' m' := by
 refine ⟨_, _, .upd v (m.upd id c') (by simp [M.upd, M.nb]) (by simp only [M.upd, M.nb, List.set_set, List.length_set]; rw [List.take_of_length_le (by simp)]) (by simp [M.upd, M.nt]) (by simp [M.upd, M.nt]) (fun k d hk => ?_) hv, hR⟩
 rw [M.get_upd] at hk
 split at hk
 ·exact .inr (by cases hk; exact hc)
 ·rename_i h
  exact .inl (by rw [M.get_upd, if_neg h]; exact hk)
set_option maxRecDepth 20000 in
set_option maxHeartbeats 1000000 in
theorem nextT_any (l : List Int) (hl : l.length ≤ 1000) (hel : ∀ x ∈ l, 0 ≤ x ∧ x ≤ 255) (m : M) (tp : Nat) (hT : tp < m.nb) (k : Int) (hk : 0 < k) (i : Nat) : ACalls Tryz.prog 18 [.bp tp 0, pI k] (m.upd tp (tpC l i)) (fun v m' => ∃ (r : Int) (i' : Nat), v = pI r ∧ (0 ≤ r ∧ r < k) ∧ m' = m.upd tp (tpC l i')) := by
 have hp : ∀ i, PV.pures (tpC l i) = true := fun i => rfl
 refine eN [] Tryz.func18 ?_
 cases c1 : decide ((i : Int) ≥ (l.length : Int)) with
 | true =>
  (repeat (first | refine aSeq fun X hX => ?_ | refine aRet ?_; try simp only [slx, ↓reduceIte, jA, reduceCtorEq] | (first | apply aReg | refine aDrE ?_ | apply aIf); simp -implicitDefEqProofs only [↓slp, slb, ↓reduceIte, reduceCtorEq, jA, jB, tfAbMk18, hT, c1, get_updS, tpC] | apply hX; clear hX X))
  refine wR Tryz.results18 ?_
  exact leave_upd (hp _) rfl ⟨0, i, rfl, ⟨Int.le_refl _, hk⟩, rfl⟩
 | false =>
  have hlt : i < l.length := by simp at c1; omega
  have hi : IntKind.i64.wrap ((i : Int) + 1) = ((i + 1 : Nat) : Int) := by rw [wrap64 (by omega)]; omega
  have hj : IntKind.i64.wrap (((i + 1 : Nat) : Int) - 1) = (i : Int) := by rw [wrap64 (by omega)]; omega
  have g0 := getD_map pU l i hlt
  have he := hel _ (List.getElem_mem hlt)
  have hw : IntKind.i64.wrap l[i] = l[i] := wrap64 (by omega)
  have hk0 : ¬ k = 0 := by omega
  (repeat (first | refine aSeq fun X hX => ?_ | refine aSkip ?_ | refine aRet ?_ | (first | apply aReg | refine aDrE ?_ | apply aIf); simp -implicitDefEqProofs only [↓slp, slb, ↓reduceIte, reduceCtorEq, jA, jB, jE, tfAbMk18, hT, c1, hi, hj, g0, hw, hk0, get_updS, upd_updS, tpC] | apply hX; clear hX X | apply And.intro; focus omega))
  refine wR Tryz.results18 ?_
  exact leave_upd (hp _) rfl ⟨_, i + 1, rfl, ⟨Int.tmod_nonneg _ he.1, Int.tmod_lt_of_pos _ hk⟩, rfl⟩

theorem gst_mk {m : M} {p : GP} {z c1 pb : Option (List PV)} {gens : List (Option (List PV))} {c2 : Option (List PV)} {i : Nat} {n q : Int} (htp : p.tp = m.nb + 1) (hgp : p.gp = m.nb + (gens.length + 1 + 1 + 1)) :
    gst p (m.ext (z :: c1 :: pb :: (gens ++ [c2]))) i n q = m.ext (z :: some (p.tape i) :: pb :: (gens ++ [some (p.gen n q)])) := by
 unfold gst
 rw [htp, hgp, ext_upd rfl, ext_upd rfl]
 simp only [List.set_cons_succ, List.set_cons_zero, set_concat_length]
def isK (m : M) (c : List PV) (m2 : M) : Prop := ∃ ts x y r, m2 = (⟨m.boxes, ts⟩ : M).ext (x :: y :: some c :: r)
theorem isK_all {m : M} {c : List PV} {Q : M → Prop} : (∀ m2, isK m c m2 → Q m2) = ∀ ts x y r, Q ((⟨m.boxes, ts⟩ : M).ext (x :: y :: some c :: r)) :=
 propext ⟨fun h ts x y r => h _ ⟨ts, x, y, r, rfl⟩, fun h m2 ⟨ts, x, y, r, e⟩ => e ▸ h ts x y r⟩
theorem isK_of {m mm : M} {c : List PV} {x y : Option (List PV)} {r : List (Option (List PV))} (h : mm.boxes = m.boxes) : isK m c (mm.ext (x :: y :: some c :: r)) := ⟨mm.toks, x, y, r, by rw [← h]⟩
theorem isK_get {m : M} {c : List PV} {ts : List (Option Nat)} {x y : Option (List PV)} {r : List (Option (List PV))} : ((⟨m.boxes, ts⟩ : M).ext (x :: y :: some c :: r)).get (m.nb + 2) = some c := by
 have := ext_get (m := (⟨m.boxes, ts⟩ : M)) (bs := x :: y :: some c :: r) (k := m.nb) (i := 2) rfl
 rw [this]; rfl
theorem no_len (l : List No) : ∀ x ∈ l.map No.pv, x.cells.length = 7 := fun x hx => by
 obtain ⟨a, _, rfl⟩ := List.mem_map.1 hx
 rfl
theorem nextM_any (l : List Int) (hl : l.length ≤ 1000) (hel : ∀ x ∈ l, 0 ≤ x ∧ x ≤ 255) (m : M) (a : Nat) (ha : m.nb + 1 = a) (z pb : Option (List PV)) (gens : List (Option (List PV))) (k : Int) (hk : 0 < k) (i : Nat) : ACalls Tryz.prog 18 [.bp a 0, pI k] (m.ext (z :: some (tpC l i) :: pb :: gens)) (fun v m' => ∃ (r : Int) (i' : Nat), v = pI r ∧ (0 ≤ r ∧ r < k) ∧ m' = m.ext (z :: some (tpC l i') :: pb :: gens)) := by
 subst ha
 have e : ∀ i, (m.ext (z :: none :: pb :: gens)).upd (m.nb + 1) (tpC l i) = m.ext (z :: some (tpC l i) :: pb :: gens) := fun i => ext_upd rfl
 have h := nextT_any l hl hel (m.ext (z :: none :: pb :: gens)) (m.nb + 1) (by rw [ext_nb]; simp only [List.length_cons]; omega) k hk i
 simp only [e] at h
 exact h
theorem nodeM_any (p : GP) (m : M) (hl : p.l.length ≤ 1000) (hel : ∀ x ∈ p.l, 0 ≤ x ∧ x ≤ 255) (hsub : p.subs < 100) (z pb : Option (List PV)) (gens : List (Option (List PV))) (htp : p.tp = m.nb + 1) (hgp : p.gp = m.nb + (gens.length + 1 + 1 + 1)) (k : Nat) (hk : k < 100) (i : Nat) :
    ACalls Tryz.prog 19 [.bp p.gp 0, pI k] (m.ext (z :: some (p.tape i) :: pb :: (gens ++ [some (p.gen 0 14)]))) (fun v m' => ∃ (x : No) (i' n' : Nat) (q' : Int), v = x.pv ∧ GNode (GBk 3 p.subs) k x ∧ m' = m.ext (z :: some (p.tape i') :: pb :: (gens ++ [some (p.gen n' q')]))) := by
 have h := node_any p (m.ext (z :: none :: pb :: (gens ++ [none]))) ⟨by rw [ext_nb, htp]; simp only [List.length_cons]; omega, by rw [ext_nb, hgp]; simp only [List.length_cons, List.length_append, List.length_nil]; omega, by omega, hl, hel, hsub⟩ k hk i
 simp only [gst_mk htp hgp] at h
 exact h
def sCol : Str := ⟨#[99, 111, 108]⟩
def colC : List PV := [.v (.string sCol), .sl .no [pS sRed, pS sGreen, pS sBlue], .v (.int .i64 0), .v (.int .i64 0)]
def GNodes (l : List No) : Prop := ∀ k (h : k < l.length), GNode (GBk 3 (k : Int)) k l[k]
set_option maxRecDepth 20000 in
set_option maxHeartbeats 8000000 in
theorem make_any (l : List Int) (hl : l.length ≤ 1000) (hel : ∀ x ∈ l, 0 ≤ x ∧ x ≤ 255) (m : M) : ACalls Tryz.prog 7 [.sl .no (l.map pU)] m (fun v m' => ∃ ns : List No, v = .ag [.sl .no [.ag colC], .sl .no (ns.map No.pv)] ∧ (1 ≤ ns.length ∧ ns.length ≤ 3) ∧ GNodes ns ∧ m' = m) := by
 refine eN [2, 4, 10, 30] Tryz.func7 ?_
 (repeat revert X); refine wE tfAbMk18 ?_; repeat intro X hX
 refine callM (nextM_any l hl hel m _ rfl _ _ _ 3 (by omega) 0) ?_
 rintro v m' ⟨r0, i0, rfl, ⟨hr0, hr1⟩, rfl⟩
 obtain ⟨nn, hnn, hwn⟩ : ∃ nn : Nat, (1 ≤ nn ∧ nn ≤ 3) ∧ IntKind.i64.wrap (1 + r0) = (nn : Int) := ⟨(1 + r0).toNat, by omega, by rw [wrap64 (by omega)]; omega⟩
 refine wS hwn ?_
 (repeat revert X); refine wE aEQ_t ?_; repeat intro X hX
 obtain ⟨I, hI⟩ : ∃ I : F → M → Prop, ∀ f m', I f m' = (∃ (j : Nat) (ns : List No) (o2 : Own) (mm : M) (r : List (Option (List PV))) (i' : Nat), j ≤ nn ∧ f 2 = .bp m.nb 0 ∧ f 3 = .bp (m.nb + 1) 0 ∧ f 4 = .bp (m.nb + 2) 0 ∧ f 5 = pI nn ∧ f 6 = pI j ∧ ns.length = j ∧ GNodes ns ∧ Toks m mm ∧ Mine m mm o2 7 ∧ m' = mm.ext (some [PV.sl Own.full [], PV.sl Own.full []] :: some (tpC l i') :: some [PV.sl Own.full [PV.ag colC], PV.sl o2 (ns.map No.pv)] :: r)) := ⟨_, fun _ _ => rfl⟩
 refine aLoop I (fun f m => nn - numOf (f 6)) ?_ ?_
 ·rw [hI]; exact ⟨0, [], .full, m, [], i0, by omega, rfl, rfl, rfl, rfl, rfl, rfl, (fun _ h => by cases h), .refl _, .full, rfl⟩
 intro f m' hrel
 rw [hI] at hrel
 obtain ⟨j, ns, o2, mm, r, i1, hj, h2, h3, h4, h5, h6, hlen, hga, ht, g2, rfl⟩ := hrel
 have hnb := ht.nb
 (repeat revert X); refine wW (And.intro h5 (And.intro h6 @pI.eq_1)) ?_; repeat intro X hX
 refine aIf ?_; simp -implicitDefEqProofs only [slb, ↓reduceIte]; refine ⟨fun hb => ?_, fun hb => ?_⟩
 ·have hlt : j < nn := by simpa using hb
  have hi : IntKind.i64.wrap ((j : Int) + 1) = ((j + 1 : Nat) : Int) := by rw [wrap64 (by omega)]; omega
  have hmu : numOf (f 6) = j := by rw [h6]; rfl
  have hw1 : IntKind.i64.wrap ((nn : Int) - 1) = (nn : Int) - 1 := wrap64 (by omega)
  (repeat revert X); refine wE (And.intro tfAbMk18 (And.intro h3 (And.intro h5 (And.intro h6 (And.intro hw1 (And.intro hnb @pI.eq_1)))))) ?_; repeat intro X hX
  have hf := g2.free
  have hnl := no_len ns
  have hmx : ns.length + 1 ≤ maxLen := by unfold maxLen; omega
  have ht1 := ht.use (s := 7) g2
  have g2' := Mine.new ht o2 7
  refine aDrwE (isK m [PV.sl Own.full [PV.ag colC], PV.sl o2 (ns.map No.pv)]) (hne := List.cons_ne_nil _ _) rfl (by kernel_rfl) (by kernel_rfl) (isK_of ht.boxes) ?_
  simp -implicitDefEqProofs only [↓slp, slb, ↓reduceIte, reduceCtorEq, jA, jB, jF, tfAbMk18, h4, h6, hnb, pI, isK_all, isK_get, List.dropLast_cons_cons, List.dropLast_singleton, List.getLast_cons_cons, List.getLast_singleton]
  refine callM (nodeM_any ⟨l, m.nb + (r.length + 1 + 1 + 1), m.nb + 1, (j : Int), ((j : Int) == (nn : Int) - 1)⟩ mm hl hel (by show (j : Int) < 100; omega) _ _ r (by rw [hnb]) (by rw [hnb]) j (by omega) i1) ?_
  rintro v m' ⟨x, i2, n2, q2, rfl, hx, rfl⟩
  refine ⟨isK_of ht.boxes, ?_⟩
  refine wS (And.intro tfAbMk18 (And.intro h4 hnb)) ?_
  have hx7 : x.cs.length = 7 := rfl
  refine ⟨⟨hx7, rfl⟩, ?_⟩
  (repeat ((apply And.intro; (focus ((repeat' apply And.intro) <;> first | omega | assumption | trivial)))))
  refine ⟨isK_of ht1.boxes, ?_⟩
  (repeat (first | refine aReg ?_; simp -implicitDefEqProofs only [↓slp, slb, ↓reduceIte, jA, jF, h6, pI, hi] | apply hX; clear hX X))
  rw [hI]
  refine ⟨⟨j + 1, ns ++ [x], .tok mm.nt, (o2.use mm).fresh 7, r ++ [some (GP.gen ⟨l, m.nb + (r.length + 1 + 1 + 1), m.nb + 1, (j : Int), ((j : Int) == (nn : Int) - 1)⟩ n2 q2)], i2, hlt, h2, h3, h4, h5, rfl, by simp [hlen], ?_, ht1, g2', ?_⟩, by omega⟩
  ·intro k hk
   by_cases hkk : k < ns.length
   ·rw [List.getElem_append_left hkk]; exact hga k hkk
   ·have he : k = ns.length := by simp at hk; omega
    subst he
    rw [List.getElem_append_right (Nat.le_refl _)]
    subst hlen
    simpa using hx
  ·rw [List.map_append, List.map_singleton]
   rfl
 ·have hlt : j = nn := by simp at hb; omega
  subst hlt
  (repeat revert X); refine wE (And.intro tfAbMk18 (And.intro h2 (And.intro h4 hnb))) ?_; repeat intro X hX
  refine wQ Tryz.results7 (And.intro tfAbMk18 (And.intro h2 hnb)) ?_
  exact leave_toks ht rfl ⟨ns, rfl, by omega, hga, rfl⟩

theorem app_bytes (a b : Str) : (a ++ b).data.toList = a.data.toList ++ b.data.toList := by simp
def dec (l : List UInt8) : Nat := l.foldl (fun a b => a * 10 + (b.toNat - 48)) 0
theorem dec_app (l : List UInt8) (b : UInt8) : dec (l ++ [b]) = dec l * 10 + (b.toNat - 48) := by unfold dec; rw [List.foldl_append]; rfl
theorem strOf_one (n : Int) : (strOf [n]).data.toList = [UInt8.ofNat n.toNat] := rfl
theorem dig_byte (n : Nat) (h : n < 10) : (UInt8.ofNat ((48 + n : Nat) : Int).toNat).toNat - 48 = n := by
 rw [Int.toNat_natCast, UInt8.toNat_ofNat']
 omega
theorem dec_digS (n : Nat) : dec (digS n).data.toList = n := by
 induction n using Nat.strongRecOn with
 | ind n ih =>
  rw [digS]
  split
  ·rename_i h
   rw [strOf_one]
   show 0 * 10 + _ = n
   rw [dig_byte n h]; omega
  ·rename_i h
   rw [app_bytes, strOf_one, dec_app, ih (n / 10) (by omega), dig_byte (n % 10) (by omega)]
   omega
theorem digS_inj {a b : Nat} (h : digS a = digS b) : a = b := by rw [← dec_digS a, h, dec_digS]
def isNm (s : Str) (k : Nat) : Prop := ∃ c : UInt8, s = nameS ⟨#[c]⟩ k
theorem nm_bytes (c : UInt8) (k : Nat) : (nameS ⟨#[c]⟩ k).data.toList = c :: (digS k).data.toList := by
 unfold nameS; rw [app_bytes]; rfl
theorem nm_inj {c c' : UInt8} {k k' : Nat} (h : nameS ⟨#[c]⟩ k = nameS ⟨#[c']⟩ k') : c = c' ∧ k = k' := by
 have hb := congrArg (fun s : Str => s.data.toList) h
 simp only [nm_bytes, List.cons.injEq] at hb
 exact ⟨hb.1, digS_inj (ByteArray.ext (Array.ext' hb.2))⟩
theorem isNm_inj {s : Str} {k k' : Nat} (h : isNm s k) (h' : isNm s k') : k = k' := by
 obtain ⟨c, rfl⟩ := h
 obtain ⟨c', h'⟩ := h'
 exact (nm_inj h').2
theorem isNm_of (c : UInt8) (k : Nat) : isNm (nameS ⟨#[c]⟩ k) k := ⟨c, rfl⟩
def Inc : Nat → Nat → List Va → Prop
 | n, n', [] => n ≤ n'
 | n, n', v :: l => ∃ k, n < k ∧ isNm v.name k ∧ Inc k n' l
theorem Inc.le : ∀ {l : List Va} {n n' : Nat}, Inc n n' l → n ≤ n'
 | [], n, n', h => h
 | v :: l, n, n', ⟨k, h1, _, h2⟩ => by have := Inc.le h2; omega
theorem Inc.mono {m : Nat} : ∀ {l : List Va} {n n' : Nat}, Inc n n' l → m ≤ n → Inc m n' l
 | [], n, n', h, hm => Nat.le_trans hm h
 | v :: l, n, n', ⟨k, h1, h3, h2⟩, hm => ⟨k, by omega, h3, h2⟩
theorem Inc.app : ∀ {a b : List Va} {n n1 n' : Nat}, Inc n n1 a → Inc n1 n' b → Inc n n' (a ++ b)
 | [], b, n, n1, n', h, hb => hb.mono h
 | v :: a, b, n, n1, n', ⟨k, h1, h3, h2⟩, hb => ⟨k, h1, h3, h2.app hb⟩
theorem Inc.len : ∀ {l : List Va} {n n' : Nat}, Inc n n' l → l.length ≤ n' - n
 | [], n, n', h => Nat.zero_le _
 | v :: l, n, n', ⟨k, h1, h3, h2⟩ => by
  have := Inc.len h2
  have := Inc.le h2
  simp only [List.length_cons]
  omega
theorem Inc.nm : ∀ {l : List Va} {n n' : Nat}, Inc n n' l → ∀ v ∈ l, ∃ k, n < k ∧ k ≤ n' ∧ isNm v.name k
 | [], n, n', h, v, hv => by simp at hv
 | w :: l, n, n', ⟨k, h1, h3, h2⟩, v, hv => by
  rcases List.mem_cons.1 hv with rfl | hv
  ·exact ⟨k, h1, h2.le, h3⟩
  ·obtain ⟨j, j1, j2, j3⟩ := Inc.nm h2 v hv
   exact ⟨j, by omega, j2, j3⟩
theorem Inc.nd : ∀ {l : List Va} {n n' : Nat}, Inc n n' l → (l.map Va.name).Nodup
 | [], n, n', h => List.nodup_nil
 | w :: l, n, n', ⟨k, h1, h3, h2⟩ => by
  rw [List.map_cons, List.nodup_cons]
  refine ⟨fun hm => ?_, Inc.nd h2⟩
  obtain ⟨u, hu, he⟩ := List.mem_map.1 hm
  obtain ⟨j, j1, j2, j3⟩ := Inc.nm h2 u hu
  rw [he] at j3
  have := isNm_inj h3 j3
  omega
theorem Inc.own : ∀ {l : List Va} {n : Nat}, GOwn n l → Inc n (n + l.length) l
 | [], n, h => Nat.le_refl _
 | v :: l, n, ⟨h1, h2⟩ => by
  obtain ⟨t, la, e, _, _, rfl⟩ := h1
  refine ⟨n + 1, by omega, isNm_of _ _, ?_⟩
  have := Inc.own h2
  rwa [show n + 1 + l.length = n + (l.length + 1) by omega] at this
theorem chn_le {R : Nat → Nat → Nat → Am → Prop} (hR : ∀ j n n' a, R j n n' a → n ≤ n') : ∀ {l : List Am} {j n n' : Nat}, Chn R j n n' l → n ≤ n'
 | [], j, n, n', h => by cases h; exact Nat.le_refl _
 | a :: l, j, n, n', ⟨n1, h1, h2⟩ => Nat.le_trans (hR _ _ _ _ h1) (chn_le hR h2)
section
variable {RB : RBT} (hRB : ∀ n n' s outs b, RB n n' s outs b → n ≤ n')
include hRB
theorem eqs_inc {subs : Int} {n n' : Nat} {s : Sc} {outs : List Va} {l : List Qu} {vs : List Va} (h : GEqs RB subs n n' s outs l vs) : Inc n n' vs := by
 induction h with
 | defs h => exact Nat.le_refl _
 | choice h =>
  obtain ⟨t, ns, e, ar, _, he, _, hc, rfl⟩ := h
  exact chn_le (fun j n n' a ⟨nm, l, b, _, _, hb, _⟩ => hRB _ _ _ _ _ hb) hc
 | auto h =>
  obtain ⟨nn, ar, _, _, hc, rfl⟩ := h
  exact chn_le (fun j n n' a ⟨l, u, b, w, _, _, _, hb, _, _⟩ => hRB _ _ _ _ _ hb) hc
 | reset h =>
  obtain ⟨e, b, _, hb, rfl⟩ := h
  exact hRB _ _ _ _ _ hb
 | call h _ ih =>
  obtain ⟨k, a, b, hs, e, _, rfl, rfl, _⟩ := h
  exact ⟨_, Nat.lt_succ_self _, isNm_of _ _, _, Nat.lt_succ_self _, isNm_of _ _, ih⟩
 | samp h _ ih =>
  obtain ⟨e1, e2, e3, k1, kp, rfl, rfl, rfl, _⟩ := h
  exact ⟨_, Nat.lt_succ_self _, isNm_of _ _, _, Nat.lt_succ_self _, isNm_of _ _, _, Nat.lt_succ_self _, isNm_of _ _, ih⟩
theorem todo_inc {subs : Int} {n n' : Nat} {s : Sc} {outs : List Va} {l : List Qu} {vs : List Va} (h : GTodo (GEqs RB subs) n n' s outs l vs) : Inc n n' vs := by
 induction h with
 | nil => exact Nat.le_refl _
 | step _ _ h _ ih => exact (eqs_inc hRB h).app ih
theorem blk_inc {subs : Int} {n n' : Nat} {s : Sc} {outs : List Va} {b : Bk} (h : GBlk (GEqs RB subs) n n' s outs b) : Inc n n' b.vars := by
 obtain ⟨own, l, vs, _, ho, h, rfl⟩ := h
 exact (Inc.own ho).app (todo_inc hRB h)
end
theorem bk_le : ∀ (d : Nat) (subs : Int) (n n' : Nat) (s : Sc) (outs : List Va) (b : Bk), GBk d subs n n' s outs b → n ≤ n'
 | 0, subs, n, n', s, outs, b, h => (blk_inc (RB := fun _ _ _ _ _ => False) (fun _ _ _ _ _ h => h.elim) h).le
 | d + 1, subs, n, n', s, outs, b, h => (blk_inc (fun n n' s outs b h => bk_le d subs n n' s outs b h) h).le
end Go.Proofs.YthhhnfjcaicjnaaGreatDoor
