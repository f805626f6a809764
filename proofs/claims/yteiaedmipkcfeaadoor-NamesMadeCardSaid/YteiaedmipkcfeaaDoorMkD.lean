/-
 Texts that belong together: AbMk8, AbMk9, AbMk10.
-/
-- halved
import Derived.Test.YteiaedmipkcfeaaDoorMkC
/-
 The maker: ways out.
-/
set_option linter.unusedVariables false
set_option linter.unusedSimpArgs false
namespace Go.Proofs.YteiaedmipkcfeaaDoor
open Nat renaming reduceEqDiff → jA, reduceAdd → jB, reduceMul → jC, reduceLT → jD, reduceLeDiff → jE, reduceBEq → jF, reduceBNe → jG
open Int renaming reduceLE → jH, reduceLT → jI, reduceToNat → jJ, reduceEq → jK
open Go
set_option linter.defProp false
def Y5 := And.intro @slb (And.intro @td_3 (And.intro @zv_3 (And.intro @Tryd.underlying3 (And.intro @td_4 (And.intro @zv_4 (And.intro @Tryd.underlying4 (And.intro @td_5 (And.intro @zv_5 (And.intro @Tryd.underlying5 (And.intro @td_9 (And.intro @zv_9 (And.intro @Tryd.underlying9 (And.intro @td_21 (And.intro @zv_21 (And.intro @Tryd.underlying21 (And.intro @td_22 (And.intro @zv_22 (And.intro @tel_22 (And.intro @Tryd.underlying22 (And.intro @td_57 (And.intro @zv_57 (And.intro @tel_57 (And.intro @Tryd.underlying57 (And.intro @td_48 (And.intro @zv_48 (And.intro @tel_48 (And.intro @Tryd.underlying48 (And.intro @td_33 (And.intro @zv_33 (And.intro @tel_33 (And.intro @Tryd.underlying33 (And.intro @td_59 (And.intro @zv_59 (And.intro @tf_59 (And.intro @td_64 (And.intro @zv_64 (And.intro @tf_64 (And.intro @fl_64 (And.intro @td_65 (And.intro @zv_65 (And.intro @tel_65 (And.intro @Tryd.underlying65 (And.intro @td_67 (And.intro @zv_67 (And.intro @tf_67 (And.intro @nk_76 (And.intro @td_76 (And.intro @zv_76 (And.intro @Tryd.underlying76 (And.intro @td_78 (And.intro @zv_78 (And.intro @tf_78 (And.intro @nk_80 (And.intro @td_80 (And.intro @zv_80 (And.intro @Tryd.underlying80 (And.intro @td_82 (And.intro @zv_82 (And.intro @tf_82 (And.intro @td_120 (And.intro @zv_120 (And.intro @tel_120 (And.intro @Tryd.underlying120 (And.intro @td_160 (And.intro @zv_160 (And.intro @tf_160 (And.intro @td_117 (And.intro @zv_117 (And.intro @tf_117 (And.intro @td_153 (And.intro @zv_153 (And.intro @tel_153 (And.intro @Tryd.underlying153 (And.intro @Ex.settle_pv (And.intro @Ex.pure_pv (And.intro @Ex.cells_pv (And.intro @Ex.cs.eq_1 (And.intro @On.pv.eq_1 (And.intro @Ty.pv.eq_1 (And.intro @Va.settle_pv (And.intro @Va.pure_pv (And.intro @Va.cells_pv (And.intro @Va.cs.eq_1 (And.intro @Sc.pv.eq_1 (And.intro @Tr.settle_pv (And.intro @Tr.pure_pv (And.intro @Tr.cells_pv (And.intro @Tr.cs.eq_1 (And.intro @gst_nb (And.intro @gst_nt (And.intro @gst_fresh (And.intro @gst_use (And.intro @gst_free (And.intro @gst_alive (And.intro @gst_t (And.intro @gst_g (And.intro @gst_updt (And.intro @gst_updg (And.intro @gst_ext (And.intro @gst_ext2 (And.intro @gst_et (And.intro @gst_eg (And.intro @gst_own (And.intro @gst_own0 (And.intro @gst_ou (And.intro @gst_ou0 (And.intro @GP.tape.eq_1 @GP.gen.eq_1)))))))))))))))))))))))))))))))))))))))))))))))))))))))))))))))))))))))))))))))))))))))))))))))))))))))))))

/-- What is handed to a call may forget its tokens. -/
theorem callMS {P : Program} {g : FuncId} {args args' : List PV} {m : M} {R K Z : PV → M → Prop} (h : ACalls P g args' m R) (he : args.map PV.settle = args') (hk : ∀ v m', R v m' → K v m') : @ACallsI P g args m ⟨K, Z⟩ := by
 subst he
 refine ACallsZ.mono (Z := noZ) ⟨h.cc, fun G w vs hI hl hr => h.run G w vs hI (by simpa using hl) (fun j h1 h2 => ?_)⟩ hk (fun _ _ h => h.elim)
 simpa using (hr j (by simpa using h1) h2).settle
/-- The states that differ in what the maker counts, and in tokens. -/
def isGX (p : GP) (m m2 : M) : Prop := ∃ ts i n q, m2 = gst p ⟨m.boxes, ts⟩ i n q
theorem isGX_all {p : GP} {m : M} {Q : M → Prop} : (∀ m2, isGX p m m2 → Q m2) = ∀ ts i n q, Q (gst p ⟨m.boxes, ts⟩ i n q) :=
 propext ⟨fun h ts i n q => h _ ⟨ts, i, n, q, rfl⟩, fun h m2 ⟨ts, i, n, q, e⟩ => e ▸ h ts i n q⟩
theorem isGX_of {p : GP} {m mm : M} {i : Nat} {n q : Int} (h : mm.boxes = m.boxes) : isGX p m (gst p mm i n q) := by
 refine ⟨mm.toks, i, n, q, ?_⟩
 rw [← h]
theorem gst_gx {p : GP} {m : M} {ts : List (Option Nat)} {i : Nat} {n q : Int} (hG : p.gp < m.nb) : (gst p ⟨m.boxes, ts⟩ i n q).get p.gp = some (p.gen n q) := gst_g hG

def GWay (s : Sc) (nn : Int) (t : Tr) : Prop := ∃ (e : Ex) (k : Nat) (b : Bool), GEx 2 ⟨s.ready, [], s.lasts⟩ tyB false e ∧ (k : Int) < nn ∧ t = ⟨e, nameS ⟨#[83]⟩ k, b, 0, 0⟩
def GWays (s : Sc) (nn : Int) (l : List Tr) : Prop := l.length ≤ 2 ∧ ∀ t ∈ l, GWay s nn t
theorem tr_len (l : List Tr) : ∀ x ∈ l.map Tr.pv, x.cells.length = 12 := fun x hx => by
 obtain ⟨a, _, rfl⟩ := List.mem_map.1 hx
 rfl
set_option maxRecDepth 20000 in
set_option maxHeartbeats 2000000 in
theorem ways_any (p : GP) (m : M) (hok : p.ok m) (s : Sc) (hs : s.ok) (nn : Int) (hn0 : 0 < nn) (hn1 : nn < 100) (i : Nat) (n q : Int) : ACalls Tryd.prog 105 [.bp p.gp 0, s.pv, pI nn] (gst p m i n q) (fun v m' => ∃ l i', v = .sl .no (List.map Tr.pv l) ∧ GWays s nn l ∧ m' = gst p m i' n q) := by
 have hG := hok.gp
 have hT := hok.tp
 have hs2 : Sc.ok ⟨s.ready, [], s.lasts⟩ := ⟨hs.ready, by simp, hs.lasts⟩
 refine ACalls.enter (mu := []) ok_mix Tryd.func105 rfl (by kernel_rfl) (by kernel_rfl) (by simp only [List.length_cons, List.length_nil, Tryd.ntmps105]; omega) ?_
 (repeat (first | refine aSeq fun X hX => ?_ | apply aBlk | apply aSkip | (first | apply aExit | apply aRet); try simp only [slx, ↓reduceIte, jA, reduceCtorEq] | (first | apply aReg | apply aIf); simp -implicitDefEqProofs only [↓slp, ↓reduceIte, reduceCtorEq, jA, jB, jE, Y5, hT, hG] | apply hX; clear hX X | clear hX X; apply hX; clear hX X | apply And.intro; · first | assumption | and_intros <;> first | omega | assumption))
 refine callM (next_any p _ hok 3 (by omega) i n q) ?_
 rintro v m' ⟨r, i', rfl, ⟨hr0, hr1⟩, rfl⟩
 simp -implicitDefEqProofs only [↓slp, ↓reduceIte, reduceCtorEq, jA, jB, jE, Y5, hT, hG]
 (repeat (first | refine aSeq fun X hX => ?_ | apply aBlk | apply aSkip | (first | apply aExit | apply aRet); try simp only [slx, ↓reduceIte, jA, reduceCtorEq] | (first | apply aReg | apply aIf); simp -implicitDefEqProofs only [↓slp, ↓reduceIte, reduceCtorEq, jA, jB, jE, Y5, hT, hG] | apply hX; clear hX X | clear hX X; apply hX; clear hX X | apply And.intro; · first | assumption | and_intros <;> first | omega | assumption))
 obtain ⟨I, hI⟩ : ∃ I : F → M → Prop, ∀ f m', I f m' = (∃ (k : Nat) (l : List Tr) (o2 : Own) (mm : M) (i' : Nat), (k : Int) ≤ r ∧ f 0 = .bp p.gp 0 ∧ f 2 = pI nn ∧ f 4 = .ep [.sl .no (s.ready.map Va.pv), .sl .no (s.all.map Va.pv), .sl .no (s.lasts.map Va.pv)] ∧ f 7 = .sl o2 (l.map Tr.pv) ∧ f 8 = pI r ∧ f 9 = pI k ∧ l.length = k ∧ (∀ t ∈ l, GWay s nn t) ∧ Toks m mm ∧ Mine m mm o2 12 ∧ m' = gst p mm i' n q) := ⟨_, fun _ _ => rfl⟩
 refine aLoop I (fun f m => r.toNat - numOf (f 9)) ?_ ?_
 ·rw [hI]; exact ⟨0, [], .full, m, i', by omega, rfl, rfl, rfl, rfl, rfl, rfl, rfl, (fun t h => by cases h), .refl _, .full, rfl⟩
 intro f m' hrel
 rw [hI] at hrel
 obtain ⟨k, l, o2, mm, i2, hk, h0, h2, h4, h7, h8, h9, hlk, hgl, ht, g2, rfl⟩ := hrel
 have hG' : p.gp < mm.nb := by rw [ht.nb]; exact hG
 have hT' : p.tp < mm.nb := by rw [ht.nb]; exact hT
 (repeat (first | refine aSeq fun X hX => ?_ | apply aBlk | apply aSkip | (first | apply aExit | apply aRet); try simp only [slx, ↓reduceIte, jA, reduceCtorEq] | (first | apply aReg | refine aDrE ?_); simp -implicitDefEqProofs only [↓slp, ↓reduceIte, reduceCtorEq, jA, jB, jE, Y5, h8, h9, pI] | apply hX; clear hX X | clear hX X; apply hX; clear hX X | apply And.intro; · first | assumption | and_intros <;> first | omega | assumption))
 refine aIf ?_; simp -implicitDefEqProofs only [↓slp, slb, ↓reduceIte, reduceCtorEq, jA, jB, jE]; refine ⟨fun hb => ?_, fun hb => ?_⟩
 ·have hlt : (k : Int) < r := by simpa using hb
  have hi : IntKind.i64.wrap ((k : Int) + 1) = ((k + 1 : Nat) : Int) := by rw [wrap64 (by omega)]; omega
  (repeat (first | refine aSeq fun X hX => ?_ | apply aBlk | apply aSkip | (first | apply aExit | apply aRet); try simp only [slx, ↓reduceIte, jA, reduceCtorEq] | (apply hX; clear hX X) | (clear hX X; apply hX; clear hX X)))
  refine aDrw (isGX p m) (by kernel_rfl) (isGX_of ht.boxes) ?_
  simp -implicitDefEqProofs only [↓slp, ↓reduceIte, reduceCtorEq, jA, jB, jE, Y5, h0, h2, h4, h7, h8, h9, hG', hT', hG, hT, pI, isGX_all, gst_gx, forall_const]
  have hmx : l.length + 1 ≤ maxLen := by unfold maxLen; omega
  have hf := g2.free
  have hvl := tr_len l
  have ht1 := ht.use (s := 12) g2
  have g2' := Mine.new ht o2 12
  refine callE (tyB_any _) ?_
  refine ⟨isGX_of ht.boxes, ?_⟩
  simp -implicitDefEqProofs only [↓slp, ↓reduceIte, reduceCtorEq, jA, jB, jE, Y5, h0, h2, h4, h7, h8, h9, hG', hT', hG, hT, pI, isGX_all, gst_gx, forall_const]
  refine callMS (expr_any 2 (by omega) p _ (hok.toks ht) ⟨s.ready, [], s.lasts⟩ hs2 tyB (.inr (.inl rfl)) false _ n q) rfl ?_
  rintro v m' ⟨e, i3, rfl, he, rfl⟩
  refine ⟨isGX_of ht.boxes, ?_⟩
  simp -implicitDefEqProofs only [↓slp, ↓reduceIte, reduceCtorEq, jA, jB, jE, Y5, h0, h2, h4, h7, h8, h9, hG', hT', hG, hT, pI, isGX_all, gst_gx, forall_const]
  refine callM (next_any p _ (hok.toks ht) nn hn0 _ n q) ?_
  rintro v m' ⟨x, i4, rfl, ⟨hx0, hx1⟩, rfl⟩
  obtain ⟨kk, rfl⟩ : ∃ kk : Nat, x = kk := ⟨x.toNat, (Int.toNat_of_nonneg hx0).symm⟩
  refine ⟨isGX_of ht.boxes, ?_⟩
  simp -implicitDefEqProofs only [↓slp, ↓reduceIte, reduceCtorEq, jA, jB, jE, Y5, h0, h2, h4, h7, h8, h9, hG', hT', hG, hT, pI, isGX_all, gst_gx, forall_const]
  refine callE (digits_any kk _ (by omega)) ?_
  have hsz := digS_size kk
  have hs1 : (⟨#[83]⟩ : ByteArray).size = 1 := rfl
  refine ⟨isGX_of ht.boxes, ?_⟩
  simp -implicitDefEqProofs only [↓slp, ↓reduceIte, reduceCtorEq, jA, jB, jE, Y5, h0, h2, h4, h7, h8, h9, hG', hT', hG, hT, pI, isGX_all, gst_gx, forall_const, pS]
  (repeat (first | (intro hlen; unfold maxLen at hlen) | (apply And.intro; (focus (first | omega | assumption | trivial | (repeat' apply And.intro) <;> first | omega | assumption | trivial)))))
  refine callM (next_any p _ (hok.toks ht) 2 (by omega) _ n q) ?_
  rintro v m' ⟨y, i5, rfl, ⟨hy0, hy1⟩, rfl⟩
  refine ⟨isGX_of ht.boxes, ?_⟩
  simp -implicitDefEqProofs only [↓slp, ↓reduceIte, reduceCtorEq, jA, jB, jE, Y5, h0, h2, h4, h7, h8, h9, hG', hT', hG, hT, pI, isGX_all, gst_gx, forall_const, pS]
  (repeat (first | (intro hlen; unfold maxLen at hlen) | (apply And.intro; (focus (first | omega | assumption | trivial | (repeat' apply And.intro) <;> first | omega | assumption | trivial)))))
  refine ⟨isGX_of ht1.boxes, ?_⟩
  (repeat (first | refine aSeq fun X hX => ?_ | apply aBlk | apply aSkip | (first | apply aExit | apply aRet); try simp only [slx, ↓reduceIte, jA, reduceCtorEq] | (first | apply aReg | apply aIf); simp -implicitDefEqProofs only [↓slp, ↓reduceIte, reduceCtorEq, jA, jB, jE, Y5, h0, h2, h4, h7, h8, h9, hi, pI] | apply hX; clear hX X | clear hX X; apply hX; clear hX X | apply And.intro; · first | assumption | and_intros <;> first | omega | assumption))
  rw [hI]
  refine ⟨⟨k + 1, l ++ [⟨e, nameS ⟨#[83]⟩ kk, (y == 0), 0, 0⟩], .tok mm.nt, _, i5, by omega, h0, h2, h4, congrArg (PV.sl (.tok mm.nt)) (by rw [List.map_append]; rfl), h8, rfl, by simp [hlk], ?_, ht1, g2', rfl⟩, ?_⟩
  ·intro t ht2
   rcases List.mem_append.1 ht2 with h | h
   ·exact hgl t h
   ·have := List.mem_singleton.1 h
    exact ⟨e, kk, _, he, hx1, this⟩
  ·omega
 ·(repeat (first | refine aSeq fun X hX => ?_ | apply aBlk | apply aSkip | (first | apply aExit | apply aRet); try simp only [slx, ↓reduceIte, jA, reduceCtorEq] | (first | apply aReg | apply aIf); simp -implicitDefEqProofs only [↓slp, ↓reduceIte, reduceCtorEq, jA, jB, jE, Y5, h7] | apply hX; clear hX X | clear hX X; apply hX; clear hX X | apply And.intro; · first | assumption | and_intros <;> first | omega | assumption))
  simp only [aPost, Tryd.results105, aRes_n, aRes_t, aRes_c, pack_one, pack_two]
  exact leave_gst0 hok ht rfl ⟨l, i2, by simp only [h7, put_app]; rfl, ⟨by omega, hgl⟩, rfl⟩
end Go.Proofs.YteiaedmipkcfeaaDoor

/-
 The maker: what blocks and equations may be made; the contracts.
-/
set_option linter.unusedVariables false
set_option linter.unusedSimpArgs false
namespace Go.Proofs.YteiaedmipkcfeaaDoor
open Go

/-- No more than k variables. -/
structure Sc.le (s : Sc) (k : Nat) : Prop where
 ready : s.ready.length ≤ k
 all : s.all.length ≤ k
 lasts : s.lasts.length ≤ k
theorem Sc.le.ok {s : Sc} {k : Nat} (h : s.le k) (hk : k ≤ 2 ^ 30) : s.ok := ⟨by have := h.ready; omega, by have := h.all; omega, by have := h.lasts; omega⟩
theorem Sc.le.mono {s : Sc} {k k' : Nat} (h : s.le k) (hk : k ≤ k') : s.le k' := ⟨Nat.le_trans h.ready hk, Nat.le_trans h.all hk, Nat.le_trans h.lasts hk⟩
/-- The scope of an arm. -/
def Sc.arm (s : Sc) : Sc := ⟨s.ready, [], s.lasts⟩
theorem Sc.le.arm {s : Sc} {k : Nat} (h : s.le k) : s.arm.le k := ⟨h.ready, by simp [Sc.arm], h.lasts⟩
theorem Sc.le.more {s : Sc} {k : Nat} (h : s.le k) (l : List Va) : (s.more l).le (k + l.length) := by
 refine ⟨?_, ?_, ?_⟩
 ·have := h.ready; simp only [Sc.more, List.length_append]; omega
 ·have := h.all; simp only [Sc.more]; omega
 ·have := h.lasts; simp only [Sc.more]; omega
def zE : Ex := .mk 0 0 0 sE [] [] 0 0

/-- How much can be made: so many names, so many equations. -/
def cB : Nat → Nat
 | 0 => 10 + 6 * 84
 | d + 1 => 10 + 6 * (84 + 3 * cB d)
def cP : Nat → Nat
 | 0 => 0
 | d + 1 => cB d
def cE (d : Nat) (q : Int) : Nat := 4 * q.toNat + 3 * cP d + 4
/-- What is counted stays within c. -/
structure Cnt (c : Nat) (n : Nat) (q : Int) (n' : Nat) (q' : Int) : Prop where
 n : n' ≤ n + c
 q0 : q - c ≤ q'
 q1 : q' ≤ q

abbrev RBT := Nat → Nat → Sc → List Va → Bk → Prop
abbrev RET := Nat → Nat → Sc → List Va → List Qu → List Va → Prop
/-- The contract of block, so deep. -/
def BlockC (d : Nat) (RB : Int → RBT) : Prop := ∀ (p : GP) (m : M) (hok : p.ok m) (s : Sc) (k : Nat) (hs : s.le k) (outs : List Va) (ho : outs.length ≤ 3) (hty : ∀ v ∈ outs, isTy v.t) (i n : Nat) (q : Int) (hk : k + cB d ≤ 2 ^ 30) (hn : n + cB d ≤ 2 ^ 50) (hq : q ≤ 20) (hq2 : -(2 : Int) ^ 50 ≤ q - cB d), ACalls Tryd.prog 54 [.bp p.gp 0, s.pv, .sl .no (outs.map Va.pv), pI d] (gst p m i n q) (fun v m' => ∃ (b : Bk) (i' n' : Nat) (q' : Int), v = b.pv ∧ RB p.subs n n' s outs b ∧ Cnt (cB d) n q n' q' ∧ m' = gst p m i' n' q')
/-- Arms, one behind the other: the names that they make are counted on. -/
def Chn (R : Nat → Nat → Nat → Am → Prop) : Nat → Nat → Nat → List Am → Prop
 | _, n, n', [] => n' = n
 | j, n, n', a :: l => ∃ n1, R j n n1 a ∧ Chn R (j + 1) n1 n' l
theorem Chn_snoc {R : Nat → Nat → Nat → Am → Prop} {a : Am} {n1 n2 : Nat} : ∀ {l : List Am} {j n : Nat}, Chn R j n n1 l → R (j + l.length) n1 n2 a → Chn R j n n2 (l ++ [a])
 | [], j, n, h, ha => by cases h; exact ⟨n2, ha, rfl⟩
 | b :: l, j, n, ⟨n3, h1, h2⟩, ha => ⟨n3, h1, Chn_snoc h2 (by rwa [show j + 1 + l.length = j + (b :: l).length by simp; omega])⟩
/-- An arm of a choice: the first one defines all. -/
def GArm (RB : RBT) (s : Sc) (outs : List Va) (j n n' : Nat) (a : Am) : Prop := ∃ nm l b, isLess outs l ∧ (j = 0 → l = outs) ∧ RB n n' s.arm l b ∧ a = .mk nm b.vars b.eqs [] [] 0 0
def sTrue : Str := ⟨#[116, 114, 117, 101]⟩
def sFalse : Str := ⟨#[102, 97, 108, 115, 101]⟩
def GChoice (RB : RBT) (n n' : Nat) (s : Sc) (outs : List Va) (x : Qu) : Prop := ∃ (t : Ty) (ns : List Str) (e : Ex) (ar : List Am), ((t = tyC ∧ ns = [sBlue, sRed, sGreen]) ∨ (t = tyB ∧ ns = [sTrue, sFalse])) ∧ GEx 2 s t true e ∧ ar.map Am.name = ns ∧ Chn (GArm RB s outs) 0 n n' ar ∧ x = .mk 3 [] sE [] false e ar 0 0
theorem isLess_refl : ∀ l : List Va, isLess l l
 | [] => rfl
 | v :: l => .inl ⟨l, rfl, isLess_refl l⟩
theorem isLess_ty : ∀ {a l : List Va}, isLess a l → (∀ v ∈ a, isTy v.t) → ∀ v ∈ l, isTy v.t
 | [], l, h, _ => by cases h; intro v hv; cases hv
 | w :: r, l, h, ht => by
  rcases h with ⟨l', rfl, h⟩ | ⟨_, h⟩
  ·intro v hv
   rcases List.mem_cons.1 hv with rfl | hv
   ·exact ht _ (by simp)
   ·exact isLess_ty h (fun v hv => ht v (by simp [hv])) v hv
  ·exact isLess_ty h (fun v hv => ht v (by simp [hv]))
theorem am_len (l : List Am) : ∀ x ∈ l.map Am.pv, x.cells.length = 7 := fun x hx => by
 obtain ⟨a, _, rfl⟩ := List.mem_map.1 hx
 rw [Am.cells_pv]; rfl
theorem qu_len (l : List Qu) : ∀ x ∈ l.map Qu.pv, x.cells.length = 16 := fun x hx => by
 obtain ⟨a, _, rfl⟩ := List.mem_map.1 hx
 rw [Qu.cells_pv]; rfl
theorem Bk.settle_pv (b : Bk) : b.pv.settle = b.pv := rfl
theorem Bk.pure_pv (b : Bk) : b.pv.pure = true := rfl
theorem Cnt.refl (c n : Nat) (q : Int) : Cnt c n q n q := ⟨by omega, by omega, by omega⟩
theorem Cnt.trans {c c' n n1 n2 : Nat} {q q1 q2 : Int} (h : Cnt c n q n1 q1) (h' : Cnt c' n1 q1 n2 q2) : Cnt (c + c') n q n2 q2 := by
 have := h.n; have := h.q0; have := h.q1; have := h'.n; have := h'.q0; have := h'.q1
 exact ⟨by omega, by omega, by omega⟩
theorem Cnt.le {c c' n n1 : Nat} {q q1 : Int} (h : Cnt c n q n1 q1) (hc : c ≤ c') : Cnt c' n q n1 q1 := by
 have := h.n; have := h.q0; have := h.q1
 exact ⟨by omega, by omega, by omega⟩
/-- The states that differ in counts, in tokens and in all own boxes but the second. -/
def isGX1 (p : GP) (m : M) (c : List PV) (m2 : M) : Prop := ∃ ts x r i n q, m2 = gst p ((⟨m.boxes, ts⟩ : M).ext (x :: some c :: r)) i n q
theorem isGX1_all {p : GP} {m : M} {c : List PV} {Q : M → Prop} : (∀ m2, isGX1 p m c m2 → Q m2) = ∀ ts x r i n q, Q (gst p ((⟨m.boxes, ts⟩ : M).ext (x :: some c :: r)) i n q) :=
 propext ⟨fun h ts x r i n q => h _ ⟨ts, x, r, i, n, q, rfl⟩, fun h m2 ⟨ts, x, r, i, n, q, e⟩ => e ▸ h ts x r i n q⟩
theorem isGX1_of {p : GP} {m mm : M} {c : List PV} {x : Option (List PV)} {r : List (Option (List PV))} {i : Nat} {n q : Int} (h : mm.boxes = m.boxes) : isGX1 p m c (gst p (mm.ext (x :: some c :: r)) i n q) := by
 refine ⟨mm.toks, x, r, i, n, q, ?_⟩
 rw [← h]
theorem gst_gx1 {p : GP} {m : M} {c : List PV} {ts : List (Option Nat)} {x : Option (List PV)} {r : List (Option (List PV))} {i : Nat} {n q : Int} (hT : p.tp < m.nb) (hG : p.gp < m.nb) : (gst p ((⟨m.boxes, ts⟩ : M).ext (x :: some c :: r)) i n q).get (m.nb + 1) = some c := by
 have := gst_own (p := p) (m := (⟨m.boxes, ts⟩ : M)) (bs := x :: some c :: r) (k := m.nb) (j := 1) (i := i) (n := n) (q := q) rfl hT hG
 rw [this]; rfl
end Go.Proofs.YteiaedmipkcfeaaDoor

/-
 The maker: a switch.
-/
set_option linter.unusedVariables false
set_option linter.unusedSimpArgs false
namespace Go.Proofs.YteiaedmipkcfeaaDoor
open Nat renaming reduceEqDiff → jA, reduceAdd → jB, reduceMul → jC, reduceLT → jD, reduceLeDiff → jE, reduceBEq → jF, reduceBNe → jG
open Int renaming reduceLE → jH, reduceLT → jI, reduceToNat → jJ, reduceEq → jK
open Go
set_option linter.defProp false
def Y6 := And.intro @slb (And.intro @td_3 (And.intro @zv_3 (And.intro @Tryd.underlying3 (And.intro @td_4 (And.intro @zv_4 (And.intro @Tryd.underlying4 (And.intro @td_5 (And.intro @zv_5 (And.intro @Tryd.underlying5 (And.intro @td_9 (And.intro @zv_9 (And.intro @Tryd.underlying9 (And.intro @td_21 (And.intro @zv_21 (And.intro @Tryd.underlying21 (And.intro @td_22 (And.intro @zv_22 (And.intro @tel_22 (And.intro @Tryd.underlying22 (And.intro @td_57 (And.intro @zv_57 (And.intro @tel_57 (And.intro @Tryd.underlying57 (And.intro @td_48 (And.intro @zv_48 (And.intro @tel_48 (And.intro @Tryd.underlying48 (And.intro @td_49 (And.intro @zv_49 (And.intro @tel_49 (And.intro @Tryd.underlying49 (And.intro @td_51 (And.intro @zv_51 (And.intro @tf_51 (And.intro @td_33 (And.intro @zv_33 (And.intro @tel_33 (And.intro @Tryd.underlying33 (And.intro @td_59 (And.intro @zv_59 (And.intro @tf_59 (And.intro @td_64 (And.intro @zv_64 (And.intro @tf_64 (And.intro @fl_64 (And.intro @td_65 (And.intro @zv_65 (And.intro @tel_65 (And.intro @Tryd.underlying65 (And.intro @td_67 (And.intro @zv_67 (And.intro @tf_67 (And.intro @td_60 (And.intro @zv_60 (And.intro @tel_60 (And.intro @Tryd.underlying60 (And.intro @td_62 (And.intro @zv_62 (And.intro @tf_62 (And.intro @nk_76 (And.intro @td_76 (And.intro @zv_76 (And.intro @Tryd.underlying76 (And.intro @td_78 (And.intro @zv_78 (And.intro @tf_78 (And.intro @nk_80 (And.intro @td_80 (And.intro @zv_80 (And.intro @Tryd.underlying80 (And.intro @td_82 (And.intro @zv_82 (And.intro @tf_82 (And.intro @td_120 (And.intro @zv_120 (And.intro @tel_120 (And.intro @Tryd.underlying120 (And.intro @td_122 (And.intro @zv_122 (And.intro @tf_122 (And.intro @td_160 (And.intro @zv_160 (And.intro @tf_160 (And.intro @td_117 (And.intro @zv_117 (And.intro @tf_117 (And.intro @td_153 (And.intro @zv_153 (And.intro @tel_153 (And.intro @Tryd.underlying153 (And.intro @Ex.settle_pv (And.intro @Ex.pure_pv (And.intro @Ex.cells_pv (And.intro @Ex.cs.eq_1 (And.intro @On.pv.eq_1 (And.intro @Ty.pv.eq_1 (And.intro @Va.settle_pv (And.intro @Va.pure_pv (And.intro @Va.cells_pv (And.intro @Va.cs.eq_1 (And.intro @Sc.pv.eq_1 (And.intro @gst_nb (And.intro @gst_nt (And.intro @gst_fresh (And.intro @gst_use (And.intro @gst_free (And.intro @gst_alive (And.intro @gst_t (And.intro @gst_g (And.intro @gst_updt (And.intro @gst_updg (And.intro @gst_ext (And.intro @gst_ext2 (And.intro @gst_et (And.intro @gst_eg (And.intro @gst_own (And.intro @gst_own0 (And.intro @gst_ou (And.intro @gst_ou0 (And.intro @GP.tape.eq_1 @GP.gen.eq_1))))))))))))))))))))))))))))))))))))))))))))))))))))))))))))))))))))))))))))))))))))))))))))))))))))))))))))))))))))))))

set_option maxRecDepth 20000 in
set_option maxHeartbeats 4000000 in
theorem choice_any (d : Nat) (hd : d + 1 < 1000) (RB : Int → RBT) (B : BlockC d RB) (p : GP) (m : M) (hok : p.ok m) (s : Sc) (k : Nat) (hs : s.le k) (outs : List Va) (ho : outs.length ≤ 3) (hty : ∀ v ∈ outs, isTy v.t) (i n : Nat) (q : Int) (hk : k + 3 * cB d ≤ 2 ^ 30) (hn : n + 3 * cB d ≤ 2 ^ 50) (hq : q ≤ 20) (hq2 : -(2 : Int) ^ 50 ≤ q - 3 * cB d) : ACalls Tryd.prog 93 [.bp p.gp 0, s.pv, .sl .no (outs.map Va.pv), pI ((d + 1 : Nat) : Int)] (gst p m i n q) (fun v m' => ∃ (x : Qu) (i' n' : Nat) (q' : Int), v = x.pv ∧ GChoice (RB p.subs) n n' s outs x ∧ Cnt (3 * cB d) n q n' q' ∧ m' = gst p m i' n' q') := by
 have hG := hok.gp
 have hT := hok.tp
 have hw : IntKind.i64.wrap (((d + 1 : Nat) : Int) - 1) = (d : Int) := by rw [wrap64 (by omega)]; omega
 refine ACalls.enter (mu := [8, 9]) ok_mix Tryd.func93 rfl (by kernel_rfl) (by kernel_rfl) (by simp only [List.length_cons, List.length_nil, Tryd.ntmps93]; omega) ?_
 (repeat (first | refine aSeq fun X hX => ?_ | apply aBlk | apply aSkip | (first | apply aExit | apply aRet); try simp only [slx, ↓reduceIte, jA, reduceCtorEq] | (first | apply aReg | apply aIf); simp -implicitDefEqProofs only [↓slp, ↓reduceIte, reduceCtorEq, jA, jB, jD, jE, jF, Y6, hT, hG] | apply hX; clear hX X | clear hX X; apply hX; clear hX X | intro hlen; unfold maxLen at hlen | apply And.intro; · first | assumption | and_intros <;> first | omega | assumption))
 refine callM (next_any p _ (hok.ext _) 2 (by omega) i n q) ?_
 rintro v m' ⟨r, i', rfl, ⟨hr0, hr1⟩, rfl⟩
 simp -implicitDefEqProofs only [↓slp, ↓reduceIte, reduceCtorEq, jA, jB, jD, jE, jF, Y6, hT, hG]
 apply hX; clear hX X
 have join : ∀ (f : F) (t : Ty) (ns : List Str) (e : Ex) (i2 : Nat), ((t = tyC ∧ ns = [sBlue, sRed, sGreen]) ∨ (t = tyB ∧ ns = [sTrue, sFalse])) → GEx 2 s t true e → f 0 = .bp p.gp 0 → f 2 = .sl .no (outs.map Va.pv) → f 3 = pI ((d + 1 : Nat) : Int) → f 5 = .ep [.sl .no (s.ready.map Va.pv), .sl .no (s.all.map Va.pv), .sl .no (s.lasts.map Va.pv)] → f 8 = .bp m.nb 0 → f 9 = .bp (m.nb + 1) 0 → f 10 = .sl .full (ns.map pS) →
     X f (gst p (m.ext [some [PV.v (Value.int IntKind.u8 0), PV.sl Own.full [], PV.v (Value.string { data := #[] }), PV.sl Own.full [], PV.v (Value.bool false), PV.v (Value.int IntKind.u8 0), PV.v (Value.int IntKind.u8 0), PV.v (Value.int IntKind.i32 0), PV.v (Value.string { data := #[] }), PV.sl Own.full [], PV.sl Own.full [], PV.v (Value.int IntKind.i64 0), PV.v (Value.int IntKind.i64 0), PV.sl Own.full [], PV.v (Value.int IntKind.i64 0), PV.v (Value.int IntKind.i64 0)], some [PV.v (Value.int IntKind.u8 3), PV.sl Own.full [], PV.v (Value.string { data := #[] }), PV.sl Own.full [], PV.v (Value.bool false), PV.v (Value.int IntKind.u8 e.kind), PV.v (Value.int IntKind.u8 e.op), PV.v (Value.int IntKind.i32 e.n), PV.v (Value.string e.name), PV.sl Own.no (e.names.map pS), PV.sl Own.no (e.kids.map Ex.pv), PV.v (Value.int IntKind.i64 e.line), PV.v (Value.int IntKind.i64 e.col), PV.sl Own.full [], PV.v (Value.int IntKind.i64 0), PV.v (Value.int IntKind.i64 0)]]) i2 n q) := by
  intro f t ns e i2 hns he h0 h2 h3 h5 h8 h9 h10
  apply hX; clear hX X
  have hn3 : ns.length ≤ 3 := by rcases hns with ⟨_, rfl⟩ | ⟨_, rfl⟩ <;> decide
  (repeat (first | refine aSeq fun X hX => ?_ | apply aBlk | apply aSkip | (first | apply aExit | apply aRet); try simp only [slx, ↓reduceIte, jA, reduceCtorEq] | (first | apply aReg | apply aIf); simp -implicitDefEqProofs only [↓slp, ↓reduceIte, reduceCtorEq, jA, jB, jD, jE, jF, Y6, h0, h2, h3, h5, h8, h9, h10, hT, hG] | apply hX; clear hX X | clear hX X; apply hX; clear hX X | intro hlen; unfold maxLen at hlen | apply And.intro; · first | assumption | and_intros <;> first | omega | assumption))
  obtain ⟨I, hI⟩ : ∃ I : F → M → Prop, ∀ f m', I f m' = (∃ (j : Nat) (ar : List Am) (o2 : Own) (mm : M) (i' n' : Nat) (q' : Int), j ≤ ns.length ∧ f 0 = .bp p.gp 0 ∧ f 2 = .sl .no (outs.map Va.pv) ∧ f 3 = pI ((d + 1 : Nat) : Int) ∧ f 5 = .ep [.sl .no (s.ready.map Va.pv), .sl .no (s.all.map Va.pv), .sl .no (s.lasts.map Va.pv)] ∧ f 8 = .bp m.nb 0 ∧ f 9 = .bp (m.nb + 1) 0 ∧ f 10 = .sl .full (ns.map pS) ∧ f 11 = pI j ∧ ar.map Am.name = ns.take j ∧ Chn (GArm (RB p.subs) s outs) 0 n n' ar ∧ Toks m mm ∧ Mine m mm o2 7 ∧ Cnt (j * cB d) n q n' q' ∧ m' = gst p (mm.ext [some [PV.v (Value.int IntKind.u8 0), PV.sl Own.full [], PV.v (Value.string { data := #[] }), PV.sl Own.full [], PV.v (Value.bool false), PV.v (Value.int IntKind.u8 0), PV.v (Value.int IntKind.u8 0), PV.v (Value.int IntKind.i32 0), PV.v (Value.string { data := #[] }), PV.sl Own.full [], PV.sl Own.full [], PV.v (Value.int IntKind.i64 0), PV.v (Value.int IntKind.i64 0), PV.sl Own.full [], PV.v (Value.int IntKind.i64 0), PV.v (Value.int IntKind.i64 0)], some [PV.v (Value.int IntKind.u8 3), PV.sl Own.full [], PV.v (Value.string { data := #[] }), PV.sl Own.full [], PV.v (Value.bool false), PV.v (Value.int IntKind.u8 e.kind), PV.v (Value.int IntKind.u8 e.op), PV.v (Value.int IntKind.i32 e.n), PV.v (Value.string e.name), PV.sl Own.no (e.names.map pS), PV.sl Own.no (e.kids.map Ex.pv), PV.v (Value.int IntKind.i64 e.line), PV.v (Value.int IntKind.i64 e.col), PV.sl o2 (ar.map Am.pv), PV.v (Value.int IntKind.i64 0), PV.v (Value.int IntKind.i64 0)]]) i' n' q') := ⟨_, fun _ _ => rfl⟩
  refine aLoop I (fun f m => ns.length - numOf (f 11)) ?_ ?_
  ·rw [hI]; exact ⟨0, [], .full, m, i2, n, q, by omega, h0, h2, h3, h5, h8, h9, h10, rfl, rfl, rfl, .refl _, .full, Cnt.le (Cnt.refl 0 n q) (by omega), rfl⟩
  intro f m' hrel
  rw [hI] at hrel
  clear h0 h2 h3 h5 h8 h9 h10
  obtain ⟨j, ar, o2, mm, i3, n3, q3, hj, h0, h2, h3, h5, h8, h9, h10, h11, hnm, hga, ht, g2, hcnt, rfl⟩ := hrel
  have hnb := ht.nb
  have hG' : p.gp < mm.nb := by rw [ht.nb]; exact hG
  have hT' : p.tp < mm.nb := by rw [ht.nb]; exact hT
  (repeat (first | refine aSeq fun X hX => ?_ | apply aBlk | apply aSkip | (first | apply aExit | apply aRet); try simp only [slx, ↓reduceIte, jA, reduceCtorEq] | (first | apply aReg | refine aDrE ?_); simp -implicitDefEqProofs only [↓slp, ↓reduceIte, reduceCtorEq, jA, jB, jD, jE, jF, Y6, h10, h11, pI] | apply hX; clear hX X | clear hX X; apply hX; clear hX X | intro hlen; unfold maxLen at hlen | apply And.intro; · first | assumption | and_intros <;> first | omega | assumption))
  refine aIf ?_; simp -implicitDefEqProofs only [↓slp, slb, ↓reduceIte, reduceCtorEq, jA, jB, jD, jE, jF]; refine ⟨fun hb => ?_, fun hb => ?_⟩
  ·have hlt : j < ns.length := by simpa using hb
   have hi : IntKind.i64.wrap ((j : Int) + 1) = ((j + 1 : Nat) : Int) := by rw [wrap64 (by omega)]; omega
   have hjb : j * cB d ≤ 2 * cB d := Nat.mul_le_mul_right _ (by omega)
   (repeat (first | refine aSeq fun X hX => ?_ | apply aBlk | apply aSkip | (first | apply aExit | apply aRet); try simp only [slx, ↓reduceIte, jA, reduceCtorEq] | (first | apply aReg | apply aIf); simp -implicitDefEqProofs only [↓slp, ↓reduceIte, reduceCtorEq, jA, jB, jD, jE, jF, Y6, h0, h2, h3, h5, h8, h9, h10, h11, hnb, hT', hG', hT, hG, pI] | apply hX; clear hX X | clear hX X; apply hX; clear hX X | intro hlen; unfold maxLen at hlen | apply And.intro; · first | assumption | and_intros <;> first | omega | assumption))
   have hmu : numOf (f 11) = j := by rw [h11]; rfl
   have fin : ∀ (f : F) (l : List Va) (i4 : Nat), isLess outs l → (j = 0 → l = outs) → f 0 = .bp p.gp 0 → f 2 = .sl .no (outs.map Va.pv) → f 3 = pI ((d + 1 : Nat) : Int) → f 5 = .ep [.sl .no (s.ready.map Va.pv), .sl .no (s.all.map Va.pv), .sl .no (s.lasts.map Va.pv)] → f 8 = .bp m.nb 0 → f 9 = .bp (m.nb + 1) 0 → f 10 = .sl .full (ns.map pS) → f 11 = pI j → f 12 = .sl .no (l.map Va.pv) → X f (gst p (mm.ext [some [PV.v (Value.int IntKind.u8 0), PV.sl Own.full [], PV.v (Value.string { data := #[] }), PV.sl Own.full [], PV.v (Value.bool false), PV.v (Value.int IntKind.u8 0), PV.v (Value.int IntKind.u8 0), PV.v (Value.int IntKind.i32 0), PV.v (Value.string { data := #[] }), PV.sl Own.full [], PV.sl Own.full [], PV.v (Value.int IntKind.i64 0), PV.v (Value.int IntKind.i64 0), PV.sl Own.full [], PV.v (Value.int IntKind.i64 0), PV.v (Value.int IntKind.i64 0)], some [PV.v (Value.int IntKind.u8 3), PV.sl Own.full [], PV.v (Value.string { data := #[] }), PV.sl Own.full [], PV.v (Value.bool false), PV.v (Value.int IntKind.u8 e.kind), PV.v (Value.int IntKind.u8 e.op), PV.v (Value.int IntKind.i32 e.n), PV.v (Value.string e.name), PV.sl Own.no (e.names.map pS), PV.sl Own.no (e.kids.map Ex.pv), PV.v (Value.int IntKind.i64 e.line), PV.v (Value.int IntKind.i64 e.col), PV.sl o2 (ar.map Am.pv), PV.v (Value.int IntKind.i64 0), PV.v (Value.int IntKind.i64 0)]]) i4 n3 q3) := by
    intro f l i4 hl hl0 h0 h2 h3 h5 h8 h9 h10 h11 h12
    apply hX; clear hX X
    have hll := isLess_len hl
    have harl : ar.length = j := by
     have := congrArg List.length hnm
     simp only [List.length_map, List.length_take] at this
     omega
    have g0 := getD_map pS ns j hlt
    have hmx : ar.length + 1 ≤ maxLen := by unfold maxLen; omega
    have hf := g2.free
    have hvl := am_len ar
    have ht1 := ht.use (s := 7) g2
    have g2' := Mine.new ht o2 7
    have hc1 := hcnt.n
    have hc2 := hcnt.q0
    have hc3 := hcnt.q1
    refine aDrwE (isGX1 p m [PV.v (Value.int IntKind.u8 3), PV.sl Own.full [], PV.v (Value.string { data := #[] }), PV.sl Own.full [], PV.v (Value.bool false), PV.v (Value.int IntKind.u8 e.kind), PV.v (Value.int IntKind.u8 e.op), PV.v (Value.int IntKind.i32 e.n), PV.v (Value.string e.name), PV.sl Own.no (e.names.map pS), PV.sl Own.no (e.kids.map Ex.pv), PV.v (Value.int IntKind.i64 e.line), PV.v (Value.int IntKind.i64 e.col), PV.sl o2 (ar.map Am.pv), PV.v (Value.int IntKind.i64 0), PV.v (Value.int IntKind.i64 0)]) (hne := List.cons_ne_nil _ _) rfl (by kernel_rfl) (by kernel_rfl) (isGX1_of ht.boxes) ?_
    simp -implicitDefEqProofs only [↓slp, ↓reduceIte, reduceCtorEq, jA, jB, jD, jE, jF, Y6, h0, h2, h3, h5, h8, h9, h10, h11, h12, hw, hnb, hT, hG, pI, g0, isGX1_all, gst_gx1, forall_const, List.dropLast_cons_cons, List.dropLast_singleton, List.getLast_cons_cons, List.getLast_singleton]
    refine ⟨hlt, ?_⟩
    refine callMS (B p _ ((hok.toks ht).ext _) s.arm k hs.arm l (by omega) (isLess_ty hl hty) i4 n3 q3 (by omega) (by omega) (by omega) (by omega)) rfl ?_
    rintro v m' ⟨b, i5, n5, q5, rfl, hb2, hcnt2, rfl⟩
    refine ⟨isGX1_of ht.boxes, ?_⟩
    simp -implicitDefEqProofs only [↓slp, ↓reduceIte, reduceCtorEq, jA, jB, jD, jE, jF, Y6, h0, h2, h3, h5, h8, h9, h10, h11, h12, hw, hnb, hT, hG, hT', hG', pI, g0, isGX1_all, gst_gx1, forall_const, List.dropLast_cons_cons, List.dropLast_singleton, List.getLast_cons_cons, List.getLast_singleton, Bk.pv]
    (repeat (first | (intro hlen; unfold maxLen at hlen) | (apply And.intro; (focus (first | omega | assumption | trivial | (repeat' apply And.intro) <;> first | omega | assumption | trivial)))))
    refine ⟨isGX1_of ht1.boxes, ?_⟩
    (repeat (first | refine aSeq fun X hX => ?_ | apply aBlk | apply aSkip | (first | apply aExit | apply aRet); try simp only [slx, ↓reduceIte, jA, reduceCtorEq] | (first | apply aReg | apply aIf); simp -implicitDefEqProofs only [↓slp, ↓reduceIte, reduceCtorEq, jA, jB, jD, jE, jF, Y6, h0, h2, h3, h5, h8, h9, h10, h11, hi, hnb, hT, hG, hT', hG', pI] | apply hX; clear hX X | clear hX X; apply hX; clear hX X | intro hlen; unfold maxLen at hlen | apply And.intro; · first | assumption | and_intros <;> first | omega | assumption))
    rw [hI]
    have hadd : (ar ++ [Am.mk ns[j] b.vars b.eqs [] [] 0 0]).map Am.pv = ar.map Am.pv ++ [PV.ag [PV.v (Value.string ns[j]), PV.sl Own.no (List.map Va.pv b.vars), PV.sl Own.no (List.map Qu.pv b.eqs), PV.sl Own.no [], PV.sl Own.no [], PV.v (Value.int IntKind.i64 0), PV.v (Value.int IntKind.i64 0)]] := by
     rw [List.map_append, List.map_singleton, Am.pv_eq]; rfl
    refine ⟨⟨j + 1, ar ++ [Am.mk ns[j] b.vars b.eqs [] [] 0 0], .tok mm.nt, _, i5, n5, q5, hlt, h0, h2, h3, h5, h8, h9, h10, rfl, ?_, ?_, ht1, g2', ?_, ?_⟩, by omega⟩
    ·rw [List.map_append, hnm, List.take_succ_eq_append_getElem hlt]; rfl
    ·exact Chn_snoc hga ⟨_, l, b, hl, fun e => hl0 (by omega), hb2, rfl⟩
    ·have := hcnt.trans hcnt2
     rwa [show j * cB d + cB d = (j + 1) * cB d by rw [Nat.succ_mul]] at this
    ·rw [hadd]
   refine ⟨fun cj => ?_, fun cj => ?_⟩
   ·(repeat (first | refine aSeq fun X hX => ?_ | apply aBlk | apply aSkip | (first | apply aExit | apply aRet); try simp only [slx, ↓reduceIte, jA, reduceCtorEq] | (first | apply aReg | apply aIf); simp -implicitDefEqProofs only [↓slp, ↓reduceIte, reduceCtorEq, jA, jB, jD, jE, jF, Y6, h0, h2, h3, h5, h8, h9, h10, h11, hnb, hT', hG', hT, hG, pI] | apply hX; clear hX X | clear hX X; apply hX; clear hX X | intro hlen; unfold maxLen at hlen | apply And.intro; · first | assumption | and_intros <;> first | omega | assumption))
    refine callM (less_any p _ ((hok.toks ht).ext _) .no outs (by omega) _ n3 q3) ?_
    rintro v m' ⟨l, i4, rfl, hl, rfl⟩
    simp -implicitDefEqProofs only [↓slp, ↓reduceIte, reduceCtorEq, jA, jB, jD, jE, jF, Y6, h0, h2, h3, h5, h8, h9, h10, h11, hnb, hT', hG', hT, hG, pI]
    exact fin _ l i4 hl (fun e => by subst e; simp at cj) h0 h2 h3 h5 h8 h9 h10 h11 rfl
   ·(repeat (first | refine aSeq fun X hX => ?_ | apply aBlk | apply aSkip | (first | apply aExit | apply aRet); try simp only [slx, ↓reduceIte, jA, reduceCtorEq] | (apply hX; clear hX X) | (clear hX X; apply hX; clear hX X)))
    exact fin _ outs i3 (isLess_refl _) (fun _ => rfl) h0 h2 h3 h5 h8 h9 h10 h11 rfl
  ·have hlt : j = ns.length := by simp at hb; omega
   subst hlt
   (repeat (first | refine aSeq fun X hX => ?_ | apply aBlk | apply aSkip | (first | apply aExit | apply aRet); try simp only [slx, ↓reduceIte, jA, reduceCtorEq] | (first | apply aReg | refine aDrE ?_ | apply aIf); simp -implicitDefEqProofs only [↓slp, ↓reduceIte, reduceCtorEq, jA, jB, jD, jE, jF, Y6, h0, h2, h3, h5, h8, h9, h10, h11, hnb, hT', hG', hT, hG, pI] | apply hX; clear hX X | clear hX X; apply hX; clear hX X | intro hlen; unfold maxLen at hlen | apply And.intro; · first | assumption | and_intros <;> first | omega | assumption))
   simp only [aPost, Tryd.results93, aRes_n, aRes_t, aRes_c, pack_one, pack_two]
   simp -implicitDefEqProofs only [↓slp, ↓reduceIte, reduceCtorEq, jA, jB, jD, jE, jF, Y6, h0, h2, h3, h5, h8, h9, h10, h11, hnb, hT', hG', hT, hG, pI]
   refine leave_gst hok ht (by simp only [PV.settle, PV.settles, PV.pure, PV.pures]; rfl) ⟨.mk 3 [] sE [] false e ar 0 0, i3, n3, q3, ?_, ⟨t, ns, e, ar, hns, he, by rw [hnm, List.take_length], hga, rfl⟩, Cnt.le hcnt (Nat.mul_le_mul_right _ hn3), rfl⟩
   rw [Qu.pv_eq]; rfl
 cases c0 : (r == 0) with
 | true =>
  (repeat (first | refine aSeq fun X hX => ?_ | apply aBlk | apply aSkip | (first | apply aExit | apply aRet); try simp only [slx, ↓reduceIte, jA, reduceCtorEq] | (first | apply aReg | apply aIf); simp -implicitDefEqProofs only [↓slp, ↓reduceIte, reduceCtorEq, jA, jB, jD, jE, jF, Y6, hT, hG, c0] | apply hX; clear hX X | clear hX X; apply hX; clear hX X | intro hlen; unfold maxLen at hlen | apply And.intro; · first | assumption | and_intros <;> first | omega | assumption))
  refine aDrw (fun _ => True) (by kernel_rfl) trivial ?_
  simp -implicitDefEqProofs only [↓slp, ↓reduceIte, reduceCtorEq, jA, jB, jD, jE, jF, Y6, hT, hG]
  refine callE (tyC_any _) ?_
  refine ⟨trivial, ?_⟩
  simp -implicitDefEqProofs only [↓slp, ↓reduceIte, reduceCtorEq, jA, jB, jD, jE, jF, Y6, hT, hG]
  refine callM (expr_any 2 (by omega) p _ (hok.ext _) s (hs.ok (by omega)) tyC (.inr (.inr rfl)) true _ n q) ?_
  rintro v m' ⟨e, i3, rfl, he, rfl⟩
  refine ⟨trivial, ?_⟩
  simp -implicitDefEqProofs only [↓slp, ↓reduceIte, reduceCtorEq, jA, jB, jD, jE, jF, Y6, hT, hG]
  exact join _ tyC [sBlue, sRed, sGreen] e _ (.inl ⟨rfl, rfl⟩) he rfl rfl rfl rfl rfl rfl rfl
 | false =>
  (repeat (first | refine aSeq fun X hX => ?_ | apply aBlk | apply aSkip | (first | apply aExit | apply aRet); try simp only [slx, ↓reduceIte, jA, reduceCtorEq] | (first | apply aReg | apply aIf); simp -implicitDefEqProofs only [↓slp, ↓reduceIte, reduceCtorEq, jA, jB, jD, jE, jF, Y6, hT, hG, c0] | apply hX; clear hX X | clear hX X; apply hX; clear hX X | intro hlen; unfold maxLen at hlen | apply And.intro; · first | assumption | and_intros <;> first | omega | assumption))
  refine aDrw (fun _ => True) (by kernel_rfl) trivial ?_
  simp -implicitDefEqProofs only [↓slp, ↓reduceIte, reduceCtorEq, jA, jB, jD, jE, jF, Y6, hT, hG]
  refine callE (tyB_any _) ?_
  refine ⟨trivial, ?_⟩
  simp -implicitDefEqProofs only [↓slp, ↓reduceIte, reduceCtorEq, jA, jB, jD, jE, jF, Y6, hT, hG]
  refine callM (expr_any 2 (by omega) p _ (hok.ext _) s (hs.ok (by omega)) tyB (.inr (.inl rfl)) true _ n q) ?_
  rintro v m' ⟨e, i3, rfl, he, rfl⟩
  refine ⟨trivial, ?_⟩
  simp -implicitDefEqProofs only [↓slp, ↓reduceIte, reduceCtorEq, jA, jB, jD, jE, jF, Y6, hT, hG]
  exact join _ tyB [sTrue, sFalse] e _ (.inr ⟨rfl, rfl⟩) he rfl rfl rfl rfl rfl rfl rfl
end Go.Proofs.YteiaedmipkcfeaaDoor
