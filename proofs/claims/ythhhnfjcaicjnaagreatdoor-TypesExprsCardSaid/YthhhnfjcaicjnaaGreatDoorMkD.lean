/-
 Texts that belong together: AbMk9, AbMk10, AbMk11.
-/
-- halved
import Derived.Test.YthhhnfjcaicjnaaGreatDoorMkC
import Derived.Test.YthhhnfjcaicjnaaGreatDoorAbMac
set_option linter.unusedVariables false
set_option linter.unusedSimpArgs false
namespace Go.Proofs.YthhhnfjcaicjnaaGreatDoor
open Go

structure Sc.le (s : Sc) (k : Nat) : Prop where
 ready : s.ready.length ≤ k
 all : s.all.length ≤ k
 lasts : s.lasts.length ≤ k
theorem Sc.le.ok {s : Sc} {k : Nat} (h : s.le k) (hk : k ≤ 2 ^ 30) : s.ok := ⟨by have := h.ready; omega, by have := h.all; omega, by have := h.lasts; omega⟩
theorem Sc.le.mono {s : Sc} {k k' : Nat} (h : s.le k) (hk : k ≤ k') : s.le k' := ⟨Nat.le_trans h.ready hk, Nat.le_trans h.all hk, Nat.le_trans h.lasts hk⟩
def Sc.arm (s : Sc) : Sc := ⟨s.ready, [], s.lasts⟩
theorem Sc.le.arm {s : Sc} {k : Nat} (h : s.le k) : s.arm.le k := ⟨h.ready, by simp [Sc.arm], h.lasts⟩
theorem Sc.le.more {s : Sc} {k : Nat} (h : s.le k) (l : List Va) : (s.more l).le (k + l.length) := by
 refine ⟨?_, ?_, ?_⟩
 ·have := h.ready; simp only [Sc.more, List.length_append]; omega
 ·have := h.all; simp only [Sc.more]; omega
 ·have := h.lasts; simp only [Sc.more]; omega
def zE : Ex := .mk 0 0 0 sE [] [] 0 0

def cB : Nat → Nat
 | 0 => 10 + 6 * 84
 | d + 1 => 10 + 6 * (84 + 3 * cB d)
def cP : Nat → Nat
 | 0 => 0
 | d + 1 => cB d
def cE (d : Nat) (q : Int) : Nat := 4 * q.toNat + 3 * cP d + 4
structure Cnt (c : Nat) (n : Nat) (q : Int) (n' : Nat) (q' : Int) : Prop where
 n : n' ≤ n + c
 q0 : q - c ≤ q'
 q1 : q' ≤ q

abbrev RBT := Nat → Nat → Sc → List Va → Bk → Prop
abbrev RET := Nat → Nat → Sc → List Va → List Qu → List Va → Prop
def BlockC (d : Nat) (RB : Int → RBT) : Prop := ∀ (p : GP) (m : M) (hok : p.ok m) (s : Sc) (k : Nat) (hs : s.le k) (outs : List Va) (ho : outs.length ≤ 3) (hty : ∀ v ∈ outs, isTy v.t) (i n : Nat) (q : Int) (hk : k + cB d ≤ 2 ^ 30) (hn : n + cB d ≤ 2 ^ 50) (hq : q ≤ 20) (hq2 : -(2 : Int) ^ 50 ≤ q - cB d), ACalls Tryz.prog 42 [.bp p.gp 0, s.pv, .sl .no (outs.map Va.pv), pI d] (gst p m i n q) (fun v m' => ∃ (b : Bk) (i' n' : Nat) (q' : Int), v = b.pv ∧ RB p.subs n n' s outs b ∧ Cnt (cB d) n q n' q' ∧ m' = gst p m i' n' q')
def Chn (R : Nat → Nat → Nat → Am → Prop) : Nat → Nat → Nat → List Am → Prop
 | _, n, n', [] => n' = n
 | j, n, n', a :: l => ∃ n1, R j n n1 a ∧ Chn R (j + 1) n1 n' l
theorem Chn_snoc {R : Nat → Nat → Nat → Am → Prop} {a : Am} {n1 n2 : Nat} : ∀ {l : List Am} {j n : Nat}, Chn R j n n1 l → R (j + l.length) n1 n2 a → Chn R j n n2 (l ++ [a])
 | [], j, n, h, ha => by cases h; exact ⟨n2, ha, rfl⟩
 | b :: l, j, n, ⟨n3, h1, h2⟩, ha => ⟨n3, h1, Chn_snoc h2 (by rwa [show j + 1 + l.length = j + (b :: l).length by simp; omega])⟩
def GArm (RB : RBT) (s : Sc) (outs : List Va) (j n n' : Nat) (a : Am) : Prop := ∃ nm l b, isLess outs l ∧ (j = 0 → l = outs) ∧ RB n n' s.arm l b ∧ a = .mk nm b.vars b.eqs [] [] 0 0
def sTrue : Str := ⟨#[116, 114, 117, 101]⟩
def sFalse : Str := ⟨#[102, 97, 108, 115, 101]⟩
def GChoice (RB : RBT) (n n' : Nat) (s : Sc) (outs : List Va) (x : Qu) : Prop := ∃ (t : Ty) (ns : List Str) (e : Ex) (ar : List Am), ((t = tyC ∧ ns = [sBlue, sRed, sGreen]) ∨ (t = tyB ∧ ns = [sTrue, sFalse])) ∧ GEx 2 s t true e ∧ ar.map Am.name = ns ∧ Chn (GArm RB s outs) 0 n n' ar ∧ x = .mk 3 [] sE [] false e ar 0 0
theorem isLess_refl : ∀ l : List Va, isLess l l
 | [] => rfl
 | v :: l => .inl ⟨l, rfl, isLess_refl l⟩
theorem isLess_ty : ∀ {a l : List Va}, isLess a l → (∀ v ∈ a, isTy v.t) → ∀ v ∈ l, isTy v.t
 | [], l, h, _ => by cases h; intro v hv; cases hv
 | w :: r, l, h, ht => by
  rcases h with ⟨l', rfl, h⟩ | ⟨_, h⟩
  ·intro v hv
   rcases List.mem_cons.1 hv with rfl | hv
   ·exact ht _ (by simp)
   ·exact isLess_ty h (fun v hv => ht v (by simp [hv])) v hv
  ·exact isLess_ty h (fun v hv => ht v (by simp [hv]))
theorem am_len (l : List Am) : ∀ x ∈ l.map Am.pv, x.cells.length = 7 := fun x hx => by
 obtain ⟨a, _, rfl⟩ := List.mem_map.1 hx
 rw [Am.cells_pv]; rfl
theorem qu_len (l : List Qu) : ∀ x ∈ l.map Qu.pv, x.cells.length = 16 := fun x hx => by
 obtain ⟨a, _, rfl⟩ := List.mem_map.1 hx
 rw [Qu.cells_pv]; rfl
theorem Bk.settle_pv (b : Bk) : b.pv.settle = b.pv := rfl
theorem Bk.pure_pv (b : Bk) : b.pv.pure = true := rfl
theorem Cnt.refl (c n : Nat) (q : Int) : Cnt c n q n q := ⟨by omega, by omega, by omega⟩
theorem Cnt.trans {c c' n n1 n2 : Nat} {q q1 q2 : Int} (h : Cnt c n q n1 q1) (h' : Cnt c' n1 q1 n2 q2) : Cnt (c + c') n q n2 q2 := by
 have := h.n; have := h.q0; have := h.q1; have := h'.n; have := h'.q0; have := h'.q1
 exact ⟨by omega, by omega, by omega⟩
theorem Cnt.le {c c' n n1 : Nat} {q q1 : Int} (h : Cnt c n q n1 q1) (hc : c ≤ c') : Cnt c' n q n1 q1 := by
 have := h.n; have := h.q0; have := h.q1
 exact ⟨by omega, by omega, by omega⟩
def isGX1 (p : GP) (m : M) (c : List PV) (m2 : M) : Prop := ∃ ts x r i n q, m2 = gst p ((⟨m.boxes, ts⟩ : M).ext (x :: some c :: r)) i n q
theorem isGX1_all {p : GP} {m : M} {c : List PV} {Q : M → Prop} : (∀ m2, isGX1 p m c m2 → Q m2) = ∀ ts x r i n q, Q (gst p ((⟨m.boxes, ts⟩ : M).ext (x :: some c :: r)) i n q) :=
 propext ⟨fun h ts x r i n q => h _ ⟨ts, x, r, i, n, q, rfl⟩, fun h m2 ⟨ts, x, r, i, n, q, e⟩ => e ▸ h ts x r i n q⟩
theorem isGX1_of {p : GP} {m mm : M} {c : List PV} {x : Option (List PV)} {r : List (Option (List PV))} {i : Nat} {n q : Int} (h : mm.boxes = m.boxes) : isGX1 p m c (gst p (mm.ext (x :: some c :: r)) i n q) := by
 refine ⟨mm.toks, x, r, i, n, q, ?_⟩
 rw [← h]
theorem gst_gx1 {p : GP} {m : M} {c : List PV} {ts : List (Option Nat)} {x : Option (List PV)} {r : List (Option (List PV))} {i : Nat} {n q : Int} (hT : p.tp < m.nb) (hG : p.gp < m.nb) : (gst p ((⟨m.boxes, ts⟩ : M).ext (x :: some c :: r)) i n q).get (m.nb + 1) = some c := by
 have := gst_own (p := p) (m := (⟨m.boxes, ts⟩ : M)) (bs := x :: some c :: r) (k := m.nb) (j := 1) (i := i) (n := n) (q := q) rfl hT hG
 rw [this]; rfl

open Nat renaming reduceEqDiff → jA, reduceAdd → jB, reduceMul → jC, reduceLT → jD, reduceLeDiff → jE, reduceBEq → jF, reduceBNe → jG
open Int renaming reduceLE → jH, reduceLT → jI, reduceToNat → jJ, reduceEq → jK
set_option linter.defProp false
def tfAbMk10 := And.intro @td_3 (And.intro @zv_3 (And.intro @Tryz.underlying3 (And.intro @td_4 (And.intro @zv_4 (And.intro @Tryz.underlying4 (And.intro @td_5 (And.intro @zv_5 (And.intro @Tryz.underlying5 (And.intro @td_9 (And.intro @zv_9 (And.intro @Tryz.underlying9 (And.intro @td_21 (And.intro @zv_21 (And.intro @Tryz.underlying21 (And.intro @td_22 (And.intro @zv_22 (And.intro @tel_22 (And.intro @Tryz.underlying22 (And.intro @td_44 (And.intro @zv_44 (And.intro @tel_44 (And.intro @Tryz.underlying44 (And.intro @td_35 (And.intro @zv_35 (And.intro @tel_35 (And.intro @Tryz.underlying35 (And.intro @td_36 (And.intro @zv_36 (And.intro @tel_36 (And.intro @Tryz.underlying36 (And.intro @td_38 (And.intro @zv_38 (And.intro @tf_38 (And.intro @td_43 (And.intro @zv_43 (And.intro @tel_43 (And.intro @Tryz.underlying43 (And.intro @td_46 (And.intro @zv_46 (And.intro @tf_46 (And.intro @td_51 (And.intro @zv_51 (And.intro @tf_51 (And.intro @fl_51 (And.intro @td_104 (And.intro @zv_104 (And.intro @tel_104 (And.intro @Tryz.underlying104 (And.intro @td_106 (And.intro @zv_106 (And.intro @tf_106 (And.intro @td_47 (And.intro @zv_47 (And.intro @tel_47 (And.intro @Tryz.underlying47 (And.intro @td_49 (And.intro @zv_49 (And.intro @tf_49 (And.intro @nk_71 (And.intro @td_71 (And.intro @zv_71 (And.intro @Tryz.underlying71 (And.intro @td_73 (And.intro @zv_73 (And.intro @tf_73 (And.intro @nk_75 (And.intro @td_75 (And.intro @zv_75 (And.intro @Tryz.underlying75 (And.intro @td_77 (And.intro @zv_77 (And.intro @tf_77 (And.intro @td_108 (And.intro @zv_108 (And.intro @tel_108 (And.intro @Tryz.underlying108 (And.intro @td_110 (And.intro @zv_110 (And.intro @tf_110 (And.intro @td_160 (And.intro @zv_160 (And.intro @tf_160 (And.intro @td_118 (And.intro @zv_118 (And.intro @tf_118 (And.intro @td_161 (And.intro @zv_161 (And.intro @tel_161 (And.intro @Tryz.underlying161 (And.intro @Ex.settle_pv (And.intro @Ex.pure_pv (And.intro @Ex.cells_pv (And.intro @Ex.cs.eq_1 (And.intro @On.pv.eq_1 (And.intro @Ty.pv.eq_1 (And.intro @Va.settle_pv (And.intro @Va.pure_pv (And.intro @Va.cells_pv (And.intro @Va.cs.eq_1 (And.intro @Sc.pv.eq_1 (And.intro @gst_nb (And.intro @gst_nt (And.intro @gst_fresh (And.intro @gst_use (And.intro @gst_free (And.intro @gst_alive (And.intro @gst_t (And.intro @gst_g (And.intro @gst_updt (And.intro @gst_updg (And.intro @gst_ext (And.intro @gst_ext2 (And.intro @gst_et (And.intro @gst_eg (And.intro @gst_own (And.intro @gst_own0 (And.intro @gst_ou (And.intro @gst_ou0 (And.intro @GP.tape.eq_1 @GP.gen.eq_1)))))))))))))))))))))))))))))))))))))))))))))))))))))))))))))))))))))))))))))))))))))))))))))))))))))))))))))))))))))))

set_option maxRecDepth 20000 in
set_option maxHeartbeats 4000000 in
theorem choice_any (d : Nat) (hd : d + 1 < 1000) (RB : Int → RBT) (B : BlockC d RB) (p : GP) (m : M) (hok : p.ok m) (s : Sc) (k : Nat) (hs : s.le k) (outs : List Va) (ho : outs.length ≤ 3) (hty : ∀ v ∈ outs, isTy v.t) (i n : Nat) (q : Int) (hk : k + 3 * cB d ≤ 2 ^ 30) (hn : n + 3 * cB d ≤ 2 ^ 50) (hq : q ≤ 20) (hq2 : -(2 : Int) ^ 50 ≤ q - 3 * cB d) : ACalls Tryz.prog 96 [.bp p.gp 0, s.pv, .sl .no (outs.map Va.pv), pI ((d + 1 : Nat) : Int)] (gst p m i n q) (fun v m' => ∃ (x : Qu) (i' n' : Nat) (q' : Int), v = x.pv ∧ GChoice (RB p.subs) n n' s outs x ∧ Cnt (3 * cB d) n q n' q' ∧ m' = gst p m i' n' q') := by
 have hG := hok.gp
 have hT := hok.tp
 have hw : IntKind.i64.wrap (((d + 1 : Nat) : Int) - 1) = (d : Int) := by rw [wrap64 (by omega)]; omega
 refine eN [8, 9] Tryz.func96 ?_
 (repeat revert X); refine wE (And.intro tfAbMk10 (And.intro hT hG)) ?_; repeat intro X hX
 refine callM (next_any p _ (hok.ext _) 2 (by omega) i n q) ?_
 rintro v m' ⟨r, i', rfl, ⟨hr0, hr1⟩, rfl⟩
 refine wS aEQ_t ?_
 apply hX; clear hX X
 have join : ∀ (f : F) (t : Ty) (ns : List Str) (e : Ex) (i2 : Nat), ((t = tyC ∧ ns = [sBlue, sRed, sGreen]) ∨ (t = tyB ∧ ns = [sTrue, sFalse])) → GEx 2 s t true e → f 0 = .bp p.gp 0 → f 2 = .sl .no (outs.map Va.pv) → f 3 = pI ((d + 1 : Nat) : Int) → f 5 = .ep [.sl .no (s.ready.map Va.pv), .sl .no (s.all.map Va.pv), .sl .no (s.lasts.map Va.pv)] → f 8 = .bp m.nb 0 → f 9 = .bp (m.nb + 1) 0 → f 10 = .sl .full (ns.map pS) →
     X f (gst p (m.ext [some [PV.v (Value.int IntKind.u8 0), PV.sl Own.full [], PV.v (Value.string { data := #[] }), PV.sl Own.full [], PV.v (Value.bool false), PV.v (Value.int IntKind.u8 0), PV.v (Value.int IntKind.u8 0), PV.v (Value.int IntKind.i32 0), PV.v (Value.string { data := #[] }), PV.sl Own.full [], PV.sl Own.full [], PV.v (Value.int IntKind.i64 0), PV.v (Value.int IntKind.i64 0), PV.sl Own.full [], PV.v (Value.int IntKind.i64 0), PV.v (Value.int IntKind.i64 0)], some [PV.v (Value.int IntKind.u8 3), PV.sl Own.full [], PV.v (Value.string { data := #[] }), PV.sl Own.full [], PV.v (Value.bool false), PV.v (Value.int IntKind.u8 e.kind), PV.v (Value.int IntKind.u8 e.op), PV.v (Value.int IntKind.i32 e.n), PV.v (Value.string e.name), PV.sl Own.no (e.names.map pS), PV.sl Own.no (e.kids.map Ex.pv), PV.v (Value.int IntKind.i64 e.line), PV.v (Value.int IntKind.i64 e.col), PV.sl Own.full [], PV.v (Value.int IntKind.i64 0), PV.v (Value.int IntKind.i64 0)]]) i2 n q) := by
  intro f t ns e i2 hns he h0 h2 h3 h5 h8 h9 h10
  apply hX; clear hX X
  have hn3 : ns.length ≤ 3 := by rcases hns with ⟨_, rfl⟩ | ⟨_, rfl⟩ <;> decide
  (repeat revert X); refine wE aEQ_t ?_; repeat intro X hX
  obtain ⟨I, hI⟩ : ∃ I : F → M → Prop, ∀ f m', I f m' = (∃ (j : Nat) (ar : List Am) (o2 : Own) (mm : M) (i' n' : Nat) (q' : Int), j ≤ ns.length ∧ f 0 = .bp p.gp 0 ∧ f 2 = .sl .no (outs.map Va.pv) ∧ f 3 = pI ((d + 1 : Nat) : Int) ∧ f 5 = .ep [.sl .no (s.ready.map Va.pv), .sl .no (s.all.map Va.pv), .sl .no (s.lasts.map Va.pv)] ∧ f 8 = .bp m.nb 0 ∧ f 9 = .bp (m.nb + 1) 0 ∧ f 10 = .sl .full (ns.map pS) ∧ f 11 = pI j ∧ ar.map Am.name = ns.take j ∧ Chn (GArm (RB p.subs) s outs) 0 n n' ar ∧ Toks m mm ∧ Mine m mm o2 7 ∧ Cnt (j * cB d) n q n' q' ∧ m' = gst p (mm.ext [some [PV.v (Value.int IntKind.u8 0), PV.sl Own.full [], PV.v (Value.string { data := #[] }), PV.sl Own.full [], PV.v (Value.bool false), PV.v (Value.int IntKind.u8 0), PV.v (Value.int IntKind.u8 0), PV.v (Value.int IntKind.i32 0), PV.v (Value.string { data := #[] }), PV.sl Own.full [], PV.sl Own.full [], PV.v (Value.int IntKind.i64 0), PV.v (Value.int IntKind.i64 0), PV.sl Own.full [], PV.v (Value.int IntKind.i64 0), PV.v (Value.int IntKind.i64 0)], some [PV.v (Value.int IntKind.u8 3), PV.sl Own.full [], PV.v (Value.string { data := #[] }), PV.sl Own.full [], PV.v (Value.bool false), PV.v (Value.int IntKind.u8 e.kind), PV.v (Value.int IntKind.u8 e.op), PV.v (Value.int IntKind.i32 e.n), PV.v (Value.string e.name), PV.sl Own.no (e.names.map pS), PV.sl Own.no (e.kids.map Ex.pv), PV.v (Value.int IntKind.i64 e.line), PV.v (Value.int IntKind.i64 e.col), PV.sl o2 (ar.map Am.pv), PV.v (Value.int IntKind.i64 0), PV.v (Value.int IntKind.i64 0)]]) i' n' q') := ⟨_, fun _ _ => rfl⟩
  refine aLoop I (fun f m => ns.length - numOf (f 11)) ?_ ?_
  ·rw [hI]; exact ⟨0, [], .full, m, i2, n, q, by omega, h0, h2, h3, h5, h8, h9, h10, rfl, rfl, rfl, .refl _, .full, Cnt.le (Cnt.refl 0 n q) (by omega), rfl⟩
  intro f m' hrel
  rw [hI] at hrel
  clear h0 h2 h3 h5 h8 h9 h10
  obtain ⟨j, ar, o2, mm, i3, n3, q3, hj, h0, h2, h3, h5, h8, h9, h10, h11, hnm, hga, ht, g2, hcnt, rfl⟩ := hrel
  have hnb := ht.nb
  have hG' : p.gp < mm.nb := by rw [ht.nb]; exact hG
  have hT' : p.tp < mm.nb := by rw [ht.nb]; exact hT
  (repeat revert X); refine wW (And.intro tfAbMk10 (And.intro h10 (And.intro h11 @pI.eq_1))) ?_; repeat intro X hX
  refine aIf ?_; simp -implicitDefEqProofs only [slb, ↓reduceIte]; refine ⟨fun hb => ?_, fun hb => ?_⟩
  ·have hlt : j < ns.length := by simpa using hb
   have hi : IntKind.i64.wrap ((j : Int) + 1) = ((j + 1 : Nat) : Int) := by rw [wrap64 (by omega)]; omega
   have hjb : j * cB d ≤ 2 * cB d := Nat.mul_le_mul_right _ (by omega)
   (repeat revert X); refine wE (And.intro h2 (And.intro h11 @pI.eq_1)) ?_; repeat intro X hX
   have hmu : numOf (f 11) = j := by rw [h11]; rfl
   have fin : ∀ (f : F) (l : List Va) (i4 : Nat), isLess outs l → (j = 0 → l = outs) → f 0 = .bp p.gp 0 → f 2 = .sl .no (outs.map Va.pv) → f 3 = pI ((d + 1 : Nat) : Int) → f 5 = .ep [.sl .no (s.ready.map Va.pv), .sl .no (s.all.map Va.pv), .sl .no (s.lasts.map Va.pv)] → f 8 = .bp m.nb 0 → f 9 = .bp (m.nb + 1) 0 → f 10 = .sl .full (ns.map pS) → f 11 = pI j → f 12 = .sl .no (l.map Va.pv) → X f (gst p (mm.ext [some [PV.v (Value.int IntKind.u8 0), PV.sl Own.full [], PV.v (Value.string { data := #[] }), PV.sl Own.full [], PV.v (Value.bool false), PV.v (Value.int IntKind.u8 0), PV.v (Value.int IntKind.u8 0), PV.v (Value.int IntKind.i32 0), PV.v (Value.string { data := #[] }), PV.sl Own.full [], PV.sl Own.full [], PV.v (Value.int IntKind.i64 0), PV.v (Value.int IntKind.i64 0), PV.sl Own.full [], PV.v (Value.int IntKind.i64 0), PV.v (Value.int IntKind.i64 0)], some [PV.v (Value.int IntKind.u8 3), PV.sl Own.full [], PV.v (Value.string { data := #[] }), PV.sl Own.full [], PV.v (Value.bool false), PV.v (Value.int IntKind.u8 e.kind), PV.v (Value.int IntKind.u8 e.op), PV.v (Value.int IntKind.i32 e.n), PV.v (Value.string e.name), PV.sl Own.no (e.names.map pS), PV.sl Own.no (e.kids.map Ex.pv), PV.v (Value.int IntKind.i64 e.line), PV.v (Value.int IntKind.i64 e.col), PV.sl o2 (ar.map Am.pv), PV.v (Value.int IntKind.i64 0), PV.v (Value.int IntKind.i64 0)]]) i4 n3 q3) := by
    intro f l i4 hl hl0 h0 h2 h3 h5 h8 h9 h10 h11 h12
    apply hX; clear hX X
    have hll := isLess_len hl
    have harl : ar.length = j := by
     have := congrArg List.length hnm
     simp only [List.length_map, List.length_take] at this
     omega
    have g0 := getD_map pS ns j hlt
    have hmx : ar.length + 1 ≤ maxLen := by unfold maxLen; omega
    have hf := g2.free
    have hvl := am_len ar
    have ht1 := ht.use (s := 7) g2
    have g2' := Mine.new ht o2 7
    have hc1 := hcnt.n
    have hc2 := hcnt.q0
    have hc3 := hcnt.q1
    refine aDrwE (isGX1 p m [PV.v (Value.int IntKind.u8 3), PV.sl Own.full [], PV.v (Value.string { data := #[] }), PV.sl Own.full [], PV.v (Value.bool false), PV.v (Value.int IntKind.u8 e.kind), PV.v (Value.int IntKind.u8 e.op), PV.v (Value.int IntKind.i32 e.n), PV.v (Value.string e.name), PV.sl Own.no (e.names.map pS), PV.sl Own.no (e.kids.map Ex.pv), PV.v (Value.int IntKind.i64 e.line), PV.v (Value.int IntKind.i64 e.col), PV.sl o2 (ar.map Am.pv), PV.v (Value.int IntKind.i64 0), PV.v (Value.int IntKind.i64 0)]) (hne := List.cons_ne_nil _ _) rfl (by kernel_rfl) (by kernel_rfl) (isGX1_of ht.boxes) ?_
    simp -implicitDefEqProofs only [↓slp, slb, ↓reduceIte, reduceCtorEq, jA, jB, jD, jE, jF, tfAbMk10, h0, h3, h5, h9, h10, h11, h12, hw, hnb, hT, hG, pI, g0, isGX1_all, gst_gx1, List.dropLast_cons_cons, List.dropLast_singleton, List.getLast_cons_cons, List.getLast_singleton]
    refine ⟨hlt, ?_⟩
    refine callMS (B p _ ((hok.toks ht).ext _) s.arm k hs.arm l (by omega) (isLess_ty hl hty) i4 n3 q3 (by omega) (by omega) (by omega) (by omega)) rfl ?_
    rintro v m' ⟨b, i5, n5, q5, rfl, hb2, hcnt2, rfl⟩
    refine ⟨isGX1_of ht.boxes, ?_⟩
    refine wS (And.intro tfAbMk10 (And.intro h9 (And.intro hnb (And.intro hT (And.intro hG @Bk.pv.eq_1))))) ?_
    (repeat ((apply And.intro; (focus (first | omega | (repeat' apply And.intro) <;> first | omega | assumption | trivial)))))
    refine ⟨isGX1_of ht1.boxes, ?_⟩
    (repeat (first | refine aReg ?_; simp -implicitDefEqProofs only [↓slp, slb, ↓reduceIte, jA, jF, h11, hi, pI] | apply hX; clear hX X))
    rw [hI]
    have hadd : (ar ++ [Am.mk ns[j] b.vars b.eqs [] [] 0 0]).map Am.pv = ar.map Am.pv ++ [PV.ag [PV.v (Value.string ns[j]), PV.sl Own.no (List.map Va.pv b.vars), PV.sl Own.no (List.map Qu.pv b.eqs), PV.sl Own.no [], PV.sl Own.no [], PV.v (Value.int IntKind.i64 0), PV.v (Value.int IntKind.i64 0)]] := by
     rw [List.map_append, List.map_singleton, Am.pv_eq]; rfl
    refine ⟨⟨j + 1, ar ++ [Am.mk ns[j] b.vars b.eqs [] [] 0 0], .tok mm.nt, _, i5, n5, q5, hlt, h0, h2, h3, h5, h8, h9, h10, rfl, ?_, ?_, ht1, g2', ?_, ?_⟩, by omega⟩
    ·rw [List.map_append, hnm, List.take_succ_eq_append_getElem hlt]; rfl
    ·exact Chn_snoc hga ⟨_, l, b, hl, fun e => hl0 (by omega), hb2, rfl⟩
    ·have := hcnt.trans hcnt2
     rwa [show j * cB d + cB d = (j + 1) * cB d by rw [Nat.succ_mul]] at this
    ·rw [hadd]
   refine ⟨fun cj => ?_, fun cj => ?_⟩
   ·(refine vE (And.intro h0 h2) ?_; repeat intro X hX)
    refine callM (less_any p _ ((hok.toks ht).ext _) .no outs (by omega) _ n3 q3) ?_
    rintro v m' ⟨l, i4, rfl, hl, rfl⟩
    refine wS aEQ_t ?_
    exact fin _ l i4 hl (fun e => by subst e; simp at cj) h0 h2 h3 h5 h8 h9 h10 h11 rfl
   ·(repeat refine aSkip ?_)
    exact fin _ outs i3 (isLess_refl _) (fun _ => rfl) h0 h2 h3 h5 h8 h9 h10 h11 rfl
  ·have hlt : j = ns.length := by simp at hb; omega
   subst hlt
   (repeat revert X); refine wD (And.intro tfAbMk10 (And.intro h8 (And.intro h9 (And.intro hnb (And.intro hT hG))))) ?_; repeat intro X hX
   refine wQ Tryz.results96 (And.intro tfAbMk10 (And.intro h8 (And.intro hnb (And.intro hT hG)))) ?_
   refine leave_gst hok ht (by simp only [PV.settle, PV.settles, PV.pure, PV.pures]; rfl) ⟨.mk 3 [] sE [] false e ar 0 0, i3, n3, q3, ?_, ⟨t, ns, e, ar, hns, he, by rw [hnm, List.take_length], hga, rfl⟩, Cnt.le hcnt (Nat.mul_le_mul_right _ hn3), rfl⟩
   rw [Qu.pv_eq]; rfl
 cases c0 : (r == 0) with
 | true =>
  refine vE tfAbMk10 ?_; repeat intro X hX
  refine aDrw (fun _ => True) (by kernel_rfl) trivial ?_
  refine wS tfAbMk10 ?_
  refine callE (tyC_any _) ?_
  refine ⟨trivial, ?_⟩
  refine wS tfAbMk10 ?_
  refine callM (expr_any 2 (by omega) p _ (hok.ext _) s (hs.ok (by omega)) tyC (.inr (.inr rfl)) true _ n q) ?_
  rintro v m' ⟨e, i3, rfl, he, rfl⟩
  refine ⟨trivial, ?_⟩
  refine wS (And.intro tfAbMk10 (And.intro hT hG)) ?_
  exact join _ tyC [sBlue, sRed, sGreen] e _ (.inl ⟨rfl, rfl⟩) he rfl rfl rfl rfl rfl rfl rfl
 | false =>
  refine vE aEQ_t ?_; repeat intro X hX
  refine aDrw (fun _ => True) (by kernel_rfl) trivial ?_
  refine wS tfAbMk10 ?_
  refine callE (tyB_any _) ?_
  refine ⟨trivial, ?_⟩
  refine wS tfAbMk10 ?_
  refine callM (expr_any 2 (by omega) p _ (hok.ext _) s (hs.ok (by omega)) tyB (.inr (.inl rfl)) true _ n q) ?_
  rintro v m' ⟨e, i3, rfl, he, rfl⟩
  refine ⟨trivial, ?_⟩
  refine wS (And.intro tfAbMk10 (And.intro hT hG)) ?_
  exact join _ tyB [sTrue, sFalse] e _ (.inr ⟨rfl, rfl⟩) he rfl rfl rfl rfl rfl rfl rfl

def tfAbMk11 := tfAbMk10

theorem alive_new (m : M) (s : Nat) : (m.fresh s).alive m.nt s := by simp [M.alive, M.fresh, M.nt]
def EqsC (d : Nat) (t : Int) (RE : Int → RET) : Prop := ∀ (p : GP) (m : M) (hok : p.ok m) (s : Sc) (k : Nat) (hs : s.le k) (outs : List Va) (ho : outs.length ≤ 3) (hty : ∀ v ∈ outs, isTy v.t) (i n : Nat) (q : Int) (hk : k + cE d q ≤ 2 ^ 30) (hn : n + cE d q ≤ 2 ^ 50) (ht : q ≤ t) (hq : q ≤ 20) (hq2 : -(2 : Int) ^ 50 ≤ q - cE d q), ACalls Tryz.prog 77 [.bp p.gp 0, s.pv, .sl .no (outs.map Va.pv), pI d] (gst p m i n q) (fun v m' => ∃ (l : List Qu) (vs : List Va) (i' n' : Nat) (q' : Int), v = .tp [.sl .no (l.map Qu.pv), .sl .no (vs.map Va.pv)] ∧ RE p.subs n n' s outs l vs ∧ l.length ≤ 3 + cE d q ∧ vs.length ≤ cE d q ∧ Cnt (cE d q) n q n' q' ∧ m' = gst p m i' n' q')
def mkVa (nm : Str) (t : Ty) : Va := ⟨nm, t, [], false, zE, 0, 0⟩
def GCall (subs : Int) (n : Nat) (s : Sc) (x y : Va) (z : Qu) : Prop := ∃ (k : Nat) (a b : Ex) (h : Bool) (e : Ex), (k : Int) < subs ∧ x = mkVa (nameS ⟨#[117]⟩ (n + 1)) tyI ∧ y = mkVa (nameS ⟨#[117]⟩ (n + 2)) tyC ∧ GEx 2 s tyI true a ∧ GEx 2 s tyB true b ∧ ((h = false ∧ e = zE) ∨ (h = true ∧ GEx 2 s tyB true e)) ∧ z = .mk 2 [x.name, y.name] (nameS ⟨#[102]⟩ k) [a, b] h e [] 0 0
def isGI (p : GP) (m : M) (n q : Int) (m2 : M) : Prop := ∃ bs i, m2 = gst p (m.ext bs) i n q
theorem isGI_all {p : GP} {m : M} {n q : Int} {Q : M → Prop} : (∀ m2, isGI p m n q m2 → Q m2) = ∀ bs i, Q (gst p (m.ext bs) i n q) :=
 propext ⟨fun h bs i => h _ ⟨bs, i, rfl⟩, fun h m2 ⟨bs, i, e⟩ => e ▸ h bs i⟩
theorem isGI_0 {p : GP} {m : M} {i : Nat} {n q : Int} : isGI p m n q (gst p m i n q) := ⟨[], i, by simp [M.ext]⟩
set_option maxRecDepth 20000 in
set_option maxHeartbeats 4000000 in
theorem call_any (d : Nat) (hd : d < 1000) (t : Int) (RE : Int → RET) (E : EqsC d t RE) (p : GP) (m : M) (hok : p.ok m) (hsub : 0 < p.subs ∧ p.subs < 100) (s : Sc) (k : Nat) (hs : s.le k) (outs : List Va) (ho : outs.length ≤ 3) (hty : ∀ v ∈ outs, isTy v.t) (i n : Nat) (q : Int) (hk : k + 2 + cE d q ≤ 2 ^ 30) (hn : n + 2 + cE d q ≤ 2 ^ 50) (hqt : q ≤ t) (hq : q ≤ 20) (hq2 : -(2 : Int) ^ 50 ≤ q - cE d q) : ACalls Tryz.prog 99 [.bp p.gp 0, s.pv, .sl .no (outs.map Va.pv), pI d] (gst p m i n q) (fun v m' => ∃ (x y : Va) (z : Qu) (l : List Qu) (vs : List Va) (i' n' : Nat) (q' : Int), v = .tp [.sl .no ((z :: l).map Qu.pv), .sl .no ((x :: y :: vs).map Va.pv)] ∧ GCall p.subs n s x y z ∧ RE p.subs (n + 2) n' (s.more [x, y]) outs l vs ∧ l.length ≤ 3 + cE d q ∧ vs.length ≤ cE d q ∧ Cnt (2 + cE d q) n q n' q' ∧ m' = gst p m i' n' q') := by
 have hG := hok.gp
 have hT := hok.tp
 refine eN [12] Tryz.func99 ?_
 (repeat revert X); refine wE tfAbMk11 ?_; repeat intro X hX
 refine callM (name_any p _ hok ⟨#[117]⟩ (by decide) i n q (by omega)) ?_
 rintro v m' ⟨rfl, rfl⟩
 refine wS aEQ_t ?_
 refine callE (tyI_any _) ?_
 refine wS tfAbMk11 ?_
 (repeat revert X); refine wE aEQ_t ?_; repeat intro X hX
 refine callM (name_any p _ hok ⟨#[117]⟩ (by decide) i (n + 1) q (by omega)) ?_
 rintro v m' ⟨rfl, rfl⟩
 refine wS aEQ_t ?_
 refine callE (tyC_any _) ?_
 refine wS tfAbMk11 ?_
 (repeat (first | refine aSeq fun X hX => ?_ | (apply hX; clear hX X)))
 have join : ∀ (x y : Va) (hx : x = mkVa (nameS ⟨#[117]⟩ (n + 1)) tyI) (hy : y = mkVa (nameS ⟨#[117]⟩ (n + 1 + 1)) tyC) (f : F) (i2 kk : Nat), (kk : Int) < p.subs → f 0 = .bp p.gp 0 → f 2 = .sl .no (outs.map Va.pv) → f 3 = pI d → f 5 = .ep [.sl .no (s.ready.map Va.pv), .sl .no (s.all.map Va.pv), .sl .no (s.lasts.map Va.pv)] → f 10 = .ep x.cs → f 11 = .ep y.cs → f 12 = .bp m.nb 0 → X f (gst p (m.ext [some [PV.v (Value.int IntKind.u8 2), PV.sl Own.full [pS x.name, pS y.name], PV.v (Value.string (nameS ⟨#[102]⟩ kk)), PV.sl Own.full [], PV.v (Value.bool false), PV.v (Value.int IntKind.u8 0), PV.v (Value.int IntKind.u8 0), PV.v (Value.int IntKind.i32 0), PV.v (Value.string { data := #[] }), PV.sl Own.full [], PV.sl Own.full [], PV.v (Value.int IntKind.i64 0), PV.v (Value.int IntKind.i64 0), PV.sl Own.full [], PV.v (Value.int IntKind.i64 0), PV.v (Value.int IntKind.i64 0)]]) i2 ((n + 1 + 1 : Nat) : Int) q) := by
  intro x y hx hy f i2 kk hkk h0 h2 h3 h5 h10 h11 h12
  apply hX; clear hX X
  (repeat refine aSeq fun X hX => ?_)
  refine aDrw (fun _ => True) (by kernel_rfl) trivial ?_
  refine wS (And.intro tfAbMk11 (And.intro h0 h5)) ?_
  refine callE (tyI_any _) ?_
  refine ⟨trivial, ?_⟩
  refine wS tfAbMk11 ?_
  refine callM (expr_any 2 (by omega) p _ (hok.ext _) s (hs.ok (by omega)) tyI (.inl rfl) true _ _ q) ?_
  rintro v m' ⟨a, i3, rfl, ha, rfl⟩
  refine ⟨trivial, ?_⟩
  refine wS (And.intro tfAbMk11 (And.intro h0 h5)) ?_
  refine callE (tyB_any _) ?_
  refine ⟨trivial, ?_⟩
  refine wS tfAbMk11 ?_
  refine callM (expr_any 2 (by omega) p _ (hok.ext _) s (hs.ok (by omega)) tyB (.inr (.inl rfl)) true _ _ q) ?_
  rintro v m' ⟨b, i4, rfl, hb, rfl⟩
  refine ⟨trivial, ?_⟩
  refine wS (And.intro tfAbMk11 (And.intro h12 (And.intro hT hG))) ?_
  apply hX; clear hX X
  (repeat revert X); refine wE (And.intro tfAbMk11 (And.intro h0 hG)) ?_; repeat intro X hX
  refine callM (next_any p _ (hok.ext _) 3 (by omega) _ _ q) ?_
  rintro v m' ⟨r, i5, rfl, ⟨hr0, hr1⟩, rfl⟩
  refine wS aEQ_t ?_
  apply hX; clear hX X
  have join2 : ∀ (f : F) (h : Bool) (e : Ex) (oo : Own) (i6 : Nat), ((h = false ∧ e = zE) ∨ (h = true ∧ GEx 2 s tyB true e)) → f 0 = .bp p.gp 0 → f 2 = .sl .no (outs.map Va.pv) → f 3 = pI d → f 5 = .ep [.sl .no (s.ready.map Va.pv), .sl .no (s.all.map Va.pv), .sl .no (s.lasts.map Va.pv)] → f 10 = .ep x.cs → f 11 = .ep y.cs → f 12 = .bp m.nb 0 → X f (gst p (m.ext [some [PV.v (Value.int IntKind.u8 2), PV.sl Own.full [pS x.name, pS y.name], PV.v (Value.string (nameS ⟨#[102]⟩ kk)), PV.sl Own.full [a.pv, b.pv], PV.v (Value.bool h), PV.v (Value.int IntKind.u8 e.kind), PV.v (Value.int IntKind.u8 e.op), PV.v (Value.int IntKind.i32 e.n), PV.v (Value.string e.name), PV.sl oo (e.names.map pS), PV.sl oo (e.kids.map Ex.pv), PV.v (Value.int IntKind.i64 e.line), PV.v (Value.int IntKind.i64 e.col), PV.sl Own.full [], PV.v (Value.int IntKind.i64 0), PV.v (Value.int IntKind.i64 0)]]) i6 ((n + 1 + 1 : Nat) : Int) q) := by
   intro f h e oo i6 he h0 h2 h3 h5 h10 h11 h12
   apply hX; clear hX X
   (repeat revert X); refine wE (And.intro tfAbMk11 (And.intro h0 (And.intro h5 (And.intro h10 h11)))) ?_; repeat intro X hX
   refine callM (more_any s .full [x, y] (by have := hs.ready; simp only [List.length_cons, List.length_nil]; omega) _) ?_
   rintro v m' ⟨rfl, rfl⟩
   refine wS (And.intro tfAbMk11 (And.intro h2 h3)) ?_
   refine callM (E p _ (hok.ext _) (s.more [x, y]) (k + 2) (hs.more [x, y]) outs ho hty _ (n + 1 + 1) q (by omega) (by omega) hqt hq hq2) ?_
   rintro v m' ⟨l, vs, i7, n7, q7, rfl, hre, hl1, hl2, hcnt, rfl⟩
   refine wS tfAbMk11 ?_
   (repeat (first | refine aSeq fun X hX => ?_ | refine aReg ?_; simp -implicitDefEqProofs only [↓slp, slb, ↓reduceIte, jA, jB, jC, jE, jF, tfAbMk11, h12, hT, hG] | apply hX; clear hX X))
   have hm1 : 1 ≤ maxLen := by unfold maxLen; omega
   refine ⟨hm1, ?_⟩
   have hce : cE d q ≤ 2 ^ 30 := by omega
   have join3 : ∀ (f : F) (z : Qu), z = .mk 2 [x.name, y.name] (nameS ⟨#[102]⟩ kk) [a, b] h e [] 0 0 → f 10 = .ep x.cs → f 11 = .ep y.cs → f 13 = .sl .no (l.map Qu.pv) → f 14 = .sl .no (vs.map Va.pv) → f 15 = .sl (.tok m.nt) [z.pv] → X f (gst p ((m.fresh 16).ext [some [PV.v (Value.int IntKind.u8 2), PV.sl Own.full [pS x.name, pS y.name], PV.v (Value.string (nameS ⟨#[102]⟩ kk)), PV.sl Own.full [a.pv, b.pv], PV.v (Value.bool h), PV.v (Value.int IntKind.u8 e.kind), PV.v (Value.int IntKind.u8 e.op), PV.v (Value.int IntKind.i32 e.n), PV.v (Value.string e.name), PV.sl oo (e.names.map pS), PV.sl oo (e.kids.map Ex.pv), PV.v (Value.int IntKind.i64 e.line), PV.v (Value.int IntKind.i64 e.col), PV.sl Own.full [], PV.v (Value.int IntKind.i64 0), PV.v (Value.int IntKind.i64 0)]]) i7 (n7 : Int) q7) := by
    intro f z hz h10 h11 h13 h14 h15
    apply hX; clear hX X
    have hzc : z.pv.cells.length = 16 := by rw [Qu.cells_pv]; rfl
    have hql := qu_len l
    have hvl := va_len vs
    have hm2 : 1 + l.length ≤ maxLen := by unfold maxLen; omega
    have hm3 : 2 + vs.length ≤ maxLen := by unfold maxLen; omega
    have hm4 : 2 ≤ maxLen := by unfold maxLen; omega
    have ha1 : (m.fresh 16).alive m.nt 16 := by simp [M.alive, M.fresh, M.nt]
    have t1 : Toks m (m.fresh 16) := (Toks.refl m).use (o := .full) (s := 16) (s' := 16) Mine.full
    have g1 : Mine m (m.fresh 16) (.tok m.nt) 16 := Mine.new (o := .full) (Toks.refl m) 16
    have t2 : Toks m (((m.fresh 16).kill m.nt).fresh 16) := t1.use (o := .tok m.nt) (s := 16) g1
    have t3 : Toks m ((((m.fresh 16).kill m.nt).fresh 16).fresh 15) := t2.use (o := .full) (s := 15) (s' := 15) Mine.full
    have g3 : Mine m ((((m.fresh 16).kill m.nt).fresh 16).fresh 15) (.tok (((m.fresh 16).kill m.nt).fresh 16).nt) 15 := Mine.new (o := .full) t2 15
    have t4 := t3.use (o := .tok (((m.fresh 16).kill m.nt).fresh 16).nt) (s := 15) g3
    (repeat (first | refine aSeq fun X hX => ?_ | refine aReg ?_; simp -implicitDefEqProofs only [↓slp, slb, ↓reduceIte, jA, jB, jC, jE, jF, tfAbMk11, h10, h11, h13, h14, h15] | apply hX; clear hX X | apply And.intro; focus (first | omega | (repeat' apply And.intro) <;> first | omega | assumption)))
    refine ⟨⟨alive_new _ _, hvl, hm3, by omega⟩, ?_⟩
    apply hX; clear hX X
    (repeat refine aRet ?_)
    refine wQ Tryz.results99 aEQ_t ?_
    refine leave_gst hok t4 ?_ ⟨x, y, z, l, vs, i7, n7, q7, ?_, ⟨kk, a, b, h, e, hkk, hx, hy, ha, hb, he, hz⟩, hre, hl1, hl2, ?_, rfl⟩
    ·rfl
    ·rfl
    ·have := hcnt.n; have := hcnt.q0; have := hcnt.q1
     exact ⟨by omega, by omega, by omega⟩
   refine join3 _ (.mk 2 [x.name, y.name] (nameS ⟨#[102]⟩ kk) [a, b] h e [] 0 0) rfl ?_ ?_ rfl rfl (congrArg (fun u => PV.sl (.tok m.nt) [u]) (by rw [Qu.pv_eq]; rfl))
   ·exact h10
   ·exact h11
  cases c : (r == 0) with
  | true =>
   refine vE (And.intro tfAbMk11 (And.intro h12 (And.intro hT hG))) ?_; repeat intro X hX
   refine aDrw (fun _ => True) (by kernel_rfl) trivial ?_
   refine wS (And.intro tfAbMk11 (And.intro h0 h5)) ?_
   refine callE (tyB_any _) ?_
   refine ⟨trivial, ?_⟩
   refine wS tfAbMk11 ?_
   refine callM (expr_any 2 (by omega) p _ (hok.ext _) s (hs.ok (by omega)) tyB (.inr (.inl rfl)) true _ _ q) ?_
   rintro v m' ⟨e, i6, rfl, he, rfl⟩
   refine ⟨trivial, ?_⟩
   refine wS (And.intro tfAbMk11 (And.intro h12 (And.intro hT hG))) ?_
   refine join2 _ true e .no _ (.inr ⟨rfl, he⟩) ?_ ?_ ?_ ?_ ?_ ?_ ?_
   ·exact h0
   ·exact h2
   ·exact h3
   ·exact h5
   ·exact h10
   ·exact h11
   ·exact h12
  | false =>
   refine vE aEQ_t ?_; repeat intro X hX
   refine join2 _ false zE .full _ (.inl ⟨rfl, rfl⟩) ?_ ?_ ?_ ?_ ?_ ?_ ?_
   ·exact h0
   ·exact h2
   ·exact h3
   ·exact h5
   ·exact h10
   ·exact h11
   ·exact h12
 have hso := hsub.1
 refine aFltN 17 (isGI p m ((n + 1 + 1 : Nat) : Int) q) (by simp only [List.length_cons, List.length_nil]; omega) (by kernel_rfl) isGI_0 ?_
 simp -implicitDefEqProofs only [↓slp, slb, ↓reduceIte, reduceCtorEq, jA, jB, jD, jF, tfAbMk11, hT, hG, isGI_all, List.getElem_cons_succ, List.getElem_cons_zero, List.getLast_cons_cons, List.getLast_singleton, List.dropLast_singleton]
 refine ⟨⟨⟨_, _, rfl⟩, ?_⟩, ?_⟩
 ·refine callM (next_any p _ (hok.ext _) p.subs hso _ _ q) ?_
  rintro v m' ⟨r, i2, rfl, ⟨hr0, hr1⟩, rfl⟩
  obtain ⟨kk, rfl⟩ : ∃ kk : Nat, r = kk := ⟨r.toNat, (Int.toNat_of_nonneg hr0).symm⟩
  refine ⟨⟨_, _, rfl⟩, ?_⟩
  refine wS aEQ_t ?_
  refine callE (digits_any kk _ (by omega)) ?_
  have hsz := digS_size kk
  have hs1 : (⟨#[102]⟩ : ByteArray).size = 1 := rfl
  refine ⟨⟨_, _, rfl⟩, ?_⟩
  refine wS (And.intro tfAbMk11 (And.intro hT (And.intro hG @pS.eq_1))) ?_
  (repeat ((apply And.intro; (focus omega))))
  refine ⟨⟨_, _, rfl⟩, ?_⟩
  exact join _ _ rfl rfl _ _ kk hr1 rfl rfl rfl rfl rfl rfl rfl
 ·refine callM (next_any p _ hok p.subs hso _ _ q) ?_
  rintro v m' ⟨r, i2, rfl, ⟨hr0, hr1⟩, rfl⟩
  obtain ⟨kk, rfl⟩ : ∃ kk : Nat, r = kk := ⟨r.toNat, (Int.toNat_of_nonneg hr0).symm⟩
  have hsz := digS_size kk
  have hs1 : (⟨#[102]⟩ : ByteArray).size = 1 := rfl
  refine ⟨isGI_0, ?_⟩
  refine wS (And.intro tfAbMk11 (And.intro hT hG)) ?_
  refine ⟨⟨⟨_, _, rfl⟩, ?_⟩, ?_⟩
  ·refine callE (digits_any kk _ (by omega)) ?_
   refine ⟨⟨_, _, rfl⟩, ?_⟩
   refine wS (And.intro tfAbMk11 (And.intro hT (And.intro hG @pS.eq_1))) ?_
   (repeat ((apply And.intro; (focus omega))))
   refine ⟨⟨_, _, rfl⟩, ?_⟩
   exact join _ _ rfl rfl _ _ kk hr1 rfl rfl rfl rfl rfl rfl rfl
  ·refine callE (digits_any kk _ (by omega)) ?_
   refine ⟨isGI_0, ?_⟩
   refine wS (And.intro tfAbMk11 (And.intro hT (And.intro hG @pS.eq_1))) ?_
   (repeat ((apply And.intro; (focus omega))))
   refine ⟨⟨_, _, rfl⟩, ⟨_, _, rfl⟩, ?_⟩
   exact join _ _ rfl rfl _ _ kk hr1 rfl rfl rfl rfl rfl rfl rfl
end Go.Proofs.YthhhnfjcaicjnaaGreatDoor
