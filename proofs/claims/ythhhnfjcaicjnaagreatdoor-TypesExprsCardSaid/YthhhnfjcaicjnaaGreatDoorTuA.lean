/-
 Texts that belong together: TpU, TpV.
-/
-- halved
import Derived.Test.YthhhnfjcaicjnaaGreatDoorAbMac
import Derived.Test.YthhhnfjcaicjnaaGreatDoorTdA
import Derived.Test.YthhhnfjcaicjnaaGreatDoorJkA
import Derived.Test.YthhhnfjcaicjnaaGreatDoorMkH
set_option linter.unusedVariables false
set_option linter.unusedSimpArgs false
namespace Go.Proofs.YthhhnfjcaicjnaaGreatDoor
open Nat renaming reduceEqDiff → jA, reduceAdd → jB, reduceMul → jC, reduceLT → jD, reduceLeDiff → jE, reduceBEq → jF, reduceBNe → jG
open Int renaming reduceLE → jH, reduceLT → jI, reduceToNat → jJ, reduceEq → jK
open Go
set_option maxRecDepth 20000
set_option linter.defProp false
def tfTpU := tfTpO

theorem spt_mk {p : Int × Int} {m : M} {x z y : Option (List PV)} {r : List (Option (List PV))} {a : Nat} {c : Int} (h : m.nb + 2 = a) : spt p a (m.ext (x :: z :: y :: r)) c = m.ext (x :: z :: some (sN p c) :: r) := by
 subst h
 unfold spt
 rw [ext_upd (i := 2) rfl]
 rfl
theorem spt_in {mm : M} {a : Nat} (h : mm.nb + 2 = a) {x z y : Option (List PV)} {r : List (Option (List PV))} : a < (mm.ext (x :: z :: y :: r)).nb := by
 rw [ext_nb]; simp only [List.length_cons]; omega
theorem spt_lift {p : Int × Int} {P : Program} {mm : M} {a : Nat} (h : mm.nb + 2 = a) {f : FuncId} {args : List PV} {x z : Option (List PV)} {r : List (Option (List PV))} {c : Int} {α : Type} {S : α → PV → Int → Prop}
    (hc : ACalls P f args (spt p a (mm.ext (x :: z :: some (sN p c) :: r)) c) (fun v m' => ∃ y c', S y v c' ∧ m' = spt p a (mm.ext (x :: z :: some (sN p c) :: r)) c')) : ACalls P f args (mm.ext (x :: z :: some (sN p c) :: r)) (fun v m' => ∃ y c', S y v c' ∧ m' = mm.ext (x :: z :: some (sN p c') :: r)) := by
 rw [spt_mk h] at hc
 exact ACalls.mono hc fun v m' ⟨y, c', h1, h2⟩ => ⟨y, c', h1, by rw [h2, spt_mk h]⟩
set_option maxHeartbeats 8000000 in
theorem spoil_any {d W : Nat} (E : List En) (hE : ColE E) (l : List No) (hl : l.length ≤ 100) (hx : ∀ n ∈ l, n.nwg d) (hd : ∀ n ∈ l, GB E d n.b.vars n.b.eqs ∧ wtF d n.b.vars n.b.eqs ≤ W) (hio : ∀ n ∈ l, n.ins.length ≤ W ∧ n.outs.length ≤ W) (at' how : Int) (hat : 0 ≤ at' ∧ at' ≤ 65535) (hhow : 0 ≤ how ∧ how ≤ 255) (m : M) :
    ACalls Tryz.prog 6 [prPV E l, .v (.int .u16 at'), .v (.int .u8 how)] m (fun v m' => (∃ l' : List No, v = prPV E l' ∧ l'.length = l.length ∧ ∀ n ∈ l', GB E d n.b.vars n.b.eqs ∧ wtF d n.b.vars n.b.eqs ≤ (d + 2) * W ∧ (n.ins.length ≤ W ∧ ∀ v ∈ n.ins, v.first.okw) ∧ (n.outs.length ≤ W ∧ ∀ v ∈ n.outs, v.first.okw)) ∧ m' = m) := by
 have hw1 : IntKind.i64.wrap at' = at' := wrap64 (by omega)
 have hw2 : IntKind.i64.wrap how = how := wrap64 (by omega)
 refine eN [6, 11, 13, 15, 52] Tryz.func6 ?_
 (repeat revert X); refine wE tfTpU ?_; repeat intro X hX
 obtain ⟨I, hI⟩ : ∃ I : F → M → Prop, ∀ f m', I f m' = (∃ (k : Nat) (c : Int), k ≤ l.length ∧ (0 ≤ c ∧ c ≤ (k : Int) * 2 ^ 53) ∧ f 1 = .v (.int .u16 at') ∧ f 2 = .v (.int .u8 how) ∧ f 3 = .ep [.sl .no (E.map En.pv), .sl .no (l.map No.pv)] ∧ f 6 = .bp m.nb 0 ∧ f 7 = .bp (m.nb + 1) 0 ∧ f 8 = pI k ∧
  m' = m.ext [some [.sl .full [], .sl .full []], some (cN c)]) := ⟨_, fun _ _ => rfl⟩
 refine aLoop I (fun f m => l.length - numOf (f 8)) ?_ ?_
 ·rw [hI]; exact ⟨0, 0, by omega, by omega, rfl, rfl, rfl, rfl, rfl, rfl, rfl⟩
 intro f m' hrel
 rw [hI] at hrel
 obtain ⟨k, c, hk, ⟨hc0, hc1⟩, f1, f2, f3, f6, f7, f8, rfl⟩ := hrel
 have hA : m.nb + 1 = m.nb + 1 := rfl
 cases c1 : decide ((k : Int) < (l.length : Int)) with
 | true =>
  have hlt : k < l.length := by simpa using c1
  have hg := getD_map No.pv l k hlt
  have hi : IntKind.i64.wrap ((k : Int) + 1) = ((k + 1 : Nat) : Int) := by rw [wrap64 (by omega)]; omega
  have hme : numOf (f 8) = k := by rw [f8]; exact Int.toNat_natCast k
  obtain ⟨⟨hi1, hi2⟩, ⟨ho1, ho2⟩, hnw, hwt⟩ := hx _ (List.getElem_mem hlt)
  have hwt' : (wtF d l[k].b.vars l[k].b.eqs : Int) ≤ 2 ^ 32 := by exact_mod_cast hwt
  generalize l[k] = x at *
  (repeat (first | refine aSeq fun X hX => ?_ | refine aSkip ?_ | (first | apply aReg | apply aIf); simp -implicitDefEqProofs only [↓slp, slb, ↓reduceIte, reduceCtorEq, jA, jB, jE, jF, tfTpU, f3, f7, f8, c1, hg, pI] | apply hX; clear hX X | intro hlen; unfold maxLen at hlen | apply And.intro; focus omega))
  refine callE (cnt_lift hA (cvars_any x.ins (by omega) (fun v hv => (hi2 v hv).1) _ _ (cnt_in hA) _)) ?_
  have hv1 := plVs_cnt x.ins c (fun v hv => (hi2 v hv).weak.2) (by omega) (by omega)
  generalize plVs x.ins c = V1 at *
  refine wS (And.intro f8 @pI.eq_1) ?_
  (repeat revert X); refine wE (And.intro tfTpU f7) ?_; repeat intro X hX
  refine callE (cnt_lift hA (cvars_any x.outs (by omega) (fun v hv => (ho2 v hv).1) _ _ (cnt_in hA) _)) ?_
  have hv2 := plVs_cnt x.outs V1.2 (fun v hv => (ho2 v hv).weak.2) (by omega) (by omega)
  generalize plVs x.outs V1.2 = V2 at *
  refine wS (And.intro f8 @pI.eq_1) ?_
  (repeat revert X); refine wE (And.intro tfTpU f7) ?_; repeat intro X hX
  refine callM (cnt_liftR (S := fun V' Q' c' => smF d x.b.vars x.b.eqs V' Q' = true ∧ V2.2 ≤ c' ∧ c' ≤ V2.2 + 1000001 * (wtF d x.b.vars x.b.eqs : Int)) hA (cblock_rel d x.b.vars x.b.eqs hnw.weak _ _ (cnt_in hA) V2.2 (by omega) (by omega))) ?_
  rintro v m' ⟨V', Q', c4, rfl, ⟨hs3, hb0, hb1⟩, rfl⟩
  refine wS (And.intro f8 @pI.eq_1) ?_
  (repeat (first | refine aReg ?_; simp -implicitDefEqProofs only [↓slp, slb, ↓reduceIte, jA, jF, f8, hi, pI] | apply hX; clear hX X))
  rw [hI]
  exact ⟨⟨k + 1, c4, hlt, ⟨by omega, by omega⟩, f1, f2, f3, f6, f7, rfl, rfl⟩, by omega⟩
 | false =>
  have hk' : k = l.length := by simp at c1; omega
  subst hk'
  have hc2 : IntKind.i64.wrap (c + 1) = c + 1 := wrap64 (by omega)
  have hc3 : (c + 1 == 0) = false := by simp; omega
  have hc4 : c + 1 ≠ 0 := by omega
  (repeat revert X); refine wE (And.intro tfTpU (And.intro f1 (And.intro f2 (And.intro f3 (And.intro f7 (And.intro f8 (And.intro c1 (And.intro hw1 (And.intro hw2 (And.intro hc2 (And.intro hc4 @pI.eq_1))))))))))) ?_; repeat intro X hX
  obtain ⟨p, hp, hp2⟩ : ∃ p : Int × Int, p = (IntKind.i64.wrap (1 + Int.tmod at' (c + 1)), how) ∧ 0 ≤ p.2 := ⟨_, rfl, hhow.1⟩
  clear hI hc0 hc1 c1 f8
  obtain ⟨I, hI⟩ : ∃ I : F → M → Prop, ∀ f m', I f m' = (∃ (k : Nat) (o : Own) (mm : M) (r : List (Option (List PV))) (P : List No) (cc : Int), k ≤ l.length ∧ P.length = k ∧ (∀ n ∈ P, GB E d n.b.vars n.b.eqs ∧ wtF d n.b.vars n.b.eqs ≤ (d + 2) * W ∧ (n.ins.length ≤ W ∧ ∀ v ∈ n.ins, v.first.okw) ∧ (n.outs.length ≤ W ∧ ∀ v ∈ n.outs, v.first.okw)) ∧ f 3 = .ep [.sl .no (E.map En.pv), .sl .no (l.map No.pv)] ∧ f 6 = .bp m.nb 0 ∧ f 10 = .bp (m.nb + 2) 0 ∧ f 11 = .bp (m.nb + 3) 0 ∧ f 12 = pI k ∧
   m' = mm.ext (some [.sl .full [], .sl .full []] :: some (cN c) :: some (sN p cc) :: some [.sl .no (E.map En.pv), .sl o (P.map No.pv)] :: r) ∧ Toks m mm ∧ Mine m mm o 7) := ⟨_, fun _ _ => rfl⟩
  refine aLoop I (fun f m => l.length - numOf (f 12)) ?_ ?_
  ·rw [hI]; exact ⟨0, .full, m, [], [], 0, by omega, rfl, (fun n hn => by cases hn), f3, f6, rfl, rfl, rfl, by rw [hp]; rfl, .refl m, .full⟩
  clear f1 f2 f3 f6 f7 hA hp
  intro f m' hrel
  rw [hI] at hrel
  obtain ⟨k, o, mm, r, P, cc, hk, hPl, hPd, f3, f6, f10, f11, f12, rfl, ht, ho⟩ := hrel
  have hnb := ht.nb
  have hA : mm.nb + 2 = m.nb + 2 := by omega
  cases c1 : decide ((k : Int) < (l.length : Int)) with
  | false =>
   have hk' : k = l.length := by simp at c1; omega
   subst hk'
   (repeat revert X); refine wE (And.intro tfTpU (And.intro f3 (And.intro f6 (And.intro f11 (And.intro f12 (And.intro c1 (And.intro hnb @pI.eq_1))))))) ?_; repeat intro X hX
   refine wQ Tryz.results6 (And.intro tfTpU (And.intro f6 hnb)) ?_
   exact leave_toks ht rfl ⟨⟨_, rfl, hPl, hPd⟩, rfl⟩
  | true =>
  have hlt : k < l.length := by simpa using c1
  have hg := getD_map No.pv l k hlt
  have hi : IntKind.i64.wrap ((k : Int) + 1) = ((k + 1 : Nat) : Int) := by rw [wrap64 (by omega)]; omega
  have hme : numOf (f 12) = k := by rw [f12]; exact Int.toNat_natCast k
  obtain ⟨⟨hi1, hi2⟩, ⟨ho1, ho2⟩, hnw, hwt⟩ := hx _ (List.getElem_mem hlt)
  obtain ⟨hd1, hd2⟩ := hd _ (List.getElem_mem hlt)
  have hio1 := hio _ (List.getElem_mem hlt)
  generalize l[k] = x at *
  (repeat (first | refine aSeq fun X hX => ?_ | refine aSkip ?_ | (first | apply aReg | apply aIf); simp -implicitDefEqProofs only [↓slp, slb, ↓reduceIte, reduceCtorEq, jA, jB, jD, jE, jF, tfTpU, f3, f10, f12, c1, hg, hnb, pI, List.getElem?_concat_length, set_concat_length] | apply hX; clear hX X | intro hlen; unfold maxLen at hlen | apply And.intro; focus omega))
  refine callM (spt_lift (α := List Va) (S := fun l' v c' => v = .sl .no (l'.map Va.pv) ∧ l'.length ≤ x.ins.length ∧ ∀ v ∈ l', v.first.okw) hA (ACalls.mono (svars_any p hp2 x.ins hi1 hi2 _ _ (spt_in hA) _) fun v m' ⟨l', n', h1, h2, h2', h3⟩ => ⟨l', n', ⟨h1, h2, h2'⟩, h3⟩)) ?_
  rintro v m' ⟨l1, n1, ⟨rfl, hl1, hlo1⟩, rfl⟩
  simp -implicitDefEqProofs only [↓slp, slb, ↓reduceIte, reduceCtorEq, jA, jB, jE, jF, tfTpU, f12, hnb, pI, List.getElem?_concat_length, set_concat_length]
  (repeat (first | refine aSeq fun X hX => ?_ | refine aReg ?_; simp -implicitDefEqProofs only [↓slp, slb, ↓reduceIte, reduceCtorEq, jA, jB, jD, jF, tfTpU, f10, hnb, List.getElem?_concat_length] | apply hX; clear hX X))
  refine callM (spt_lift (α := List Va) (S := fun l' v c' => v = .sl .no (l'.map Va.pv) ∧ l'.length ≤ x.outs.length ∧ ∀ v ∈ l', v.first.okw) hA (ACalls.mono (svars_any p hp2 x.outs ho1 ho2 _ _ (spt_in hA) _) fun v m' ⟨l', n', h1, h2, h2', h3⟩ => ⟨l', n', ⟨h1, h2, h2'⟩, h3⟩)) ?_
  rintro v m' ⟨l2, n2, ⟨rfl, hl2, hlo2⟩, rfl⟩
  simp -implicitDefEqProofs only [↓slp, slb, ↓reduceIte, reduceCtorEq, jA, jB, jE, jF, tfTpU, f12, hnb, pI, List.getElem?_concat_length, set_concat_length]
  (repeat (first | refine aSeq fun X hX => ?_ | refine aReg ?_; simp -implicitDefEqProofs only [↓slp, slb, ↓reduceIte, reduceCtorEq, jA, jB, jE, jF, tfTpU, f10, hnb, List.getElem?_concat_length] | apply hX; clear hX X))
  refine callM (spt_lift (α := List Va × List Qu) (S := fun b v c' => v = bkPV b.1 b.2 ∧ GB E d b.1 b.2 ∧ wtF d b.1 b.2 ≤ (d + 2) * wtF d x.b.vars x.b.eqs) hA (ACalls.mono (sblock_any hE d p hp2 x.b.vars x.b.eqs hnw hd1 _ _ (spt_in hA) _) fun v m' ⟨V', Q', n', h1, h2, h3⟩ => ⟨(V', Q'), n', ⟨h1, h2⟩, h3⟩)) ?_
  rintro v m' ⟨⟨V', Q'⟩, n3, ⟨rfl, hq1, hq2⟩, rfl⟩
  have hfree := ho.free
  have q1 : P.length + 1 ≤ maxLen := by unfold maxLen; omega
  have q2 : (P.length + 1) * 136 ≤ 140737488355328 := by omega
  have q3 := no_len7 P
  simp -implicitDefEqProofs only [↓slp, slb, ↓reduceIte, reduceCtorEq, jA, jB, jE, jF, tfTpU, f12, hnb, pI, List.getElem?_concat_length, set_concat_length]
  (repeat (first | refine aReg ?_; simp -implicitDefEqProofs only [forall_eq, ↓slp, slb, ↓reduceIte, reduceCtorEq, jA, jB, jC, jE, jF, tfTpU, f11, f12, hi, hnb, pI, List.getElem?_concat_length] | apply hX; clear hX X | apply And.intro; focus ((repeat' apply And.intro) <;> first | omega | assumption)))
  rw [hI]
  refine ⟨⟨k + 1, .tok mm.nt, _, r ++ [_], P ++ [⟨x.name, l1, l2, ⟨V', Q'⟩, x.line, x.col⟩], n3, hlt, by simp [hPl], fun n hn => ?_, f3, f6, f10, f11, rfl, by rw [List.map_append, List.map_cons, List.map_nil]; rfl, ht.use ho, Mine.new ht o 7⟩, by omega⟩
  rcases List.mem_append.1 hn with hn | hn
  ·exact hPd n hn
  ·cases List.mem_singleton.1 hn
   exact ⟨hq1, Nat.le_trans hq2 (Nat.mul_le_mul_left _ hd2), ⟨Nat.le_trans hl1 hio1.1, hlo1⟩, ⟨Nat.le_trans hl2 hio1.2, hlo2⟩⟩

set_option linter.unusedSectionVars false

def Ex.o2 (n : Nat) (e : Ex) : Prop := e.nar ∧ e.big ≤ n
theorem Ex.o2.okg {n : Nat} {e : Ex} (h : e.o2 n) (hn : n ≤ 1000000) : e.okg := ⟨h.1, Nat.le_trans h.2 hn⟩
theorem o2_sc (k : Int) (op n : Int) (s : Str) (l : List Str) (a b : Int) : (Ex.mk k op n s l [] a b).o2 4 := ⟨⟨by simp, trivial⟩, Nat.le_refl _⟩
theorem o2_const {t : Ty} {e : Ex} (h : isConst t e) : e.o2 4 := by
 rcases h with ⟨_, k, _, rfl⟩ | ⟨_, k, _, rfl⟩ | ⟨_, c, _, rfl⟩ <;> exact o2_sc ..
theorem o2_vc {l : List Va} {t : Ty} {e : Ex} (h : isVC l t e) : e.o2 4 := by
 rcases h with ⟨s, _, rfl⟩ | h
 ·exact o2_sc ..
 ·exact o2_const h
theorem o2_1 {n : Nat} {k op v : Int} {s : Str} {l : List Str} {a b : Int} {x : Ex} (h : x.o2 n) : (Ex.mk k op v s l [x] a b).o2 (4 + 3 * n) :=
 ⟨⟨by simp, h.1, trivial⟩, by have := h.2; simp only [Ex.big, Ex.bigs]; omega⟩
theorem o2_2 {n n2 : Nat} {k op v : Int} {s : Str} {l : List Str} {a b : Int} {x y : Ex} (h : x.o2 n) (h2 : y.o2 n2) : (Ex.mk k op v s l [x, y] a b).o2 (4 + 3 * (n + n2)) :=
 ⟨⟨by simp, h.1, h2.1, trivial⟩, by have := h.2; have := h2.2; simp only [Ex.big, Ex.bigs]; omega⟩
theorem o2_3 {n n2 n3 : Nat} {k op v : Int} {s : Str} {l : List Str} {a b : Int} {x y z : Ex} (h : x.o2 n) (h2 : y.o2 n2) (h3 : z.o2 n3) : (Ex.mk k op v s l [x, y, z] a b).o2 (4 + 3 * (n + n2 + n3)) :=
 ⟨⟨by simp, h.1, h2.1, h3.1, trivial⟩, by have := h.2; have := h2.2; have := h3.2; simp only [Ex.big, Ex.bigs]; omega⟩
theorem Ex.o2.le {n k : Nat} {e : Ex} (h : e.o2 n) (hk : n ≤ k) : e.o2 k := ⟨h.1, Nat.le_trans h.2 hk⟩
theorem o2_gex : ∀ (d : Nat) {s : Sc} {t : Ty} {st : Bool} {e : Ex}, GEx d s t st e → e.o2 (4 * 16 ^ d)
 | 0, s, t, st, e, h => (o2_vc h).le (by simp)
 | d + 1, s, t, st, e, h => by
  have hp : 1 ≤ 16 ^ d := Nat.one_le_pow _ _ (by decide)
  have hpow : 16 ^ (d + 1) = 16 * 16 ^ d := by rw [Nat.pow_succ]; omega
  rcases h with h | ⟨c, a, b, h1, h2, h3, rfl⟩ | ⟨_, c, b, h1, h2, rfl⟩ | ⟨_, a, b, h1, h2, rfl⟩ | ⟨x, h1, rfl⟩ | ⟨_, a, h1, rfl⟩ | ⟨_, o, a, b, _, h1, h2, rfl⟩ | ⟨_, a, h1, rfl⟩ | ⟨_, o, u, a, b, _, h1, h2, rfl⟩ | h
  ·exact (o2_vc h).le (by omega)
  ·exact (o2_3 (o2_gex d h1) (o2_gex d h2) (o2_gex d h3)).le (by omega)
  ·exact (o2_2 (o2_const h1) (o2_gex d h2)).le (by omega)
  ·exact (o2_2 (o2_gex d h1) (o2_1 (o2_gex d h2))).le (by omega)
  ·exact (o2_sc ..).le (by omega)
  ·exact (o2_1 (o2_gex d h1)).le (by omega)
  ·exact (o2_2 (o2_gex d h1) (o2_gex d h2)).le (by omega)
  ·exact (o2_1 (o2_gex d h1)).le (by omega)
  ·exact (o2_2 (o2_gex d h1) (o2_gex d h2)).le (by omega)
  ·exact (o2_vc h).le (by omega)
theorem ok_gex {d : Nat} (hd : d ≤ 3) {s : Sc} {t : Ty} {st : Bool} {e : Ex} (h : GEx d s t st e) : e.o2 16384 := by
 have : 16 ^ d ≤ 16 ^ 3 := Nat.pow_le_pow_right (by decide) hd
 exact (o2_gex d h).le (by omega)
theorem ok_zE : zE.okg := (o2_sc ..).okg (by decide)
theorem ok_vaE (v : Va) : (vaE v).o2 4 := o2_sc ..

theorem chn_w {R : Nat → Nat → Nat → Am → Prop} {Q : Am → Prop} {c : Am → Nat} {hi X K : Nat} (hR : ∀ j n n' a, R j n n' a → n ≤ n') (h : ∀ j n n' a, R j n n' a → n' ≤ hi → Q a ∧ c a + n * X ≤ n' * X + K) : ∀ (l : List Am) (j n n' : Nat), Chn R j n n' l → n' ≤ hi → (∀ a ∈ l, Q a) ∧ (l.map c).sum + n * X ≤ n' * X + l.length * K
 | [], _, n, n', hc, _ => by
  have : n' = n := hc
  subst this; exact ⟨(fun a ha => by cases ha), by simp⟩
 | b :: l, j, n, n', ⟨n1, h1, h2⟩, hhi => by
  have e2 := chn_le hR h2
  obtain ⟨p1, p2⟩ := h _ _ _ _ h1 (by omega)
  obtain ⟨q1, q2⟩ := chn_w hR h l _ _ _ h2 hhi
  refine ⟨fun a ha => ?_, by rw [List.map_cons, List.sum_cons, List.length_cons, Nat.add_mul]; omega⟩
  rcases List.mem_cons.1 ha with rfl | ha
  ·exact p1
  ·exact q1 a ha
structure BkW (PB : List Va → List Qu → Prop) (wb : WbT) (K n n' : Nat) (V : List Va) (Q : List Qu) : Prop where
 good : PB V Q
 wt : wb V Q + n * 8 ≤ n' * 8 + K
def NwS (PB : List Va → List Qu → Prop) (V : List Va) (Q : List Qu) : Prop := V.length ≤ 100000000 ∧ (∀ v ∈ V, v.first.okg) ∧ Q.length ≤ 100000000 ∧ ∀ q ∈ Q, q.nwg ∧ ∀ x ∈ q.arms, PB x.vars x.eqs
theorem own_ok : ∀ {l : List Va} {n : Nat}, GOwn n l → ∀ v ∈ l, v.first.okg
 | [], n, _, v, hv => by simp at hv
 | w :: l, n, ⟨h1, h2⟩, v, hv => by
  rcases List.mem_cons.1 hv with rfl | hv
  ·obtain ⟨t, la, e, _, he, rfl⟩ := h1
   rcases he with ⟨_, rfl⟩ | ⟨_, he⟩
   ·exact ok_zE
   ·exact (o2_const he).okg (by decide)
  ·exact own_ok h2 v hv
theorem defQ_nw {v : Va} {e : Ex} (h : e.o2 1000000) : (defQ v e).nwg := ⟨h.okg (by decide), ⟨by simp [defQ, Qu.args], trivial, fun e he => by cases he⟩, ⟨by simp [defQ, Qu.arms], fun x hx => by cases hx⟩⟩
section
variable {RB : RBT} {PB : List Va → List Qu → Prop} {wb : WbT} {K : Nat}
 (hle : ∀ n n' s outs b, RB n n' s outs b → n ≤ n')
 (hB : ∀ n n' s outs b, RB n n' s outs b → n' ≤ 4000000 → outs.length ≤ 3 → BkW PB wb K n n' b.vars b.eqs)
theorem defs_w {s : Sc} : ∀ {outs : List Va} {l : List Qu}, GDefs s outs l → (∀ q ∈ l, q.nwg ∧ ∀ x ∈ q.arms, PB x.vars x.eqs) ∧ (l.map (wtQ wb)).sum = outs.length * 2
 | [], l, h => by cases h; exact ⟨(fun q hq => by cases hq), rfl⟩
 | v :: r, l, ⟨e, l', he, hl, h2⟩ => by
  subst hl
  obtain ⟨h3, h4⟩ := defs_w h2
  refine ⟨fun q hq => ?_, ?_⟩
  ·rcases List.mem_cons.1 hq with rfl | hq
   ·exact ⟨defQ_nw ((ok_gex (by decide) he).le (by decide)), fun x hx => by cases hx⟩
   ·exact h3 q hq
  ·rw [List.map_cons, List.sum_cons, h4, List.length_cons, Nat.add_mul]
   show 1 + 1 + 0 + 0 + _ = _
   omega
include hle hB
theorem eqs_w {subs : Int} {n n' : Nat} {s : Sc} {outs : List Va} {l : List Qu} {vs : List Va} (h : GEqs RB subs n n' s outs l vs) : n' ≤ 4000000 → outs.length ≤ 3 → (∀ q ∈ l, q.nwg ∧ ∀ x ∈ q.arms, PB x.vars x.eqs) ∧ (∀ v ∈ vs, v.first.okg) ∧ vs.length + (l.map (wtQ wb)).sum + n * 8 ≤ n' * 8 + (25 + 3 * K) := by
 induction h with
 | defs h =>
  intro _ hol
  obtain ⟨h1, h2⟩ := defs_w (PB := PB) (wb := wb) h
  exact ⟨h1, (fun v hv => by cases hv), by rw [h2]; simp only [List.length_nil]; omega⟩
 | @choice n n' s outs x h =>
  intro hn hol
  obtain ⟨t, ns, e, ar, hns, he, hnm, hc, rfl⟩ := h
  have hal3 : ar.length ≤ 3 := by
   have := congrArg List.length hnm
   rw [List.length_map] at this
   rcases hns with ⟨_, rfl⟩ | ⟨_, rfl⟩ <;> simp at this <;> omega
  obtain ⟨p1, p2⟩ := chn_w (Q := fun a => PB a.vars a.eqs ∧ a.unl = [] ∧ a.til = []) (c := wtA wb) (hi := n') (X := 8) (K := 7 + K) (fun j n n' a ⟨nm, l, b, _, _, hb, _⟩ => hle _ _ _ _ _ hb) (fun j n1 n2 a ⟨nm, l, b, hl1, hl2, hb, ha⟩ hhi => by
   subst ha
   have hlen := isLess_len hl1
   have hP := hB _ _ _ _ _ hb (by omega) (by omega)
   have := hP.wt
   exact ⟨⟨hP.good, rfl, rfl⟩, by show 1 + 0 + 0 + wb b.vars b.eqs + _ ≤ _; omega⟩) _ _ _ _ hc (Nat.le_refl _)
  refine ⟨fun q hq => ?_, (fun v hv => by cases hv), ?_⟩
  ·rw [List.mem_singleton] at hq
   subst hq
   refine ⟨⟨((ok_gex (by decide) he).okg (by decide)), ⟨Nat.zero_le _, trivial, (fun e he => by cases he)⟩, ⟨Nat.le_trans hal3 (by decide), fun x hx => ?_⟩⟩, fun x hx => (p1 x hx).1⟩
   obtain ⟨_, h1, h2⟩ := p1 x hx
   rw [h1, h2]
   exact ⟨⟨Nat.zero_le _, fun t ht => by cases ht⟩, ⟨Nat.zero_le _, fun t ht => by cases ht⟩⟩
  ·have h3 : ar.length * (7 + K) ≤ 3 * (7 + K) := Nat.mul_le_mul_right _ hal3
   show 0 + (1 + 0 + 0 + (ar.map (wtA wb)).sum + 0) + _ ≤ _
   omega
 | @auto n n' s outs x h =>
  intro hn hol
  obtain ⟨nn, ar, hnn, hal, hc, rfl⟩ := h
  have hal3 : ar.length ≤ 3 := by omega
  have hway : ∀ {s : Sc} {nn : Int} {u : List Tr}, GWays s nn u → u.length ≤ 100000000 ∧ ∀ t ∈ u, t.e.okg := fun {s nn u} hu => ⟨by have := hu.1; omega, fun t ht => by
   obtain ⟨e, k, b, h1, _, rfl⟩ := hu.2 t ht
   exact (ok_gex (by decide) h1).okg (by decide)⟩
  obtain ⟨p1, p2⟩ := chn_w (Q := fun a => PB a.vars a.eqs ∧ (a.unl.length ≤ 100000000 ∧ ∀ t ∈ a.unl, t.e.okg) ∧ (a.til.length ≤ 100000000 ∧ ∀ t ∈ a.til, t.e.okg)) (c := wtA wb) (hi := n') (X := 8) (K := 7 + K) (fun j n n' a ⟨l, u, b, w, _, _, _, hb, _, _⟩ => hle _ _ _ _ _ hb) (fun j n1 n2 a ⟨l, u, b, w, hl1, hl2, hu, hb, hw, ha⟩ hhi => by
   subst ha
   have hlen := isLess_len hl1
   have hP := hB _ _ _ _ _ hb (by omega) (by omega)
   have := hP.wt
   have := hu.1
   have := hw.1
   exact ⟨⟨hP.good, hway hu, hway hw⟩, by show 1 + u.length + w.length + wb b.vars b.eqs + _ ≤ _; omega⟩) _ _ _ _ hc (Nat.le_refl _)
  refine ⟨fun q hq => ?_, (fun v hv => by cases hv), ?_⟩
  ·rw [List.mem_singleton] at hq
   subst hq
   exact ⟨⟨ok_zE, ⟨Nat.zero_le _, trivial, (fun e he => by cases he)⟩, ⟨Nat.le_trans hal3 (by decide), fun x hx => (p1 x hx).2⟩⟩, fun x hx => (p1 x hx).1⟩
  ·have h3 : ar.length * (7 + K) ≤ 3 * (7 + K) := Nat.mul_le_mul_right _ hal3
   show 0 + (1 + 0 + 0 + (ar.map (wtA wb)).sum + 0) + _ ≤ _
   omega
 | @reset n n' s outs x h =>
  intro hn hol
  obtain ⟨e, b, he, hb, rfl⟩ := h
  have hP := hB _ _ _ _ _ hb hn hol
  have hpc := hP.wt
  refine ⟨fun q hq => ?_, (fun v hv => by cases hv), by show 0 + (1 + 0 + 0 + (1 + 0 + 0 + wb b.vars b.eqs + 0) + 0) + _ ≤ _; omega⟩
  rw [List.mem_singleton] at hq
  subst hq
  refine ⟨⟨((ok_gex (by decide) he).okg (by decide)), ⟨Nat.zero_le _, trivial, (fun e he => by cases he)⟩, ⟨by simp [Qu.arms], fun x hx => ?_⟩⟩, fun x hx => ?_⟩
  ·simp only [Qu.arms, List.mem_singleton] at hx
   subst hx
   exact ⟨⟨Nat.zero_le _, fun t ht => by cases ht⟩, ⟨Nat.zero_le _, fun t ht => by cases ht⟩⟩
  ·simp only [Qu.arms, List.mem_singleton] at hx
   subst hx
   exact hP.good
 | @call n n' s outs x y z l vs h h2 ih =>
  intro hn hol
  obtain ⟨k, a, b, hb, e, _, rfl, rfl, ha, hbx, he, rfl⟩ := h
  obtain ⟨i1, i2, i3⟩ := ih hn hol
  have ga := ok_gex (by decide) ha
  have gb := ok_gex (by decide) hbx
  refine ⟨fun q hq => ?_, fun v hv => ?_, by show vs.length + 1 + 1 + (1 + 2 + 2 + 0 + (l.map (wtQ wb)).sum) + _ ≤ _; omega⟩
  ·rcases List.mem_cons.1 hq with rfl | hq
   ·refine ⟨⟨?_, ⟨by simp [Qu.args], ⟨ga.1, gb.1, trivial⟩, fun e he => ?_⟩, ⟨Nat.zero_le _, fun x hx => by cases hx⟩⟩, fun x hx => by cases hx⟩
    ·rcases he with ⟨_, rfl⟩ | ⟨_, he⟩
     ·exact ok_zE
     ·exact (ok_gex (by decide) he).okg (by decide)
    ·simp only [Qu.args, List.mem_cons, List.not_mem_nil, or_false] at he
     rcases he with rfl | rfl
     ·have := ga.2; omega
     ·have := gb.2; omega
   ·exact i1 q hq
  ·rcases List.mem_cons.1 hv with rfl | hv
   ·exact ok_zE
   rcases List.mem_cons.1 hv with rfl | hv
   ·exact ok_zE
   ·exact i2 v hv
 | @samp n n' s outs c w z q1 q2 q3 l vs h h2 ih =>
  intro hn hol
  obtain ⟨e1, e2, e3, k1, kp, rfl, rfl, rfl, g1, g2, g3, hk1, hkp, rfl, rfl, rfl⟩ := h
  obtain ⟨i1, i2, i3⟩ := ih hn hol
  have x1 := ok_gex (by decide) g1
  have x2 := ok_gex (by decide) g2
  have x3 := ok_gex (by decide) g3
  have hkx : kp.o2 1000000 := by
   rcases hkp with rfl | ⟨k2, hk2, rfl⟩
   ·exact (o2_1 x1).le (by decide)
   ·exact (o2_2 (o2_const hk2) (o2_2 (ok_vaE _) (o2_1 x1))).le (by decide)
  refine ⟨fun q hq => ?_, fun v hv => ?_, by show vs.length + 1 + 1 + 1 + (1 + 1 + 0 + 0 + (1 + 1 + 0 + 0 + (1 + 1 + 0 + 0 + (l.map (wtQ wb)).sum))) + _ ≤ _; omega⟩
  ·rcases List.mem_cons.1 hq with rfl | hq
   ·exact ⟨defQ_nw (x3.le (by decide)), fun x hx => by cases hx⟩
   rcases List.mem_cons.1 hq with rfl | hq
   ·exact ⟨defQ_nw hkx, fun x hx => by cases hx⟩
   rcases List.mem_cons.1 hq with rfl | hq
   ·refine ⟨defQ_nw ?_, fun x hx => by cases hx⟩
    exact (o2_3 (o2_1 x2) (ok_vaE _) (o2_const hk1)).le (by decide)
   ·exact i1 q hq
  ·rcases List.mem_cons.1 hv with rfl | hv
   ·exact ok_zE
   rcases List.mem_cons.1 hv with rfl | hv
   ·exact ok_zE
   rcases List.mem_cons.1 hv with rfl | hv
   ·exact ok_zE
   ·exact i2 v hv
theorem todo_w {subs : Int} {n n' : Nat} {s : Sc} {outs : List Va} {l : List Qu} {vs : List Va} (h : GTodo (GEqs RB subs) n n' s outs l vs) : n' ≤ 4000000 → (∀ q ∈ l, q.nwg ∧ ∀ x ∈ q.arms, PB x.vars x.eqs) ∧ (∀ v ∈ vs, v.first.okg) ∧ vs.length + (l.map (wtQ wb)).sum + n * 8 ≤ n' * 8 + outs.length * (25 + 3 * K) := by
 induction h with
 | nil => exact fun _ => ⟨(fun q hq => by cases hq), (fun v hv => by cases hv), by simp⟩
 | @step n n1 n' s a r l vs l' vs' ha1 ha3 h1 h2 ih =>
  intro hn
  have k2 := (todo_inc hle h2).le
  obtain ⟨p1, p2, p3⟩ := eqs_w hle hB h1 (by omega) ha3
  obtain ⟨i1, i2, i3⟩ := ih hn
  refine ⟨fun q hq => ?_, fun v hv => ?_, ?_⟩
  ·rcases List.mem_append.1 hq with hq | hq
   ·exact p1 q hq
   ·exact i1 q hq
  ·rcases List.mem_append.1 hv with hv | hv
   ·exact p2 v hv
   ·exact i2 v hv
  ·rw [List.length_append, List.map_append, List.sum_append, List.length_append, Nat.add_mul a.length]
   have h3 : 1 * (25 + 3 * K) ≤ a.length * (25 + 3 * K) := Nat.mul_le_mul_right _ ha1
   omega
theorem blk_w {subs : Int} {n n' : Nat} {s : Sc} {outs : List Va} {b : Bk} (hK : K ≤ 3000000) (h : GBlk (GEqs RB subs) n n' s outs b) (hn : n' ≤ 4000000) (hol : outs.length ≤ 3) :
    BkW (NwS PB) (wtB wb) (6 * (25 + 3 * K)) n n' b.vars b.eqs := by
 obtain ⟨own, l, vs, hownl, hown, ht, rfl⟩ := h
 obtain ⟨p1, p2, p3⟩ := todo_w hle hB ht hn
 have h3 : (own ++ outs).length * (25 + 3 * K) ≤ 6 * (25 + 3 * K) := Nat.mul_le_mul_right _ (by rw [List.length_append]; omega)
 have hw : wtB wb (own ++ vs) l + n * 8 ≤ n' * 8 + 6 * (25 + 3 * K) := by
  show (own ++ vs).length + (l.map (wtQ wb)).sum + n * 8 ≤ _
  rw [List.length_append]
  omega
 have hl := wt_eqs wb (own ++ vs) l
 refine ⟨⟨by show (own ++ vs).length ≤ _; omega, fun v hv => ?_, by show l.length ≤ _; omega, p1⟩, hw⟩
 rcases List.mem_append.1 hv with hv | hv
 ·exact own_ok hown v hv
 ·exact p2 v hv
end
def kW : Nat → Nat
 | 0 => 6 * (25 + 3 * 0)
 | d + 1 => 6 * (25 + 3 * kW d)
def PbW (d : Nat) (V : List Va) (Q : List Qu) : Prop := NwG d V Q ∧ DpB d Q
theorem bk_w : ∀ (d : Nat) (hd : d ≤ 3) (subs : Int) (n n' : Nat) (s : Sc) (outs : List Va) (b : Bk), GBk d subs n n' s outs b → n' ≤ 4000000 → outs.length ≤ 3 → BkW (PbW d) (wtF d) (kW d) n n' b.vars b.eqs
 | 0, hd, subs, n, n', s, outs, b, h, hn, hol => by
  have := blk_w (RB := fun _ _ _ _ _ => False) (PB := fun _ _ => False) (wb := fun _ _ => 0) (K := 0) (fun _ _ _ _ _ h => h.elim) (fun _ _ _ _ _ h => h.elim) (by decide) h hn hol
  obtain ⟨⟨h1, h2, h3, h4⟩, h5⟩ := this
  have h6 : ∀ q ∈ b.eqs, q.arms = [] := fun q hq => List.eq_nil_iff_forall_not_mem.2 (fun x hx => (h4 q hq).2 x hx)
  exact ⟨⟨⟨h1, h2, h3, fun q hq => ⟨(h4 q hq).1, h6 q hq⟩⟩, h6⟩, h5⟩
 | d + 1, hd, subs, n, n', s, outs, b, h, hn, hol => by
  have hk : kW d ≤ 3000000 := by
   have : d = 0 ∨ d = 1 ∨ d = 2 := by omega
   rcases this with rfl | rfl | rfl <;> decide
  have := blk_w (RB := GBk d subs) (PB := PbW d) (wb := wtF d) (K := kW d) (fun n n' s outs b h => bk_le d subs n n' s outs b h) (fun n n' s outs b h hn hol => bk_w d (by omega) subs n n' s outs b h hn hol) hk h hn hol
  obtain ⟨⟨h1, h2, h3, h4⟩, h5⟩ := this
  exact ⟨⟨⟨h1, h2, h3, fun q hq => ⟨(h4 q hq).1, fun x hx => ((h4 q hq).2 x hx).1⟩⟩, fun q hq x hx => ((h4 q hq).2 x hx).2⟩, h5⟩
theorem made_w {ns : List No} (h : GNodes ns) : ∀ n ∈ ns, n.nwg 3 ∧ DpB 3 n.b.eqs ∧ wtF 3 n.b.vars n.b.eqs ≤ 40000000 := fun n hn => by
 obtain ⟨k, hk, rfl⟩ := List.getElem_of_mem hn
 obtain ⟨l, e, b, n', hle, hn', hb, he⟩ := h k hk
 rw [he]
 have hP := bk_w 3 (Nat.le_refl _) _ _ _ _ _ b hb (by omega) (by simp [nOuts])
 have hw := hP.wt
 have hk : kW 3 ≤ 3000000 := by decide
 have hw2 : wtF 3 b.vars b.eqs ≤ 40000000 := by omega
 refine ⟨⟨⟨by simp [nIns], fun v hv => ?_⟩, ⟨by simp [nOuts], fun v hv => ?_⟩, hP.good.1, Nat.le_trans hw2 (by decide)⟩, hP.good.2, hw2⟩
 ·simp only [nIns, List.mem_cons, List.not_mem_nil, or_false] at hv
  rcases hv with rfl | rfl <;> exact ok_zE
 ·simp only [nOuts, List.mem_cons, List.not_mem_nil, or_false] at hv
  rcases hv with rfl | rfl
  ·rcases hle with ⟨_, rfl⟩ | ⟨_, he⟩
   ·exact ok_zE
   ·exact (o2_const he).okg (by decide)
  ·exact ok_zE
end Go.Proofs.YthhhnfjcaicjnaaGreatDoor
