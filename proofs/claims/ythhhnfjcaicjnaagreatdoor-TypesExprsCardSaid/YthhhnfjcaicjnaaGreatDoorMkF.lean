/-
 Texts that belong together: AbMk14, AbMk15.
-/
-- halved
import Derived.Test.YthhhnfjcaicjnaaGreatDoorMkE
set_option linter.unusedVariables false
set_option linter.unusedSimpArgs false
namespace Go.Proofs.YthhhnfjcaicjnaaGreatDoor
open Nat renaming reduceEqDiff → jA, reduceAdd → jB, reduceMul → jC, reduceLT → jD, reduceLeDiff → jE, reduceBEq → jF, reduceBNe → jG
open Int renaming reduceLE → jH, reduceLT → jI, reduceToNat → jJ, reduceEq → jK
open Go
set_option linter.defProp false
def tfAbMk14 := tfAbMk13

def GDefs (s : Sc) : List Va → List Qu → Prop
 | [], l => l = []
 | v :: r, l => ∃ e l', GEx 3 s v.t true e ∧ l = defQ v e :: l' ∧ GDefs s r l'
theorem GDefs_snoc {s : Sc} {v : Va} {e : Ex} (he : GEx 3 s v.t true e) : ∀ {a : List Va} {l : List Qu}, GDefs s a l → GDefs s (a ++ [v]) (l ++ [defQ v e])
 | [], l, h => by cases h; exact ⟨e, [], he, rfl, rfl⟩
 | w :: r, l, h => by
  obtain ⟨e', l', h1, rfl, h2⟩ := h
  exact ⟨e', l' ++ [defQ v e], h1, rfl, GDefs_snoc he h2⟩
theorem GDefs_len {s : Sc} : ∀ {a : List Va} {l : List Qu}, GDefs s a l → l.length = a.length
 | [], l, h => by cases h; rfl
 | w :: r, l, h => by
  obtain ⟨e', l', h1, rfl, h2⟩ := h
  simp [GDefs_len h2]
def GReset (RB : RBT) (n n' : Nat) (s : Sc) (outs : List Va) (x : Qu) : Prop := ∃ e b, GEx 2 s tyB true e ∧ RB n n' s outs b ∧ x = .mk 5 [] sE [] false e [.mk sE b.vars b.eqs [] [] 0 0] 0 0
inductive GEqs (RB : RBT) (subs : Int) : Nat → Nat → Sc → List Va → List Qu → List Va → Prop
 | defs {n s outs l} : GDefs s outs l → GEqs RB subs n n s outs l []
 | choice {n n' s outs x} : GChoice RB n n' s outs x → GEqs RB subs n n' s outs [x] []
 | auto {n n' s outs x} : GAuto RB n n' s outs x → GEqs RB subs n n' s outs [x] []
 | reset {n n' s outs x} : GReset RB n n' s outs x → GEqs RB subs n n' s outs [x] []
 | call {n n' s outs x y z l vs} : GCall subs n s x y z → GEqs RB subs (n + 2) n' (s.more [x, y]) outs l vs → GEqs RB subs n n' s outs (z :: l) (x :: y :: vs)
 | samp {n n' s outs c w z q1 q2 q3 l vs} : GSamp n s c w z q1 q2 q3 → GEqs RB subs (n + 3) n' (s.more [c, z]) outs l vs → GEqs RB subs n n' s outs (q1 :: q2 :: q3 :: l) (c :: w :: z :: vs)
set_option maxRecDepth 20000 in
set_option maxHeartbeats 8000000 in
theorem eqs_step (d : Nat) (hd : d < 1000) (t : Int) (RB : Int → RBT) (B : ∀ d', d = d' + 1 → BlockC d' RB) (E : 0 < t → EqsC d (t - 1) (fun u => GEqs (RB u) u)) : EqsC d t (fun u => GEqs (RB u) u) := by
 intro p m hok s k hs outs ho hty i n q hk hn hqt hq hq2
 have hG := hok.gp
 have hT := hok.tp
 have hcE : 4 ≤ cE d q := by unfold cE; omega
 have hwq : IntKind.i64.wrap (q - 1) = q - 1 := wrap64 (by omega)
 refine ACalls.enter (mu := [10]) ok_mix Tryz.func77 rfl (by kernel_rfl) (by kernel_rfl) (by simp only [List.length_cons, List.length_nil, Tryz.ntmps77]; omega) ?_
 (repeat refine aSeq fun X hX => ?_)
 refine aReg ?_; simp -implicitDefEqProofs only [↓slp, slb, ↓reduceIte, jF, tfAbMk14]
 apply hX; clear hX X
 (repeat refine aSeq fun X hX => ?_)
 refine aReg ?_; simp -implicitDefEqProofs only [↓slp, slb, ↓reduceIte, reduceCtorEq, jA, jB, jD, jE, jF, tfAbMk14, hG, hwq]
 apply hX; clear hX X
 (repeat refine aSeq fun X hX => ?_)
 rename_i Y hY
 have rest : ∀ (f : F) (i1 : Nat), f 0 = .bp p.gp 0 → f 2 = .sl .no (outs.map Va.pv) → f 5 = .ep [.sl .no (s.ready.map Va.pv), .sl .no (s.all.map Va.pv), .sl .no (s.lasts.map Va.pv)] → Y f (gst p m i1 n (q - 1)) := by
  intro f i1 h0 h2 h5
  refine hY _ _ ?_; clear hX hY X Y
  (repeat (first | refine aSeq fun X hX => ?_ | refine aBlk ?_ | refine aReg ?_; simp -implicitDefEqProofs only [↓slp, slb, jF, tfAbMk14] | apply hX; clear hX X))
  obtain ⟨I, hI⟩ : ∃ I : F → M → Prop, ∀ f m', I f m' = (∃ (j : Nat) (l : List Qu) (o2 : Own) (mm : M) (i' : Nat), j ≤ outs.length ∧ f 0 = .bp p.gp 0 ∧ f 2 = .sl .no (outs.map Va.pv) ∧ f 5 = .ep [.sl .no (s.ready.map Va.pv), .sl .no (s.all.map Va.pv), .sl .no (s.lasts.map Va.pv)] ∧ f 11 = .sl o2 (l.map Qu.pv) ∧ f 12 = pI j ∧ GDefs s (outs.take j) l ∧ Toks m mm ∧ Mine m mm o2 16 ∧ m' = gst p mm i' n (q - 1)) := ⟨_, fun _ _ => rfl⟩
  refine aLoop I (fun f m => outs.length - numOf (f 12)) ?_ ?_
  ·rw [hI]; exact ⟨0, [], .full, m, i1, by omega, h0, h2, h5, rfl, rfl, rfl, .refl _, .full, rfl⟩
  intro f m' hrel
  rw [hI] at hrel
  clear h0 h2 h5
  obtain ⟨j, l, o2, mm, i3, hj, h0, h2, h5, h11, h12, hgl, ht, g2, rfl⟩ := hrel
  have hnb := ht.nb
  have hG' : p.gp < mm.nb := by rw [ht.nb]; exact hG
  have hT' : p.tp < mm.nb := by rw [ht.nb]; exact hT
  (repeat (first | refine aSeq fun X hX => ?_ | refine aReg ?_; simp -implicitDefEqProofs only [↓slp, slb, ↓reduceIte, jA, jF, tfAbMk14, h2, h12, pI] | apply hX; clear hX X | intro hlen; unfold maxLen at hlen))
  refine aIf ?_; simp -implicitDefEqProofs only [slb, ↓reduceIte]; refine ⟨fun hb => ?_, fun hb => ?_⟩
  ·have hlt : j < outs.length := by simpa using hb
   have g0 := getD_map Va.pv outs j hlt
   have hi : IntKind.i64.wrap ((j : Int) + 1) = ((j + 1 : Nat) : Int) := by rw [wrap64 (by omega)]; omega
   have hll := GDefs_len hgl
   rw [List.length_take] at hll
   have hmx : l.length + 1 ≤ maxLen := by unfold maxLen; omega
   have hf := g2.free
   have hql := qu_len l
   have ht1 := ht.use (s := 16) g2
   have g2' := Mine.new ht o2 16
   (repeat (first | refine aSeq fun X hX => ?_ | refine aBlk ?_ | refine aSkip ?_ | (apply hX; clear hX X)))
   refine aDrw (isGX p m) (by kernel_rfl) (isGX_of ht.boxes) ?_
   simp -implicitDefEqProofs only [↓slp, slb, ↓reduceIte, reduceCtorEq, jA, jB, jC, jE, jF, tfAbMk14, h0, h2, h5, h11, h12, g0, pI]
   refine ⟨hlt, hlt, ?_⟩
   refine callM (expr_any 3 (by omega) p _ (hok.toks ht) s (hs.ok (by omega)) outs[j].t (hty _ (List.getElem_mem hlt)) true _ _ (q - 1)) ?_
   rintro v m' ⟨e, i5, rfl, he, rfl⟩
   refine ⟨isGX_of ht.boxes, ?_⟩
   simp -implicitDefEqProofs only [↓slp, slb, ↓reduceIte, jA, jB, jC, jD, jE, jF, tfAbMk14, h12, pI]
   (repeat ((apply And.intro; (focus ((repeat' apply And.intro) <;> first | omega | assumption | trivial)))))
   refine ⟨isGX_of ht1.boxes, ?_⟩
   (repeat (first | refine aReg ?_; simp -implicitDefEqProofs only [↓slp, slb, ↓reduceIte, jA, jF, h12, hi, pI] | apply hX; clear hX X))
   rw [hI]
   refine ⟨⟨j + 1, l ++ [defQ outs[j] e], .tok mm.nt, _, i5, hlt, h0, h2, h5, ?_, rfl, ?_, ht1, g2', rfl⟩, by omega⟩
   ·exact congrArg (PV.sl (.tok mm.nt)) (by rw [List.map_append, List.map_singleton, defQ_pv])
   ·rw [List.take_succ_eq_append_getElem hlt]; exact GDefs_snoc he hgl
  ·have hlt : j = outs.length := by simp at hb; omega
   subst hlt
   rw [List.take_length] at hgl
   (repeat (first | refine aSeq fun X hX => ?_ | (first | refine aExit ?_ | refine aRet ?_); try simp only [slx, ↓reduceIte, jA, reduceCtorEq] | refine aReg ?_; simp -implicitDefEqProofs only [↓slp, slb, ↓reduceIte, jA, jF, tfAbMk14, h11] | apply hX; clear hX X | clear hX X; apply hX; clear hX X))
   simp only [aPost, Tryz.results77, aRes_n, aRes_t, aRes_c, pack_one, pack_two]
   simp -implicitDefEqProofs only [slb, ↓reduceIte, jA]
   have hll := GDefs_len hgl
   refine leave_gst0 hok ht rfl ⟨l, [], i3, n, q - 1, rfl, .defs hgl, by omega, by simp, ⟨by omega, by omega, by omega⟩, rfl⟩
 by_cases hd0 : 0 < d
 ·have cd : decide ((d : Int) > 0) = true := by simp; omega
  by_cases hq0 : 0 < q - 1
  ·have cq : decide (q - 1 > 0) = true := by simpa using hq0
   (repeat (first | refine aSeq fun X hX => ?_ | (first | apply aReg | apply aIf); simp -implicitDefEqProofs only [↓slp, slb, ↓reduceIte, reduceCtorEq, jA, jB, jD, jF, tfAbMk14, hG, cd, cq] | apply hX; clear hX X))
   refine callM (next_any p _ hok 9 (by omega) _ _ (q - 1)) ?_
   rintro v m' ⟨r, i1, rfl, ⟨hr0, hr1⟩, rfl⟩
   simp -implicitDefEqProofs only [slb]
   apply hX; clear hX X
   obtain ⟨d, rfl⟩ : ∃ d', d = d' + 1 := ⟨d - 1, by omega⟩
   have B := B d rfl
   have E := E (by omega)
   have hce : cE (d + 1) q = cE (d + 1) (q - 1) + 4 := by unfold cE; omega
   have hcp : cP (d + 1) = cB d := rfl
   have hcb : 3 * cB d + 4 ≤ cE (d + 1) (q - 1) := by unfold cE; rw [hcp]; omega
   have cas : r = 0 ∨ r = 1 ∨ r = 2 ∨ r = 3 ∨ r = 4 ∨ r = 5 ∨ r = 6 ∨ r = 7 ∨ r = 8 := by omega
   rcases cas with hr | hr | hr | hr | hr | hr | hr | hr | hr
   ·skip
    have e0 : (r == 0) = true := by rw [hr]; rfl
    have e1 : (r == 1) = false := by rw [hr]; rfl
    have e2 : (r == 2) = false := by rw [hr]; rfl
    have e3 : (r == 3) = false := by rw [hr]; rfl
    have e4 : (r == 4) = false := by rw [hr]; rfl
    have e5 : (r == 5) = false := by rw [hr]; rfl
    have e6 : (r == 6) = false := by rw [hr]; rfl
    have e7 : (r == 7) = false := by rw [hr]; rfl
    (repeat (first | refine aSeq fun X hX => ?_ | refine aSkip ?_ | (first | apply aReg | apply aIf); simp -implicitDefEqProofs only [↓slp, slb, ↓reduceIte, reduceCtorEq, jA, jB, jE, jF, tfAbMk14, e0] | apply hX; clear hX X))
    refine callM (choice_any d hd RB B p _ hok s k hs outs ho hty _ n (q - 1) (by omega) (by omega) (by omega) (by omega)) ?_
    rintro v m' ⟨x, i5, n5, q5, rfl, hx, hcnt, rfl⟩
    simp -implicitDefEqProofs only [↓slp, slb, ↓reduceIte, jC, jE, jF, tfAbMk14]
    refine ⟨⟨by rw [Qu.cells_pv]; rfl, by rw [Qu.pv_eq]; rfl⟩, ?_⟩
    apply hX; clear hX X
    (repeat (refine aRet ?_; try simp only [slx, ↓reduceIte, jA, reduceCtorEq]))
    simp only [aPost, Tryz.results77, aRes_n, aRes_t, aRes_c, pack_one, pack_two]
    simp -implicitDefEqProofs only [slb, ↓reduceIte, jA, Qu.settle_pv]
    have := hcnt.n; have := hcnt.q0; have := hcnt.q1
    refine leave_gst0 hok (.refl m) rfl ⟨[x], [], i5, n5, q5, (by first | rfl | (simp only [PV.settle, PV.settles, Qu.settle_pv, List.map_cons, List.map_nil])), .choice hx, by simp only [List.length_cons, List.length_nil]; omega, by simp, ⟨by omega, by omega, by omega⟩, rfl⟩
   ·skip
    have e0 : (r == 0) = false := by rw [hr]; rfl
    have e1 : (r == 1) = true := by rw [hr]; rfl
    have e2 : (r == 2) = false := by rw [hr]; rfl
    have e3 : (r == 3) = false := by rw [hr]; rfl
    have e4 : (r == 4) = false := by rw [hr]; rfl
    have e5 : (r == 5) = false := by rw [hr]; rfl
    have e6 : (r == 6) = false := by rw [hr]; rfl
    have e7 : (r == 7) = false := by rw [hr]; rfl
    (repeat (first | refine aSeq fun X hX => ?_ | (first | apply aReg | apply aIf); simp -implicitDefEqProofs only [↓slp, slb, ↓reduceIte, reduceCtorEq, jA, jB, jE, jF, tfAbMk14, e0, e1] | apply hX; clear hX X))
    refine callM (choice_any d hd RB B p _ hok s k hs outs ho hty _ n (q - 1) (by omega) (by omega) (by omega) (by omega)) ?_
    rintro v m' ⟨x, i5, n5, q5, rfl, hx, hcnt, rfl⟩
    simp -implicitDefEqProofs only [↓slp, slb, ↓reduceIte, jC, jE, jF, tfAbMk14]
    refine ⟨⟨by rw [Qu.cells_pv]; rfl, by rw [Qu.pv_eq]; rfl⟩, ?_⟩
    apply hX; clear hX X
    (repeat (refine aRet ?_; try simp only [slx, ↓reduceIte, jA, reduceCtorEq]))
    simp only [aPost, Tryz.results77, aRes_n, aRes_t, aRes_c, pack_one, pack_two]
    simp -implicitDefEqProofs only [slb, ↓reduceIte, jA, Qu.settle_pv]
    have := hcnt.n; have := hcnt.q0; have := hcnt.q1
    refine leave_gst0 hok (.refl m) rfl ⟨[x], [], i5, n5, q5, (by first | rfl | (simp only [PV.settle, PV.settles, Qu.settle_pv, List.map_cons, List.map_nil])), .choice hx, by simp only [List.length_cons, List.length_nil]; omega, by simp, ⟨by omega, by omega, by omega⟩, rfl⟩
   ·skip
    have e0 : (r == 0) = false := by rw [hr]; rfl
    have e1 : (r == 1) = false := by rw [hr]; rfl
    have e2 : (r == 2) = true := by rw [hr]; rfl
    have e3 : (r == 3) = false := by rw [hr]; rfl
    have e4 : (r == 4) = false := by rw [hr]; rfl
    have e5 : (r == 5) = false := by rw [hr]; rfl
    have e6 : (r == 6) = false := by rw [hr]; rfl
    have e7 : (r == 7) = false := by rw [hr]; rfl
    (repeat (first | refine aSeq fun X hX => ?_ | refine aSkip ?_ | (first | apply aReg | apply aIf); simp -implicitDefEqProofs only [↓slp, slb, ↓reduceIte, reduceCtorEq, jA, jB, jE, jF, tfAbMk14, e0, e1, e2] | apply hX; clear hX X))
    refine callM (automaton_any d hd RB B p _ hok s k hs outs ho hty _ n (q - 1) (by omega) (by omega) (by omega) (by omega) (by omega)) ?_
    rintro v m' ⟨x, i5, n5, q5, rfl, hx, hcnt, rfl⟩
    simp -implicitDefEqProofs only [↓slp, slb, ↓reduceIte, jC, jE, jF, tfAbMk14]
    refine ⟨⟨by rw [Qu.cells_pv]; rfl, by rw [Qu.pv_eq]; rfl⟩, ?_⟩
    apply hX; clear hX X
    (repeat (refine aRet ?_; try simp only [slx, ↓reduceIte, jA, reduceCtorEq]))
    simp only [aPost, Tryz.results77, aRes_n, aRes_t, aRes_c, pack_one, pack_two]
    simp -implicitDefEqProofs only [slb, ↓reduceIte, jA, Qu.settle_pv]
    have := hcnt.n; have := hcnt.q0; have := hcnt.q1
    refine leave_gst0 hok (.refl m) rfl ⟨[x], [], i5, n5, q5, (by first | rfl | (simp only [PV.settle, PV.settles, Qu.settle_pv, List.map_cons, List.map_nil])), .auto hx, by simp only [List.length_cons, List.length_nil]; omega, by simp, ⟨by omega, by omega, by omega⟩, rfl⟩
   ·skip
    have e0 : (r == 0) = false := by rw [hr]; rfl
    have e1 : (r == 1) = false := by rw [hr]; rfl
    have e2 : (r == 2) = false := by rw [hr]; rfl
    have e3 : (r == 3) = true := by rw [hr]; rfl
    have e4 : (r == 4) = false := by rw [hr]; rfl
    have e5 : (r == 5) = false := by rw [hr]; rfl
    have e6 : (r == 6) = false := by rw [hr]; rfl
    have e7 : (r == 7) = false := by rw [hr]; rfl
    (repeat (first | refine aSeq fun X hX => ?_ | (first | apply aReg | apply aIf); simp -implicitDefEqProofs only [↓slp, slb, ↓reduceIte, reduceCtorEq, jA, jB, jE, jF, tfAbMk14, e0, e1, e2, e3] | apply hX; clear hX X))
    refine callM (automaton_any d hd RB B p _ hok s k hs outs ho hty _ n (q - 1) (by omega) (by omega) (by omega) (by omega) (by omega)) ?_
    rintro v m' ⟨x, i5, n5, q5, rfl, hx, hcnt, rfl⟩
    simp -implicitDefEqProofs only [↓slp, slb, ↓reduceIte, jC, jE, jF, tfAbMk14]
    refine ⟨⟨by rw [Qu.cells_pv]; rfl, by rw [Qu.pv_eq]; rfl⟩, ?_⟩
    apply hX; clear hX X
    (repeat (refine aRet ?_; try simp only [slx, ↓reduceIte, jA, reduceCtorEq]))
    simp only [aPost, Tryz.results77, aRes_n, aRes_t, aRes_c, pack_one, pack_two]
    simp -implicitDefEqProofs only [slb, ↓reduceIte, jA, Qu.settle_pv]
    have := hcnt.n; have := hcnt.q0; have := hcnt.q1
    refine leave_gst0 hok (.refl m) rfl ⟨[x], [], i5, n5, q5, (by first | rfl | (simp only [PV.settle, PV.settles, Qu.settle_pv, List.map_cons, List.map_nil])), .auto hx, by simp only [List.length_cons, List.length_nil]; omega, by simp, ⟨by omega, by omega, by omega⟩, rfl⟩
   ·skip
    have e0 : (r == 0) = false := by rw [hr]; rfl
    have e1 : (r == 1) = false := by rw [hr]; rfl
    have e2 : (r == 2) = false := by rw [hr]; rfl
    have e3 : (r == 3) = false := by rw [hr]; rfl
    have e4 : (r == 4) = true := by rw [hr]; rfl
    have e5 : (r == 5) = false := by rw [hr]; rfl
    have e6 : (r == 6) = false := by rw [hr]; rfl
    have e7 : (r == 7) = false := by rw [hr]; rfl
    (repeat (first | refine aSeq fun X hX => ?_ | (first | apply aReg | apply aIf); simp -implicitDefEqProofs only [↓slp, slb, ↓reduceIte, reduceCtorEq, jA, jF, e0, e1, e2, e3, e4] | apply hX; clear hX X))
    have hw : IntKind.i64.wrap (((d + 1 : Nat) : Int) - 1) = (d : Int) := by rw [wrap64 (by omega)]; omega
    have join : ∀ (e : Ex) (he : GEx 2 s tyB true e) (f : F) (i2 : Nat), f 0 = .bp p.gp 0 → f 2 = .sl .no (outs.map Va.pv) → f 3 = pI ((d + 1 : Nat) : Int) → f 5 = .ep [.sl .no (s.ready.map Va.pv), .sl .no (s.all.map Va.pv), .sl .no (s.lasts.map Va.pv)] → f 10 = .bp m.nb 0 → X f (gst p (m.ext [some [PV.v (Value.int IntKind.u8 5), PV.sl Own.full [], PV.v (Value.string { data := #[] }), PV.sl Own.full [], PV.v (Value.bool false), PV.v (Value.int IntKind.u8 e.kind), PV.v (Value.int IntKind.u8 e.op), PV.v (Value.int IntKind.i32 e.n), PV.v (Value.string e.name), PV.sl Own.no (e.names.map pS), PV.sl Own.no (e.kids.map Ex.pv), PV.v (Value.int IntKind.i64 e.line), PV.v (Value.int IntKind.i64 e.col), PV.sl Own.full [], PV.v (Value.int IntKind.i64 0), PV.v (Value.int IntKind.i64 0)]]) i2 n (q - 1)) := by
     intro e he f i2 h0 h2 h3 h5 h10
     apply hX; clear hX X
     (repeat (first | refine aSeq fun X hX => ?_ | refine aReg ?_; simp -implicitDefEqProofs only [↓slp, slb, ↓reduceIte, jA, jB, jE, jF, tfAbMk14, h0, h2, h3, h5, hw]))
     refine callM (B p _ (hok.ext _) s k hs outs ho hty _ n (q - 1) (by omega) (by omega) (by omega) (by omega)) ?_
     rintro v m' ⟨b, i5, n5, q5, rfl, hb, hcnt, rfl⟩
     simp -implicitDefEqProofs only [↓slp, slb, ↓reduceIte, reduceCtorEq, jA, jB, jC, jD, jE, jF, tfAbMk14, h10, hT, hG, Bk.pv]
     (repeat (first | refine aSeq fun X hX => ?_ | refine aRet ?_; try simp only [slx, ↓reduceIte, jA, reduceCtorEq] | refine aReg ?_; simp -implicitDefEqProofs only [↓slp, slb, ↓reduceIte, jA, jB, jC, jE, jF, tfAbMk14, h10, hT, hG] | apply hX; clear hX X))
     simp only [aPost, Tryz.results77, aRes_n, aRes_t, aRes_c, pack_one, pack_two]
     have := hcnt.n; have := hcnt.q0; have := hcnt.q1
     refine leave_gst hok (.refl m) rfl ⟨[.mk 5 [] sE [] false e [.mk sE b.vars b.eqs [] [] 0 0] 0 0], [], i5, n5, q5, ?_, .reset ⟨e, b, he, hb, rfl⟩, by simp only [List.length_cons, List.length_nil]; omega, by simp, ⟨by omega, by omega, by omega⟩, rfl⟩
     simp only [List.map_cons, List.map_nil, Qu.pv_eq, Qu.cs, Qu.arms, Am.pv_eq]
     rfl
    refine aFltN 5 (fun _ => True) (by simp only [List.length_cons, List.length_nil]; omega) (by kernel_rfl) trivial ?_
    simp -implicitDefEqProofs only [↓slp, slb, ↓reduceIte, reduceCtorEq, jA, jB, jE, jF, tfAbMk14, hT, hG, List.getElem_cons_succ, List.getElem_cons_zero, List.getLast_cons_cons, List.getLast_singleton, List.dropLast_singleton]
    refine ⟨?_, ?_⟩
    ·refine callE (tyB_any _) ?_
     refine ⟨trivial, ?_⟩
     simp -implicitDefEqProofs only [↓slp, slb, ↓reduceIte, jA, jF, tfAbMk14]
     refine callM (expr_any 2 (by omega) p _ (hok.ext _) s (hs.ok (by omega)) tyB (.inr (.inl rfl)) true _ _ _) ?_
     rintro v m' ⟨e, i3, rfl, he, rfl⟩
     refine ⟨trivial, ?_⟩
     simp -implicitDefEqProofs only [↓slp, slb, ↓reduceIte, jA, jB, jD, jE, jF, tfAbMk14, hT, hG]
     exact join e he _ _ rfl rfl rfl rfl rfl
    ·refine callE (tyB_any _) ?_
     refine ⟨trivial, ?_⟩
     simp -implicitDefEqProofs only [↓slp, slb, ↓reduceIte, jA, jF, tfAbMk14, hT, hG]
     refine ⟨?_, ?_⟩
     ·refine callM (expr_any 2 (by omega) p _ (hok.ext _) s (hs.ok (by omega)) tyB (.inr (.inl rfl)) true _ _ _) ?_
      rintro v m' ⟨e, i3, rfl, he, rfl⟩
      refine ⟨trivial, ?_⟩
      simp -implicitDefEqProofs only [↓slp, slb, ↓reduceIte, jA, jB, jD, jE, jF, tfAbMk14, hT, hG]
      exact join e he _ _ rfl rfl rfl rfl rfl
     ·refine callM (expr_any 2 (by omega) p _ hok s (hs.ok (by omega)) tyB (.inr (.inl rfl)) true _ _ _) ?_
      rintro v m' ⟨e, i3, rfl, he, rfl⟩
      refine ⟨trivial, ?_⟩
      simp -implicitDefEqProofs only [↓slp, slb, ↓reduceIte, jA, jB, jD, jE, jF, tfAbMk14, hT, hG]
      exact join e he _ _ rfl rfl rfl rfl rfl
   ·skip
    have e0 : (r == 0) = false := by rw [hr]; rfl
    have e1 : (r == 1) = false := by rw [hr]; rfl
    have e2 : (r == 2) = false := by rw [hr]; rfl
    have e3 : (r == 3) = false := by rw [hr]; rfl
    have e4 : (r == 4) = false := by rw [hr]; rfl
    have e5 : (r == 5) = true := by rw [hr]; rfl
    have e6 : (r == 6) = false := by rw [hr]; rfl
    have e7 : (r == 7) = false := by rw [hr]; rfl
    by_cases hs0 : 0 < p.subs
    ·have cs : decide (p.subs > 0) = true := by simpa using hs0
     (repeat (first | refine aSeq fun X hX => ?_ | refine aSkip ?_ | (first | apply aReg | apply aIf); simp -implicitDefEqProofs only [↓slp, slb, ↓reduceIte, reduceCtorEq, jA, jB, jD, jE, jF, tfAbMk14, hG, e0, e1, e2, e3, e4, e5, cs] | apply hX; clear hX X))
     refine callM (call_any (d + 1) hd (t - 1) _ E p _ hok ⟨hs0, hok.sub⟩ s k hs outs ho hty _ n (q - 1) (by omega) (by omega) (by omega) (by omega) (by omega)) ?_
     rintro v m' ⟨x, y, z, l, vs, i5, n5, q5, rfl, hx, hre, hl1, hl2, hcnt, rfl⟩
     simp -implicitDefEqProofs only [↓slp, slb, ↓reduceIte, jA, jB, jF]
     (repeat (first | refine aRet ?_; try simp only [slx, ↓reduceIte, jA, reduceCtorEq] | apply hX; clear hX X))
     simp only [aPost, Tryz.results77, aRes_n, aRes_t, aRes_c, pack_one, pack_two]
     have := hcnt.n; have := hcnt.q0; have := hcnt.q1
     refine leave_gst0 hok (.refl m) rfl ⟨z :: l, x :: y :: vs, i5, n5, q5, rfl, .call hx hre, by simp only [List.length_cons]; omega, by simp only [List.length_cons]; omega, ⟨by omega, by omega, by omega⟩, rfl⟩
    ·have cs : decide (p.subs > 0) = false := by simpa using hs0
     (repeat (first | refine aSeq fun X hX => ?_ | refine aSkip ?_ | (first | apply aReg | apply aIf); simp -implicitDefEqProofs only [↓slp, slb, ↓reduceIte, reduceCtorEq, jA, jB, jD, jF, tfAbMk14, hG, e0, e1, e2, e3, e4, e5, cs] | apply hX; clear hX X))
     exact rest _ i1 rfl rfl rfl
   ·skip
    have e0 : (r == 0) = false := by rw [hr]; rfl
    have e1 : (r == 1) = false := by rw [hr]; rfl
    have e2 : (r == 2) = false := by rw [hr]; rfl
    have e3 : (r == 3) = false := by rw [hr]; rfl
    have e4 : (r == 4) = false := by rw [hr]; rfl
    have e5 : (r == 5) = false := by rw [hr]; rfl
    have e6 : (r == 6) = true := by rw [hr]; rfl
    have e7 : (r == 7) = false := by rw [hr]; rfl
    by_cases hs0 : 0 < p.subs
    ·have cs : decide (p.subs > 0) = true := by simpa using hs0
     (repeat (first | refine aSeq fun X hX => ?_ | (first | apply aReg | apply aIf); simp -implicitDefEqProofs only [↓slp, slb, ↓reduceIte, reduceCtorEq, jA, jB, jD, jE, jF, tfAbMk14, hG, e0, e1, e2, e3, e4, e5, e6, cs] | apply hX; clear hX X))
     refine callM (call_any (d + 1) hd (t - 1) _ E p _ hok ⟨hs0, hok.sub⟩ s k hs outs ho hty _ n (q - 1) (by omega) (by omega) (by omega) (by omega) (by omega)) ?_
     rintro v m' ⟨x, y, z, l, vs, i5, n5, q5, rfl, hx, hre, hl1, hl2, hcnt, rfl⟩
     simp -implicitDefEqProofs only [↓slp, slb, ↓reduceIte, jA, jB, jF]
     (repeat (first | refine aRet ?_; try simp only [slx, ↓reduceIte, jA, reduceCtorEq] | apply hX; clear hX X))
     simp only [aPost, Tryz.results77, aRes_n, aRes_t, aRes_c, pack_one, pack_two]
     have := hcnt.n; have := hcnt.q0; have := hcnt.q1
     refine leave_gst0 hok (.refl m) rfl ⟨z :: l, x :: y :: vs, i5, n5, q5, rfl, .call hx hre, by simp only [List.length_cons]; omega, by simp only [List.length_cons]; omega, ⟨by omega, by omega, by omega⟩, rfl⟩
    ·have cs : decide (p.subs > 0) = false := by simpa using hs0
     (repeat (first | refine aSeq fun X hX => ?_ | refine aSkip ?_ | (first | apply aReg | apply aIf); simp -implicitDefEqProofs only [↓slp, slb, ↓reduceIte, reduceCtorEq, jA, jB, jD, jF, tfAbMk14, hG, e0, e1, e2, e3, e4, e5, e6, cs] | apply hX; clear hX X))
     exact rest _ i1 rfl rfl rfl
   ·skip
    have e0 : (r == 0) = false := by rw [hr]; rfl
    have e1 : (r == 1) = false := by rw [hr]; rfl
    have e2 : (r == 2) = false := by rw [hr]; rfl
    have e3 : (r == 3) = false := by rw [hr]; rfl
    have e4 : (r == 4) = false := by rw [hr]; rfl
    have e5 : (r == 5) = false := by rw [hr]; rfl
    have e6 : (r == 6) = false := by rw [hr]; rfl
    have e7 : (r == 7) = true := by rw [hr]; rfl
    (repeat (first | refine aSeq fun X hX => ?_ | (first | apply aReg | apply aIf); simp -implicitDefEqProofs only [↓slp, slb, ↓reduceIte, reduceCtorEq, jA, jB, jE, jF, tfAbMk14, e0, e1, e2, e3, e4, e5, e6, e7] | apply hX; clear hX X))
    refine callM (sampled_any (d + 1) hd (t - 1) _ E p _ hok s k hs outs ho hty _ n (q - 1) (by omega) (by omega) (by omega) (by omega) (by omega)) ?_
    rintro v m' ⟨c, w, z, q1, q2, q3, l, vs, i5, n5, q5, rfl, hx, hre, hl1, hl2, hcnt, rfl⟩
    simp -implicitDefEqProofs only [↓slp, slb, ↓reduceIte, jA, jB, jF]
    (repeat (first | refine aRet ?_; try simp only [slx, ↓reduceIte, jA, reduceCtorEq] | apply hX; clear hX X))
    simp only [aPost, Tryz.results77, aRes_n, aRes_t, aRes_c, pack_one, pack_two]
    have := hcnt.n; have := hcnt.q0; have := hcnt.q1
    refine leave_gst0 hok (.refl m) rfl ⟨q1 :: q2 :: q3 :: l, c :: w :: z :: vs, i5, n5, q5, rfl, .samp hx hre, by simp only [List.length_cons]; omega, by simp only [List.length_cons]; omega, ⟨by omega, by omega, by omega⟩, rfl⟩
   ·skip
    have e0 : (r == 0) = false := by rw [hr]; rfl
    have e1 : (r == 1) = false := by rw [hr]; rfl
    have e2 : (r == 2) = false := by rw [hr]; rfl
    have e3 : (r == 3) = false := by rw [hr]; rfl
    have e4 : (r == 4) = false := by rw [hr]; rfl
    have e5 : (r == 5) = false := by rw [hr]; rfl
    have e6 : (r == 6) = false := by rw [hr]; rfl
    have e7 : (r == 7) = false := by rw [hr]; rfl
    (repeat (first | refine aSeq fun X hX => ?_ | refine aSkip ?_ | (first | apply aReg | apply aIf); simp -implicitDefEqProofs only [↓slp, slb, ↓reduceIte, jA, jF, e0, e1, e2, e3, e4, e5, e6, e7] | apply hX; clear hX X))
    exact rest _ i1 rfl rfl rfl
  ·have cq : decide (q - 1 > 0) = false := by simpa using hq0
   (repeat (first | refine aSkip ?_ | (first | apply aReg | apply aIf); simp -implicitDefEqProofs only [↓slp, slb, ↓reduceIte, reduceCtorEq, jA, jB, jD, jF, tfAbMk14, hG, cd, cq] | apply hX; clear hX X))
   exact rest _ i rfl rfl rfl
 ·have cd : decide ((d : Int) > 0) = false := by simp; omega
  (repeat (first | refine aSkip ?_ | (first | apply aReg | apply aIf); simp -implicitDefEqProofs only [↓slp, slb, ↓reduceIte, jA, jF, cd] | apply hX; clear hX X))
  exact rest _ i rfl rfl rfl

theorem eqs_any (d : Nat) (hd : d < 1000) (RB : Int → RBT) (B : ∀ d', d = d' + 1 → BlockC d' RB) : ∀ t : Nat, EqsC d t (fun u => GEqs (RB u) u)
 | 0 => eqs_step d hd 0 RB B (fun h => absurd h (by decide))
 | t + 1 => eqs_step d hd _ RB B (fun _ => by
  rw [show (((t + 1 : Nat) : Int) - 1) = (t : Int) by omega]
  exact eqs_any d hd RB B t)
end Go.Proofs.YthhhnfjcaicjnaaGreatDoor
