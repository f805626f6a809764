/-
 Texts that belong together: NwD, NwE.
-/
-- halved
import Derived.Test.YthhhnfjcaicjnaaGreatDoorAbMac
import Derived.Test.YthhhnfjcaicjnaaGreatDoorNaA
import Derived.Test.YthhhnfjcaicjnaaGreatDoorAbDrwZ
import Derived.Test.YthhhnfjcaicjnaaGreatDoorNW
set_option linter.unusedVariables false
set_option linter.unusedSimpArgs false
namespace Go.Proofs.YthhhnfjcaicjnaaGreatDoor
open Nat renaming reduceEqDiff → jA, reduceAdd → jB, reduceMul → jC, reduceLT → jD, reduceLeDiff → jE, reduceBEq → jF, reduceBNe → jG
open Int renaming reduceLE → jH, reduceLT → jI, reduceToNat → jJ, reduceEq → jK
open Go
set_option maxRecDepth 20000
set_option linter.defProp false
def tfNwD := tfNwB

def MoreW (ns : List No) (E : List En) (x : PV) : Prop := x = .v .nilFunc ∨ ∃ (q : Qu) (a : Am), x = .fn (.func 112) [] [.ep [lkE E ns], .ep q.cs, .ep a.cs]
abbrev outP (B : Nat) (m : M) : PV → M → Prop := fun v m' => ∃ r : List Str, v = .sl .no (r.map pS) ∧ r.length ≤ B ∧ m' = m
def BlkW (ns : List No) (E : List En) (B : Nat) (W : List Va) (Q : List Qu) : Prop := ∀ (V : List Va) (O : List Str) (m : M) (x : PV), V.length + B ≤ 2 ^ 30 → O.length + B ≤ 2 ^ 30 → MoreW ns E x →
 ACallsZ Tryz.prog 49 [lkE E ns, scN V O, .ag [.sl .no (W.map Va.pv), .sl .no (Q.map Qu.pv)], x] m (outP B m) (ZN m)
set_option maxHeartbeats 1000000 in
theorem ncloW_any (ns : List No) (E : List En) (V : List Va) (O : List Str) (q : Qu) (a : Am) (m : M) : ACallsZ Tryz.prog 112 [scN V O, .ep [lkE E ns], .ep q.cs, .ep a.cs] m (unitP m) (ZN m) := by
 have hw := fun m => nways_any ns E V O q a.til m
 rw [Qu.pv_eq] at hw
 simp only [Qu.cs] at hw
 unfold lkE scN at *
 refine eZ [] Tryz.func112 ?_
 (repeat revert X); refine wE tfNwD ?_; repeat intro X hX
 refine callP (hw _) zn_leave ?_
 rintro v m' ⟨rfl, rfl⟩
 refine wS aEQ_t ?_
 (repeat revert X); refine wE tfNwD ?_; repeat intro X hX
 refine wR Tryz.results112 ?_
 exact leave_same rfl ⟨rfl, rfl⟩
def ArmsW (ns : List No) (E : List En) (B : Nat) (q : Qu) : Prop := ∀ (V : List Va) (O : List Str) (m : M), V.length + B ≤ 2 ^ 30 → O.length + B ≤ 2 ^ 30 → ACallsZ Tryz.prog 101 [lkE E ns, scN V O, q.pv] m (outP B m) (ZN m)
def EqW (ns : List No) (E : List En) (B : Nat) (q : Qu) : Prop := ∀ (V : List Va) (O : List Str) (m : M), V.length + B ≤ 2 ^ 30 → O.length + B ≤ 2 ^ 30 → ACallsZ Tryz.prog 86 [lkE E ns, scN V O, q.pv] m (outP B m) (ZN m)
set_option maxHeartbeats 8000000 in
theorem neq_step (ns : List No) (E : List En) (B : Nat) (q : Qu) (hl : q.lhs.length ≤ B) (h5 : q.kind = 5 → ∃ a r, q.arms = a :: r ∧ BlkW ns E B a.vars a.eqs) (hA : ArmsW ns E B q) : EqW ns E B q := by
 intro V O m hV hO
 have hE := fun (e : Ex) => nex_any ns E V O e m
 have hA := hA V O m hV hO
 have hF := fun m => findNode_any .no (E.map En.pv) ns q.name m
 have hfl := fun m => nfail_any 5 q.line q.col rfl m
 rw [Qu.pv_eq] at hA
 simp only [Qu.cs] at hA
 unfold lkE scN at *
 have hnf : ofV Value.nilFunc = .v .nilFunc := rfl
 cases c1 : (q.kind == 1) with
 | true =>
  refine eZ [] Tryz.func86 ?_
  (repeat revert X); refine wE (And.intro tfNwD c1) ?_; repeat intro X hX
  refine callPS (hE q.e) (by simp only [List.map_cons, List.map_nil, PV.settle, PV.settles, Ex.settle_pv]) zn_leave ?_
  rintro v mc ⟨rfl, rfl⟩
  refine wS aEQ_t ?_
  (repeat revert X); refine wE tfNwD ?_; repeat intro X hX
  refine wR Tryz.results86 ?_
  exact leave_same rfl ⟨q.lhs, rfl, hl, rfl⟩
 | false =>
 cases c2 : (q.kind == 2) with
 | true =>
  cases d0 : decide (idxF (fun n : No => eqS n.name q.name) ns 0 < 0) with
  | true =>
   refine eZ [] Tryz.func86 ?_
   (repeat revert X); refine wD (And.intro tfNwD (And.intro c1 c2)) ?_; repeat intro X hX
   refine callE (hF _) ?_
   refine wS (And.intro @pI.eq_1 d0) ?_
   (repeat revert X); refine wD tfNwD ?_; repeat intro X hX
   exact callP (hfl _) zn_leave (fun v m' h => h.elim)
  | false =>
   refine eZ [] Tryz.func86 ?_
   (repeat revert X); refine wD (And.intro tfNwD (And.intro c1 c2)) ?_; repeat intro X hX
   refine callE (hF _) ?_
   refine wS (And.intro @pI.eq_1 d0) ?_
   (repeat (first | refine aSeq fun X hX => ?_ | refine aBlk ?_ | refine aSkip ?_ | (first | apply aReg | apply aIf); simp -implicitDefEqProofs only [↓slp, slb, ↓reduceIte, reduceCtorEq, jA, jB, jE, tfNwD] | apply hX; clear hX X | intro hlen; unfold maxLen at hlen))
   obtain ⟨I, hI⟩ : ∃ I : F → M → Prop, ∀ f m', I f m' = (∃ i : Nat, i ≤ q.args.length ∧ f 0 = .ep [.sl .no (E.map En.pv), .sl .no (ns.map No.pv)] ∧ f 4 = .ep [.sl .no (V.map Va.pv), .sl .no (O.map pS)] ∧ f 5 = .ep q.cs ∧ f 35 = .sl .no (q.args.map Ex.pv) ∧ f 36 = pI q.args.length ∧ f 37 = pI i ∧ m = m') := ⟨_, fun _ _ => rfl⟩
   refine aLoop I (fun f m => q.args.length - numOf (f 37)) ?_ ?_
   ·rw [hI]; exact ⟨0, by omega, rfl, rfl, rfl, rfl, rfl, rfl, rfl⟩
   intro f m' hrel
   rw [hI] at hrel
   obtain ⟨i, hi', f0, f4, f5, f35, f36, f37, rfl⟩ := hrel
   cases d1 : decide ((i : Int) < (q.args.length : Int)) with
   | true =>
    have hlt : i < q.args.length := by simpa using d1
    have g0 := getD_map Ex.pv q.args i hlt
    have hi : IntKind.i64.wrap ((i : Int) + 1) = ((i + 1 : Nat) : Int) := by rw [wrap64 (by omega)]; omega
    have hme : numOf (f 37) = i := by rw [f37]; exact Int.toNat_natCast i
    (repeat (first | refine aSeq fun X hX => ?_ | refine aSkip ?_ | (first | apply aReg | apply aIf); simp -implicitDefEqProofs only [↓slp, slb, ↓reduceIte, reduceCtorEq, jA, jB, jE, jF, tfNwD, f0, f4, f35, f36, f37, pI, d1, g0]; try simp only [fo] | apply hX; clear hX X | apply And.intro; focus omega))
    refine callP (hE _) zn_leave ?_
    rintro v m' ⟨rfl, rfl⟩
    refine wS (And.intro tfNwD (And.intro f37 @pI.eq_1)) ?_
    (repeat (first | refine aReg ?_; simp -implicitDefEqProofs only [↓slp, slb, ↓reduceIte, jA, tfNwD, f37, pI, hi]; try simp only [fo] | apply hX; clear hX X))
    rw [hI]
    exact ⟨⟨i + 1, hlt, f0, f4, f5, f35, f36, rfl, rfl⟩, by omega⟩
   | false =>
    cases hh : q.has with
    | false =>
     (repeat revert X); refine wE (And.intro tfNwD (And.intro f5 (And.intro f36 (And.intro f37 (And.intro @pI.eq_1 (And.intro d1 hh)))))) ?_; repeat intro X hX
     refine wR Tryz.results86 ?_
     exact leave_same rfl ⟨q.lhs, rfl, hl, rfl⟩
    | true =>
     (repeat revert X); refine wE (And.intro tfNwD (And.intro f0 (And.intro f4 (And.intro f5 (And.intro f36 (And.intro f37 (And.intro @pI.eq_1 (And.intro d1 hh)))))))) ?_; repeat intro X hX
     refine callPS (hE q.e) (by simp only [List.map_cons, List.map_nil, PV.settle, PV.settles, Ex.settle_pv]) zn_leave ?_
     rintro v mc ⟨rfl, rfl⟩
     refine wS aEQ_t ?_
     (repeat revert X); refine wE (And.intro tfNwD f5) ?_; repeat intro X hX
     refine wR Tryz.results86 ?_
     exact leave_same rfl ⟨q.lhs, rfl, hl, rfl⟩
 | false =>
 cases c5 : (q.kind == 5) with
 | true =>
  obtain ⟨a, r, har, hB⟩ := h5 (by simpa using c5)
  have hB := hB V O m (.v .nilFunc) hV hO (.inl rfl)
  unfold lkE scN at hB
  refine eZ [] Tryz.func86 ?_
  (repeat revert X); refine wE (And.intro tfNwD (And.intro c1 (And.intro c2 (And.intro c5 har)))) ?_; repeat intro X hX
  refine aDrwZ 7 (fun m2 => m2 = m) (by simp) rfl rfl (by kernel_rfl) (by kernel_rfl) rfl ?_
  refine wG (And.intro tfNwD hnf) ?_
  refine callP hB zn_leave ?_
  rintro v mc ⟨out, rfl, hpo, rfl⟩
  refine ⟨rfl, ?_⟩
  try (simp -implicitDefEqProofs only [↓slp, slb, ↓reduceIte, reduceCtorEq, jA, jB, jC, jD, jE, jF, jG, jH, jI, jJ, jK, tfNwD, har])
  (repeat revert X); refine wE tfNwD ?_; repeat intro X hX
  refine callPS (hE q.e) (by simp only [List.map_cons, List.map_nil, PV.settle, PV.settles, Ex.settle_pv]) zn_leave ?_
  rintro v mc ⟨rfl, rfl⟩
  refine wS aEQ_t ?_
  (repeat revert X); refine wE aEQ_t ?_; repeat intro X hX
  refine wR Tryz.results86 ?_
  exact leave_same rfl ⟨out, rfl, hpo, rfl⟩
 | false =>
 cases c3 : (q.kind == 3) with
 | true =>
  refine eZ [] Tryz.func86 ?_
  (repeat revert X); refine wE (And.intro tfNwD (And.intro c1 (And.intro c2 (And.intro c5 c3)))) ?_; repeat intro X hX
  refine callPS (hE q.e) (by simp only [List.map_cons, List.map_nil, PV.settle, PV.settles, Ex.settle_pv]) zn_leave ?_
  rintro v mc ⟨rfl, rfl⟩
  refine wS aEQ_t ?_
  (repeat revert X); refine wE tfNwD ?_; repeat intro X hX
  refine callPS hA (by simp only [List.map_cons, List.map_nil, PV.settle, PV.settles]) zn_leave ?_
  rintro v mc ⟨out, rfl, hpo, rfl⟩
  refine wS aEQ_t ?_
  (repeat revert X); refine wE aEQ_t ?_; repeat intro X hX
  refine wR Tryz.results86 ?_
  exact leave_same rfl ⟨out, rfl, hpo, rfl⟩
 | false =>
  refine eZ [] Tryz.func86 ?_
  (repeat revert X); refine wE (And.intro tfNwD (And.intro c1 (And.intro c2 (And.intro c5 c3)))) ?_; repeat intro X hX
  refine callPS hA (by simp only [List.map_cons, List.map_nil, PV.settle, PV.settles]) zn_leave ?_
  rintro v mc ⟨out, rfl, hpo, rfl⟩
  refine wS aEQ_t ?_
  (repeat revert X); refine wE aEQ_t ?_; repeat intro X hX
  refine wR Tryz.results86 ?_
  exact leave_same rfl ⟨out, rfl, hpo, rfl⟩

def tfNwE := tfNwB

theorem am_lenW (l : List Am) : ∀ x ∈ l.map Am.pv, x.cells.length = 7 := fun x hx => by
 obtain ⟨s, _, rfl⟩ := List.mem_map.1 hx
 rw [Am.pv_eq]; rfl
theorem zn_toks {m mm : M} (h : Toks m mm) (v : PV) (m' : M) (hz : ZN mm v m') : LeaveZ m (ZN m) v m' := by
 obtain ⟨⟨k, l, c, rfl⟩, rfl⟩ := hz
 exact leave_toks0 h rfl ⟨⟨k, l, c, rfl⟩, rfl⟩
def pLS (l : List Str) : PV := .sl .no (l.map pS)
theorem pLS_len (l : List (List Str)) : ∀ x ∈ l.map pLS, x.cells.length = 1 := fun x hx => by
 obtain ⟨s, _, rfl⟩ := List.mem_map.1 hx; rfl
set_option maxHeartbeats 16000000 in
theorem narms_step (ns : List No) (E : List En) (b : Am → Nat) (B : Nat) (q : Qu) (hb : (q.arms.map b).sum ≤ B) (hn : q.arms.length ≤ B) (hB0 : ∀ a ∈ q.arms, BlkW ns E (b a) a.vars a.eqs) : ArmsW ns E B q := by
 intro V O m hV hO
 have hW := fun (k : Nat) (h : k < q.arms.length) m => nways_any ns E V O q q.arms[k].unl m
 have hB := fun (k : Nat) (h : k < q.arms.length) (m : M) => hB0 q.arms[k] (List.getElem_mem h) V O m (.fn (.func 112) [] [.ep [lkE E ns], .ep q.cs, .ep q.arms[k].cs]) (by have := sum_mem b (List.getElem_mem h); omega) (by have := sum_mem b (List.getElem_mem h); omega) (.inr ⟨q, q.arms[k], rfl⟩)
 have hCn := fun (k : Nat) (h : k < q.arms.length) (o : Own) (m : M) => conAm_any o (q.arms.take k) (fun x => eqS x.name q.arms[k].name) 110 (.ep q.arms[k].cs) m (fun j hj m => armC (q.arms.take k)[j] q.arms[k] m)
 have hct := fun (o : Own) (l : List Str) (s : Str) (m : M) => contains_any o l s m
 have hfv := fun (s : Str) (m : M) => findVar_any .no V s m
 have hf4 := fun (k : Nat) (h : k < q.arms.length) m => nfail_any 4 q.arms[k].line q.arms[k].col rfl m
 have hf5 := fun (k : Nat) (h : k < q.arms.length) m => nfail_any 5 q.arms[k].line q.arms[k].col rfl m
 rw [Qu.pv_eq] at hW
 simp only [Qu.cs, Am.cs] at hW hB hCn
 unfold lkE scN at *
 refine eZ [] Tryz.func101 ?_
 (repeat revert X); refine wE tfNwE ?_; repeat intro X hX
 obtain ⟨I, hI⟩ : ∃ I : F → M → Prop, ∀ f m', I f m' = (∃ (k : Nat) (al : List Str) (Ls : List (List Str)) (o7 o8 : Own) (mm : M), k ≤ q.arms.length ∧ f 3 = .ep [.ep [.sl .no (E.map En.pv), .sl .no (ns.map No.pv)]] ∧ f 4 = .ep [.sl .no (V.map Va.pv), .sl .no (O.map pS)] ∧ f 5 = .ep q.cs ∧ f 7 = .sl o7 (al.map pS) ∧ f 8 = .sl o8 (Ls.map pLS) ∧ f 20 = .sl .no (q.arms.map Am.pv) ∧ f 21 = pI q.arms.length ∧ f 22 = pI k ∧ Ls.length = k ∧ al.length ≤ ((q.arms.take k).map b).sum ∧ Toks m mm ∧ Mine m mm o7 1 ∧ Mine m mm o8 1 ∧ (∀ t, o7 = .tok t → o8 ≠ .tok t) ∧ mm = m') := ⟨_, fun _ _ => rfl⟩
 refine aLoop I (fun f m => q.arms.length - numOf (f 22)) ?_ ?_
 ·rw [hI]; exact ⟨0, [], [], .full, .full, m, by omega, rfl, rfl, rfl, rfl, rfl, rfl, rfl, rfl, rfl, Nat.zero_le _, .refl _, .full, .full, (fun t h => by cases h), rfl⟩
 intro f m' hrel
 rw [hI] at hrel
 obtain ⟨k, al, Ls, o7, o8, mm, hkl, f3, f4, f5, f7, f8, f20, f21, f22, hLl, hal, htk, hm7, hm8, hne, rfl⟩ := hrel
 cases c1 : decide ((k : Int) < (q.arms.length : Int)) with
 | true =>
  have hlt : k < q.arms.length := by simpa using c1
  have g0 := getD_map Am.pv q.arms k hlt
  have hi : IntKind.i64.wrap ((k : Int) + 1) = ((k + 1 : Nat) : Int) := by rw [wrap64 (by omega)]; omega
  have hme : numOf (f 22) = k := by rw [f22]; exact Int.toNat_natCast k
  have hmt : (q.arms.map Am.pv).take k = (q.arms.take k).map Am.pv := by rw [List.map_take]
  have hsb := sum_takeS b q.arms k hlt
  have hst : ((q.arms.take (k + 1)).map b).sum = ((q.arms.take k).map b).sum + b q.arms[k] := by rw [List.take_succ_eq_append_getElem hlt, List.map_append, List.sum_append]; simp
  have hW1 := hW k hlt
  have hB1 := hB k hlt
  have hC1 := hCn k hlt
  have hf41 := hf4 k hlt
  clear hW hB hCn hf4
  generalize q.arms[k] = a at *
  cases c4 : (q.kind == 4) <;> cases b1 : decide (idxF (fun x : Am => eqS x.name a.name) (q.arms.take k) 0 ≥ 0)
  all_goals
   (repeat (first | refine aSeq fun X hX => ?_ | refine aSkip ?_ | (first | apply aReg | apply aIf); simp -implicitDefEqProofs only [forall_eq, ↓slp, slb, ↓reduceIte, reduceCtorEq, jA, jB, jC, jD, jE, jF, jG, jH, jI, jJ, jK, tfNwE, f3, f4, f5, f7, f8, f20, f21, f22, pI, c4, c1, g0, hmt] | apply hX; clear hX X | apply And.intro; focus omega))
   first
    | (refine ⟨⟨by omega, _, rfl, am_lenW _⟩, callE (hC1 _ _) ?_⟩
       simp -implicitDefEqProofs only [↓slp, slb, ↓reduceIte, reduceCtorEq, jA, jB, jC, jD, jE, jF, jG, jH, jI, jJ, jK, tfNwE, pB, b1, f3, f4, f5, f7, f8, f20, f21, f22, pI])
    | skip
   (repeat (first | refine aSeq fun X hX => ?_ | refine aSkip ?_ | (first | apply aReg | apply aIf); simp -implicitDefEqProofs only [forall_eq, ↓slp, slb, ↓reduceIte, reduceCtorEq, jA, jB, jC, jD, jE, jF, jG, jH, jI, jJ, jK, tfNwE, f3, f4, f5, f7, f8, f20, f21, f22, pI, c4] | apply hX; clear hX X))
   first
    | exact callP (hf41 _) (zn_toks htk) (fun v m' h => h.elim)
    | refine callP (hW1 _) (zn_toks htk) ?_
      rintro v mc ⟨rfl, hmc⟩
      have hmc' := hmc.symm
      clear hmc
      subst hmc'
      refine wS (And.intro tfNwE (And.intro f3 (And.intro f4 f5))) ?_
      (repeat revert X); refine wE (And.intro tfNwE (And.intro f3 (And.intro f4 (And.intro f5 (And.intro f7 f8))))) ?_; repeat intro X hX
      refine callP (hB1 _) (zn_toks htk) ?_
      rintro v mc ⟨out, rfl, hpo, hmc⟩
      have hmc' := hmc.symm
      clear hmc
      subst hmc'
      refine wS (And.intro tfNwE (And.intro f3 (And.intro f4 (And.intro f5 (And.intro f7 f8))))) ?_
      have hfr8 := hm8.free
      have hLm := pLS_len Ls
      have hmx : Ls.length + 1 ≤ maxLen := by unfold maxLen; omega
      have t1 := htk.use (s := 1) hm8
      have g8 := Mine.new htk o8 1
      have hne' : ∀ t, o8 = .tok t → o7 ≠ .tok t := fun t h1 h2 => hne t h2 h1
      have g7 := Mine.other (s := 1) hm7 hne'
      have gn := Mine.new_ne hm7
      (repeat (first | refine aSeq fun X hX => ?_ | refine aBlk ?_ | refine aReg ?_; simp -implicitDefEqProofs only [forall_eq, ↓slp, slb, ↓reduceIte, reduceCtorEq, jA, jB, jC, jD, jE, jF, jG, jH, jI, jJ, jK, tfNwE, f3, f4, f5, f7, f8, f20, f21, f22, pI] | apply hX; clear hX X | intro hlen; unfold maxLen at hlen | apply And.intro; focus ((repeat' apply And.intro) <;> first | omega | assumption)))
      obtain ⟨J, hJ⟩ : ∃ J : F → M → Prop, ∀ f m', J f m' = (∃ (j : Nat) (a2 : List Str) (o : Own) (m2 : M), j ≤ out.length ∧ f 3 = .ep [.ep [.sl .no (E.map En.pv), .sl .no (ns.map No.pv)]] ∧ f 4 = .ep [.sl .no (V.map Va.pv), .sl .no (O.map pS)] ∧ f 5 = .ep q.cs ∧ f 7 = .sl o (a2.map pS) ∧ f 8 = .sl (.tok mm.nt) ((Ls ++ [out]).map pLS) ∧ f 20 = .sl .no (q.arms.map Am.pv) ∧ f 21 = pI q.arms.length ∧ f 22 = pI k ∧ f 57 = .sl .no (out.map pS) ∧ f 58 = pI out.length ∧ f 59 = pI j ∧ a2.length ≤ al.length + j ∧ Toks m m2 ∧ Mine m m2 o 1 ∧ Mine m m2 (.tok mm.nt) 1 ∧ (∀ t, o = .tok t → Own.tok mm.nt ≠ .tok t) ∧ m2 = m') := ⟨_, fun _ _ => rfl⟩
      refine aLoop J (fun f m => out.length - numOf (f 59)) ?_ ?_
      ·rw [hJ]
       exact ⟨0, al, o7, (o8.use mm).fresh 1, by omega, f3, f4, f5, f7, by rw [List.map_append]; rfl, f20, f21, f22, rfl, rfl, rfl, Nat.le_refl _, t1, g7, g8, gn, rfl⟩
      clear f3 f4 f5 f7 f8 f20 f21 f22
      intro f m' hrel
      rw [hJ] at hrel
      obtain ⟨j, a2, o, m2, hj, f3, f4, f5, f7, f8, f20, f21, f22, f57, f58, f59, ha2, htk2, hmo, hm8', hne2, rfl⟩ := hrel
      cases d1 : decide ((j : Int) < (out.length : Int)) with
      | true =>
       have hltj : j < out.length := by simpa using d1
       have gj := getD_map pS out j hltj
       have hij : IntKind.i64.wrap ((j : Int) + 1) = ((j + 1 : Nat) : Int) := by rw [wrap64 (by omega)]; omega
       have hmej : numOf (f 59) = j := by rw [f59]; exact Int.toNat_natCast j
       have hcc := hct o a2 out[j]
       generalize hoj : out[j] = cc at *
       have hfro := hmo.free
       have hLa := str_one a2
       have h1 : ∀ x ∈ [pS cc], x.cells.length = 1 := str_one [cc]
       have hmx2 : a2.length + 1 ≤ maxLen := by unfold maxLen; omega
       cases hh : hasS a2 cc with
       | false =>
        (repeat (first | refine aSeq fun X hX => ?_ | refine aSkip ?_ | (first | apply aReg | apply aIf); simp -implicitDefEqProofs only [forall_eq, ↓slp, slb, ↓reduceIte, reduceCtorEq, jA, jB, jC, jD, jE, jF, jG, jH, jI, jJ, jK, tfNwE, f3, f4, f5, f7, f8, f57, f58, f59, pI, d1, gj] | apply hX; clear hX X | apply And.intro; focus omega))
        refine callE (hcc _) ?_
        refine wS (And.intro tfNwE (And.intro @pB.eq_1 (And.intro hh f7))) ?_
        (repeat (first | (first | apply aReg | apply aIf); simp -implicitDefEqProofs only [forall_eq, ↓slp, slb, ↓reduceIte, reduceCtorEq, jA, jB, jC, jD, jE, jF, jG, jH, jI, jJ, jK, tfNwE, hh, f7, f59, pI, hij, pS] | apply hX; clear hX X | apply And.intro; focus ((repeat' apply And.intro) <;> first | omega | assumption)))
        rw [hJ]
        exact ⟨⟨j + 1, a2 ++ [cc], .tok m2.nt, (o.use m2).fresh 1, hltj, f3, f4, f5, by rw [List.map_append]; rfl, f8, f20, f21, f22, f57, f58, rfl, by rw [List.length_append]; simp; omega, htk2.use hmo, Mine.new htk2 o 1, Mine.other (s := 1) hm8' hne2, Mine.ne_new hm8', rfl⟩, by omega⟩
       | true =>
        (repeat (first | refine aSeq fun X hX => ?_ | refine aSkip ?_ | (first | apply aReg | apply aIf); simp -implicitDefEqProofs only [forall_eq, ↓slp, slb, ↓reduceIte, reduceCtorEq, jA, jB, jC, jD, jE, jF, jG, jH, jI, jJ, jK, tfNwE, f3, f4, f5, f7, f8, f57, f58, f59, pI, d1, gj] | apply hX; clear hX X | apply And.intro; focus omega))
        refine callE (hcc _) ?_
        refine wS (And.intro tfNwE (And.intro @pB.eq_1 (And.intro hh f7))) ?_
        (repeat (first | refine aSkip ?_ | (first | apply aReg | apply aIf); simp -implicitDefEqProofs only [forall_eq, ↓slp, slb, ↓reduceIte, reduceCtorEq, jA, jB, jC, jD, jE, jF, jG, jH, jI, jJ, jK, tfNwE, hh, f7, f59, pI, hij, pS] | apply hX; clear hX X))
        rw [hJ]
        exact ⟨⟨j + 1, a2, o, m2, hltj, f3, f4, f5, f7, f8, f20, f21, f22, f57, f58, rfl, by omega, htk2, hmo, hm8', hne2, rfl⟩, by omega⟩
      | false =>
       have hj' : j = out.length := by simp at d1; omega
       subst hj'
       (repeat (first | refine aSeq fun X hX => ?_ | refine aExit ?_; try simp only [slx, ↓reduceIte, jA, reduceCtorEq] | (first | apply aReg | apply aIf); simp -implicitDefEqProofs only [forall_eq, ↓slp, slb, ↓reduceIte, reduceCtorEq, jA, jB, jC, jD, jE, jF, jG, jH, jI, jJ, jK, tfNwE, f3, f4, f5, f7, f8, f20, f21, f22, f57, f58, f59, pI, d1, hi] | apply hX; clear hX X | clear hX X; apply hX; clear hX X))
       rw [hI]
       exact ⟨⟨k + 1, a2, Ls ++ [out], o, .tok mm.nt, m2, hlt, f3, f4, f5, f7, f8, f20, f21, rfl, by simp [hLl], by omega, htk2, hmo, hm8', hne2, rfl⟩, by omega⟩
 | false =>
  have hkk : k = q.arms.length := by simp at c1; omega
  rw [hkk, List.take_length] at hal
  have hLl2 : Ls.length = q.arms.length := by omega
  clear hI
  have halB : al.length ≤ B := by omega
  (repeat revert X); refine wE (And.intro tfNwE (And.intro f3 (And.intro f4 (And.intro f5 (And.intro f7 (And.intro f8 (And.intro f20 (And.intro f21 (And.intro f22 (And.intro @pI.eq_1 c1)))))))))) ?_; repeat intro X hX
  obtain ⟨I, hI⟩ : ∃ I : F → M → Prop, ∀ f m', I f m' = (∃ (i : Nat), i ≤ Ls.length ∧ f 4 = .ep [.sl .no (V.map Va.pv), .sl .no (O.map pS)] ∧ f 5 = .ep q.cs ∧ f 7 = .sl o7 (al.map pS) ∧ f 73 = .sl o8 (Ls.map pLS) ∧ f 74 = pI Ls.length ∧ f 75 = pI i ∧ mm = m') := ⟨_, fun _ _ => rfl⟩
  refine aLoop I (fun f m => Ls.length - numOf (f 75)) ?_ ?_
  ·rw [hI]; exact ⟨0, by omega, f4, f5, f7, rfl, rfl, rfl, rfl⟩
  clear f3 f4 f5 f7 f8 f20 f21 f22
  intro f m' hrel
  rw [hI] at hrel
  obtain ⟨i, hi0, f4, f5, f7, f73, f74, f75, rfl⟩ := hrel
  cases d1 : decide ((i : Int) < (Ls.length : Int)) with
  | false =>
   (repeat revert X); refine wE (And.intro tfNwE (And.intro f4 (And.intro f5 (And.intro f7 (And.intro f73 (And.intro f74 (And.intro f75 (And.intro @pI.eq_1 d1)))))))) ?_; repeat intro X hX
   refine wQ Tryz.results101 (And.intro tfNwE f7) ?_
   exact leave_toks0 htk rfl ⟨al, rfl, halB, rfl⟩
  | true =>
   have hlti : i < Ls.length := by simpa using d1
   have hlta : i < q.arms.length := by omega
   have gi := getD_map pLS Ls i hlti
   have ga := getD_map Am.pv q.arms i hlta
   have hii : IntKind.i64.wrap ((i : Int) + 1) = ((i + 1 : Nat) : Int) := by rw [wrap64 (by omega)]; omega
   have hmei : numOf (f 75) = i := by rw [f75]; exact Int.toNat_natCast i
   have hf51 := hf5 i hlta
   generalize Ls[i] = out at *
   generalize q.arms[i] = a at *
   replace gi : (Ls.map pLS).getD i .junk = .sl .no (out.map pS) := gi
   (repeat (first | refine aSeq fun X hX => ?_ | refine aBlk ?_ | refine aSkip ?_ | (first | apply aReg | apply aIf); simp -implicitDefEqProofs only [forall_eq, ↓slp, slb, ↓reduceIte, reduceCtorEq, jA, jB, jC, jD, jE, jF, jG, jH, jI, jJ, jK, tfNwE, f4, f5, f7, f73, f74, f75, pI, d1, gi] | apply hX; clear hX X | intro hlen; unfold maxLen at hlen | apply And.intro; focus omega))
   obtain ⟨J, hJ⟩ : ∃ J : F → M → Prop, ∀ f m', J f m' = (∃ (j : Nat), j ≤ al.length ∧ f 4 = .ep [.sl .no (V.map Va.pv), .sl .no (O.map pS)] ∧ f 5 = .ep q.cs ∧ f 7 = .sl o7 (al.map pS) ∧ f 73 = .sl o8 (Ls.map pLS) ∧ f 74 = pI Ls.length ∧ f 75 = pI i ∧ f 14 = pI i ∧ f 15 = .sl .no (out.map pS) ∧ f 80 = .sl o7 (al.map pS) ∧ f 81 = pI al.length ∧ f 82 = pI j ∧ mm = m') := ⟨_, fun _ _ => rfl⟩
   refine aLoop J (fun f m => al.length - numOf (f 82)) ?_ ?_
   ·rw [hJ]; exact ⟨0, by omega, f4, f5, f7, f73, f74, f75, rfl, rfl, rfl, rfl, rfl, rfl⟩
   clear f4 f5 f7 f73 f74 f75
   intro f m' hrel
   rw [hJ] at hrel
   obtain ⟨j, hj, f4, f5, f7, f73, f74, f75, f14, f15, f80, f81, f82, rfl⟩ := hrel
   cases d2 : decide ((j : Int) < (al.length : Int)) with
   | false =>
    (repeat (first | refine aSeq fun X hX => ?_ | refine aExit ?_; try simp only [slx, ↓reduceIte, jA, reduceCtorEq] | (first | apply aReg | apply aIf); simp -implicitDefEqProofs only [forall_eq, ↓slp, slb, ↓reduceIte, reduceCtorEq, jA, jB, jC, jD, jE, jF, jG, jH, jI, jJ, jK, tfNwE, f4, f5, f7, f73, f74, f75, f14, f15, f80, f81, f82, pI, d2, hii] | apply hX; clear hX X | clear hX X; apply hX; clear hX X))
    rw [hI]
    exact ⟨⟨i + 1, hlti, f4, f5, f7, f73, f74, rfl, rfl⟩, by omega⟩
   | true =>
    have hltj : j < al.length := by simpa using d2
    have gj := getD_map pS al j hltj
    have hij : IntKind.i64.wrap ((j : Int) + 1) = ((j + 1 : Nat) : Int) := by rw [wrap64 (by omega)]; omega
    have hmej : numOf (f 82) = j := by rw [f82]; exact Int.toNat_natCast j
    have hfv1 := hfv al[j]
    have hcc := hct .no out al[j]
    have hfl : findVar V al[j] < (V.length : Int) := idxF_lt V
    generalize al[j] = cc at *
    cases h1 : hasS out cc with
    | true =>
     (repeat (first | refine aSeq fun X hX => ?_ | refine aSkip ?_ | (first | apply aReg | apply aIf); simp -implicitDefEqProofs only [forall_eq, ↓slp, slb, ↓reduceIte, reduceCtorEq, jA, jB, jC, jD, jE, jF, jG, jH, jI, jJ, jK, tfNwE, f4, f5, f7, f73, f74, f75, f14, f15, f80, f81, f82, pI, pS, d2, gj] | apply hX; clear hX X | apply And.intro; focus omega))
     refine callE (hfv1 _) ?_
     refine wS (And.intro tfNwE (And.intro @pI.eq_1 (And.intro @pS.eq_1 (And.intro f4 (And.intro f5 (And.intro f15 f82)))))) ?_
     (repeat revert X); refine wE (And.intro tfNwE (And.intro @pI.eq_1 (And.intro @pS.eq_1 (And.intro f4 (And.intro f5 (And.intro f15 f82)))))) ?_; repeat intro X hX
     refine callE (hcc _) ?_
     simp -implicitDefEqProofs only [↓slp, slb, ↓reduceIte, reduceCtorEq, jA, jB, jC, jD, jE, jF, jG, jH, jI, jJ, jK, tfNwE, pB, h1, pI, pS, f4, f5, f15, f82, hij]
     (repeat (first | refine aSkip ?_ | (first | apply aReg | apply aIf); simp -implicitDefEqProofs only [forall_eq, ↓slp, slb, ↓reduceIte, reduceCtorEq, jA, jB, jC, jD, jE, jF, jG, jH, jI, jJ, jK, tfNwE, pB, h1, pI, pS, f4, f5, f15, f82, hij] | apply hX; clear hX X))
     rw [hJ]
     exact ⟨⟨j + 1, hltj, f4, f5, f7, f73, f74, f75, f14, f15, f80, f81, rfl, rfl⟩, by omega⟩
    | false =>
     cases h2 : decide (findVar V cc < 0) with
     | true =>
      (repeat (first | refine aSeq fun X hX => ?_ | refine aSkip ?_ | (first | apply aReg | apply aIf); simp -implicitDefEqProofs only [forall_eq, ↓slp, slb, ↓reduceIte, reduceCtorEq, jA, jB, jC, jD, jE, jF, jG, jH, jI, jJ, jK, tfNwE, f4, f5, f7, f73, f74, f75, f14, f15, f80, f81, f82, pI, pS, d2, gj] | apply hX; clear hX X | apply And.intro; focus omega))
      refine callE (hfv1 _) ?_
      refine wS (And.intro tfNwE (And.intro @pI.eq_1 (And.intro @pS.eq_1 (And.intro f4 (And.intro f5 (And.intro f15 f82)))))) ?_
      (repeat revert X); refine wE (And.intro tfNwE (And.intro @pI.eq_1 (And.intro @pS.eq_1 (And.intro f4 (And.intro f5 (And.intro f15 f82)))))) ?_; repeat intro X hX
      refine callE (hcc _) ?_
      simp -implicitDefEqProofs only [↓slp, slb, ↓reduceIte, reduceCtorEq, jA, jB, jC, jD, jE, jF, jG, jH, jI, jJ, jK, tfNwE, pB, h1, h2, pI, pS, f4, f5, f14, f15, f82, hij]
      (repeat revert X); refine wD (And.intro tfNwE (And.intro @pB.eq_1 (And.intro h1 (And.intro h2 (And.intro @pI.eq_1 (And.intro @pS.eq_1 (And.intro f4 (And.intro f5 (And.intro f14 (And.intro f15 (And.intro f82 (And.intro ga hlta)))))))))))) ?_; repeat intro X hX
      exact callP (hf51 _) (zn_toks htk) (fun v m' h => h.elim)
     | false =>
      have h0 : 0 ≤ findVar V cc := by simpa using h2
      obtain ⟨x, hx⟩ : ∃ x : Nat, findVar V cc = (x : Int) := ⟨(findVar V cc).toNat, by omega⟩
      have hlx : x < V.length := by omega
      have gx := getD_map Va.pv V x hlx
      rw [hx] at hfv1 h2
      cases h3 : V[x].last
      all_goals
       (repeat (first | refine aSeq fun X hX => ?_ | refine aSkip ?_ | (first | apply aReg | apply aIf); simp -implicitDefEqProofs only [forall_eq, ↓slp, slb, ↓reduceIte, reduceCtorEq, jA, jB, jC, jD, jE, jF, jG, jH, jI, jJ, jK, tfNwE, f4, f5, f7, f73, f74, f75, f14, f15, f80, f81, f82, pI, pS, d2, gj] | apply hX; clear hX X | apply And.intro; focus omega))
       refine callE (hfv1 _) ?_
       refine wS (And.intro tfNwE (And.intro @pI.eq_1 (And.intro @pS.eq_1 (And.intro f4 (And.intro f5 (And.intro f15 f82)))))) ?_
       (repeat revert X); refine wE (And.intro tfNwE (And.intro @pI.eq_1 (And.intro @pS.eq_1 (And.intro f4 (And.intro f5 (And.intro f15 f82)))))) ?_; repeat intro X hX
       refine callE (hcc _) ?_
       simp -implicitDefEqProofs only [↓slp, slb, ↓reduceIte, reduceCtorEq, jA, jB, jC, jD, jE, jF, jG, jH, jI, jJ, jK, tfNwE, pB, h1, h2, h3, gx, hlx, pI, pS, f4, f5, f14, f15, f82, hij]
       (repeat (first | refine aSkip ?_ | (first | apply aReg | apply aIf); simp -implicitDefEqProofs only [forall_eq, ↓slp, slb, ↓reduceIte, reduceCtorEq, jA, jB, jC, jD, jE, jF, jG, jH, jI, jJ, jK, tfNwE, pB, h1, h2, h3, gx, hlx, pI, pS, f4, f5, f14, f15, f82, ga, hlta, hij] | apply hX; clear hX X))
       first
        | exact callP (hf51 _) (zn_toks htk) (fun v m' h => h.elim)
        | rw [hJ]
          exact ⟨⟨j + 1, hltj, f4, f5, f7, f73, f74, f75, f14, f15, f80, f81, rfl, rfl⟩, by omega⟩
end Go.Proofs.YthhhnfjcaicjnaaGreatDoor
